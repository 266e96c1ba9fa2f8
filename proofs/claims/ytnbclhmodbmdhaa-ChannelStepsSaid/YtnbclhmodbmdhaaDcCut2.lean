/- Part Dc.Cut2 of a proof: lemmas. -/
import Derived.Test.YtnbclhmodbmdhaaDcCut
/-! Copying within and into owned slices; appending to parts of them. -/
namespace Go.Dc
variable {P : Program} {E : Env} {N : Nat} {Γ : List (Nat × RP)} {Ω : List OB} {ty : TypeId}

section
variable {α : Type} {e t : TypeId} {ρ : Rep α} {bytes : Nat} {x y : Operand} {hv : Value} {S : List Nat} {d : List α} {j : Nat}

theorem run_copy_call {a : Act} {o : Oper} (ho : o.op = .call ⟨.builtin .copy, #[x, y], #[t, t]⟩) {vx vy v : Value} (hx : a.eval x = vx) (hy : a.eval y = vy)
    {w w' : World} (h : (Builtin.copy_ #[t, t] o.type #[vx, vy]).run P w = .ok v w') : (execOp a.eval o).run P w = .ok (.value v) w' := by
  simp [execOp, ho, resolve, invoke, builtin, hx, hy, h]

/-- cells that go over into a row -/
theorem run_copy_to (hu : P.underlying t = some (.slice e)) (h : ElT P e ρ bytes) {w : World} {b p n c m yc q : Nat} {ya : Option Addr} {ct : TypeId} {L news : List Value} {ty : TypeId}
    (hb : w.heap[b]? = some (.cells L.toArray ct (0, 0))) (hq : q = Nat.min m n)
    (hn : (Builtin.firstCells ρ.size q (.slice ya m yc)).run P w = .ok news.toArray w) (hfit : p + news.length ≤ L.length) (h1 : ∀ v ∈ news, v.oneCell' = true) :
    (Builtin.copy_ #[t, t] ty #[.slice (some ⟨b, p, none⟩) n c, .slice ya m yc]).run P w = .ok (goInt q) (w.setRow b (L.take p ++ news ++ L.drop (p + news.length)).toArray) := by
  obtain ⟨i, hi, his, _⟩ := h.info
  have hst := run_storeCells_at P b p ct news 0 L.toArray w hb (by simpa using hfit) h1
  simp only [Nat.add_zero] at hst
  subst hq
  simp [Builtin.copy_, run_underlying hu, Builtin.lenOf, sizeOf, typeInfo, hi, his, hn, hst]

theorem subV_at {b off n c l m : Nat} (hl : c ≠ l) : subV (.slice (some ⟨b, off, none⟩) n c) ρ.size l m = .slice (some ⟨b, off + l * ρ.size, none⟩) (m - l) (c - l) := by
  simp [subV, hl, addr_add]

/-- copy(x[i+1:n+1], x[i:n+1]): one place is made -/
theorem s_shift {i : Nat} (hi : i < d.length) (hc : d.length + 1 ≤ capV hv) (hu : P.underlying t = some (.slice e)) (h : ElT P e ρ bytes)
    (hx : lkO Γ x = some (pv (subV hv ρ.size (i + 1) (d.length + 1)))) (hy : lkO Γ y = some (pv (subV hv ρ.size i (d.length + 1)))) (hj : Ω[j]? = some (oa ρ hv S d)) :
    St P E N (.call ⟨.builtin .copy, #[x, y], #[t, t]⟩) ty Γ Ω [j] (fun _ : Unit => iv .i64 ((d.length - i : Nat) : Int)) (fun _ => Ω.set j (oa ρ (subV hv ρ.size 0 (d.length + 1)) S (d.take (i + 1) ++ d.drop i))) := by
  intro a w hs
  have hvx : a.eval x = _ := hs.op hx
  have hvy : a.eval y = _ := hs.op hy
  have hob := hs.objAt hj
  obtain ⟨ad, c, rfl, hdc, _⟩ := id hob
  have hc' : d.length + 1 ≤ c := hc
  obtain ⟨b, off, ct, A, es, B, rfl, rfl, hn, hb, hA, hes, hsz, _, hel⟩ := oa_row hob (by omega)
  rw [subV_at (by omega)] at hvx hvy
  have hz : subV (.slice (some ⟨b, off, none⟩) d.length c) ρ.size 0 (d.length + 1) = .slice (some ⟨b, off, none⟩) (d.length + 1) c := by rw [subV_at (by omega)]; simp
  rw [hz]
  have hii : i * ρ.size + (d.length - i) * ρ.size = d.length * ρ.size := by rw [← Nat.add_mul]; congr 1; omega
  have hcc : d.length * ρ.size + ρ.size ≤ c * ρ.size := by rw [← Nat.succ_mul]; exact Nat.mul_le_mul_right _ hc'
  have h1s : (i + 1) * ρ.size = i * ρ.size + ρ.size := Nat.succ_mul _ _
  have hsz' : A.length + (d.length * ρ.size + B.length) = (A ++ es ++ B).length := by simp [hel]
  have hdn : (es.drop (i * ρ.size)).length = (d.length - i) * ρ.size := by rw [List.length_drop, hel]; omega
  have hp1 : ρ.size ≤ (d.length - i) * ρ.size := Nat.le_mul_of_pos_left _ (by omega)
  have hf := run_fc (P := P) (size := ρ.size) (m := d.length - i) (yc := c - i) (ya := some ⟨b, off + i * ρ.size, none⟩) (news := es.drop (i * ρ.size)) (w := w) hdn
    (.inr ⟨b, off + i * ρ.size, _, ct, (0, 0), rfl, hb, fun k hk => by
      rw [List.getElem?_toArray, List.append_assoc, List.getElem?_append_right (by omega), List.getElem?_append_left (by omega), List.getElem?_drop]; congr 1; omega⟩)
  have hf' : (Builtin.firstCells ρ.size (d.length - i) (.slice (some ⟨b, off + i * ρ.size, none⟩) (d.length + 1 - i) (c - i))).run P w = .ok (es.drop (i * ρ.size)).toArray w := by
    simpa [Builtin.firstCells] using hf
  have hr := fun ty' => run_copy_to (P := P) (ty := ty') hu h (b := b) (p := off + (i + 1) * ρ.size) (n := d.length + 1 - (i + 1)) (c := c - (i + 1)) (m := d.length + 1 - i) (yc := c - i) (q := d.length - i) (ya := some ⟨b, off + i * ρ.size, none⟩) hb
    (by simp only [Nat.min_def]; split <;> omega) hf' (by rw [hdn]; omega) (fun v hv => cp_atoms d hes v (List.mem_of_mem_drop hv))
  refine opwp_val (fun o ho ht => run_copy_call ho hvx hvy (hr _)) ?_
  have hpost := row_post (cells' := ((A ++ es ++ B).take (off + (i + 1) * ρ.size) ++ es.drop (i * ρ.size) ++ (A ++ es ++ B).drop (off + (i + 1) * ρ.size + (es.drop (i * ρ.size)).length)).toArray)
    (hv' := .slice (some ⟨b, off, none⟩) (d.length + 1) c) (d' := d.take (i + 1) ++ d.drop i) hs hj fun F w' hag _ hw' => by
    subst hw'
    refine row_oa (ct := ct) (A := A) (es := es.take ((i + 1) * ρ.size) ++ es.drop (i * ρ.size)) (B := (A ++ es ++ B).drop (off + (i + 1) * ρ.size + (es.drop (i * ρ.size)).length)) (setRow_heap w b _ _ ct (0, 0) hb) ?_ hA ?_ ?_ ?_ ?_
    · rw [← List.append_assoc A]
      congr 2
      rw [List.append_assoc, List.take_append, List.take_of_length_le (by omega), hA, Nat.add_sub_cancel_left, List.take_append_of_le_length (by rw [hel]; omega)]
    · rw [List.flatMap_append]
      exact (all_take (hes.mono hag) (i + 1)).append (all_drop (hes.mono hag) i)
    · simp only [List.length_append, List.length_take, List.length_drop, hel]
      rw [List.length_append, List.length_append, hel] at hsz
      omega
    · simp; omega
    · simp; omega
  exact ⟨(), hpost.1, rfl, hpost.2⟩

/-- cells go over into a part of what is ours -/
theorem copy_core {a : Act} {w : World} {l m m' yc : Nat} {ya : Option Addr} {d' : List α} {es' : List Value} (hs : Sat E N Γ Ω a w) (hj : Ω[j]? = some (oa ρ hv S d)) (hlm : l < m) (hm : m ≤ d.length) (hu : P.underlying t = some (.slice e)) (h : ElT P e ρ bytes)
    (hm' : d'.length = m') (hes' : AllP (fr E Ω) w (d'.flatMap ρ.cp) es')
    (hsrc : d'.length * ρ.size = 0 ∨ ∃ b off cells ty fz, ya = some ⟨b, off, none⟩ ∧ w.heap[b]? = some (.cells cells ty fz) ∧ ∀ j, j < d'.length * ρ.size → cells[off + j]? = es'[j]?)
    (hvx : a.eval x = subV hv ρ.size l m) (hvy : a.eval y = .slice ya m' yc) :
    opwp P (.call ⟨.builtin .copy, #[x, y], #[t, t]⟩) ty a.eval w fun v w' => ∃ _ : Unit, Sat E N Γ (Ω.set j (oa ρ hv S (d.take l ++ d'.take (m - l) ++ d.drop (l + min d'.length (m - l))))) a w' ∧
      v = .int .i64 ((min d'.length (m - l) : Nat) : Int) ∧ Eff Ω (Ω.set j (oa ρ hv S (d.take l ++ d'.take (m - l) ++ d.drop (l + min d'.length (m - l))))) [j] w w' := by
  have hob := hs.objAt hj
  obtain ⟨ad, c, rfl, hdc, _⟩ := id hob
  obtain ⟨b, off, ct, A, es, B, rfl, rfl, hn, hb, hA, hes, hsz, _, hel⟩ := oa_row hob (by omega)
  rw [subV_at (by omega)] at hvx
  subst hm'
  obtain ⟨q, hq⟩ : ∃ q, q = min d'.length (m - l) := ⟨_, rfl⟩
  have hq1 : q ≤ d'.length := by omega
  have hq2 : q ≤ m - l := by omega
  have hel' : es'.length = d'.length * ρ.size := by rw [hes'.length, cp_len]
  have hqs : q * ρ.size ≤ d'.length * ρ.size := Nat.mul_le_mul_right _ hq1
  have hql : (es'.take (q * ρ.size)).length = q * ρ.size := by rw [List.length_take, hel']; omega
  have hlq : l * ρ.size + q * ρ.size ≤ d.length * ρ.size := by rw [← Nat.add_mul]; exact Nat.mul_le_mul_right _ (by omega)
  have hls : l * ρ.size ≤ d.length * ρ.size := by omega
  have hf := run_fc (P := P) (size := ρ.size) (m := q) (yc := yc) (ya := ya) (news := es'.take (q * ρ.size)) (w := w) hql
    (hsrc.imp (fun h0 => by omega) fun ⟨b2, off2, cells2, ty2, fz2, h1, h2, h3⟩ => ⟨b2, off2, cells2, ty2, fz2, h1, h2, fun k hk => by
      rw [h3 k (by omega), List.getElem?_take, if_pos hk]⟩)
  have hf' : (Builtin.firstCells ρ.size q (.slice ya d'.length yc)).run P w = .ok (es'.take (q * ρ.size)).toArray w := by
    cases ya <;> simpa [Builtin.firstCells] using hf
  have hr := fun ty' => run_copy_to (P := P) (ty := ty') hu h (b := b) (p := off + l * ρ.size) (n := m - l) (c := c - l) (m := d'.length) (yc := yc) (q := q) (ya := ya) hb
    hq hf' (by rw [hql]; simp only [List.length_append, hel]; omega) (fun v hv => cp_atoms d' hes' v (List.mem_of_mem_take hv))
  refine opwp_val (fun o ho ht => run_copy_call ho hvx hvy (hr _)) ?_
  have htk : d'.take (m - l) = d'.take q := by
    rcases Nat.le_total d'.length (m - l) with h | h
    · rw [hq, Nat.min_eq_left h, List.take_of_length_le h, List.take_of_length_le (Nat.le_refl _)]
    · rw [hq, Nat.min_eq_right h]
  rw [htk, ← hq]
  have hpost := row_post (cells' := ((A ++ es ++ B).take (off + l * ρ.size) ++ es'.take (q * ρ.size) ++ (A ++ es ++ B).drop (off + l * ρ.size + (es'.take (q * ρ.size)).length)).toArray)
    (hv' := .slice (some ⟨b, off, none⟩) d.length c) (d' := d.take l ++ d'.take q ++ d.drop (l + q)) hs hj fun F w' hag _ hw' => by
    subst hw'
    have hd1 : (A ++ es ++ B).drop (off + l * ρ.size + (es'.take (q * ρ.size)).length) = es.drop ((l + q) * ρ.size) ++ B := by
      rw [hql, List.append_assoc, List.drop_append, List.drop_eq_nil_of_le (by omega), List.nil_append, hA, List.drop_append_of_le_length (by rw [hel]; omega)]
      congr 2; rw [Nat.add_mul]; omega
    have ht1 : (A ++ es ++ B).take (off + l * ρ.size) = A ++ es.take (l * ρ.size) := by
      rw [List.append_assoc, List.take_append, List.take_of_length_le (by omega), hA, Nat.add_sub_cancel_left, List.take_append_of_le_length (by rw [hel]; omega)]
    refine row_oa (ct := ct) (A := A) (es := es.take (l * ρ.size) ++ es'.take (q * ρ.size) ++ es.drop ((l + q) * ρ.size)) (B := B) (setRow_heap w b _ _ ct (0, 0) hb) ?_ hA ?_ ?_ ?_ ?_
    · rw [hd1, ht1]; simp
    · rw [List.flatMap_append, List.flatMap_append]
      exact ((all_take (hes.mono hag) l).append (all_take (hes'.mono hag) q)).append (all_drop (hes.mono hag) (l + q))
    · rw [hd1, ht1]
      simp only [List.length_append, List.length_take, List.length_drop, hel, hel'] at hsz ⊢
      rw [Nat.add_mul]; omega
    · simp; omega
    · simp; omega
  exact ⟨(), hpost.1, rfl, hpost.2⟩

/-- copy(x[l:m], y), y common -/
theorem s_copyS {l m : Nat} {d' : List α} (hlm : l < m) (hm : m ≤ d.length) (hu : P.underlying t = some (.slice e)) (h : ElT P e ρ bytes)
    (hx : lkO Γ x = some (pv (subV hv ρ.size l m))) (hj : Ω[j]? = some (oa ρ hv S d)) (hy : lkO Γ y = some (slv ρ d')) :
    St P E N (.call ⟨.builtin .copy, #[x, y], #[t, t]⟩) ty Γ Ω [j] (fun _ : Unit => iv .i64 ((min d'.length (m - l) : Nat) : Int)) (fun _ => Ω.set j (oa ρ hv S (d.take l ++ d'.take (m - l) ++ d.drop (l + min d'.length (m - l))))) := by
  intro a w hs
  obtain ⟨ya, yc, hvy, hyc, hyat⟩ := hs.op hy
  obtain ⟨es', hes', hnc⟩ := sl_news hyat
  exact copy_core hs hj hlm hm hu h rfl hes' (hnc.imp id fun ⟨b, off, cells, ty, fz, h1, _, h3, h4⟩ => ⟨b, off, cells, ty, fz, h1, h3, h4⟩) (hs.op hx) hvy

/-- copy(x[l:m], z[l2:m2]), both ours -/
theorem s_copyO {l m l2 m2 j2 : Nat} {hv2 : Value} {S2 : List Nat} {d2 : List α} (hlm : l < m) (hm : m ≤ d.length) (hlm2 : l2 < m2) (hm2 : m2 ≤ d2.length) (hu : P.underlying t = some (.slice e)) (h : ElT P e ρ bytes)
    (hx : lkO Γ x = some (pv (subV hv ρ.size l m))) (hj : Ω[j]? = some (oa ρ hv S d)) (hy : lkO Γ y = some (pv (subV hv2 ρ.size l2 m2))) (hj2 : Ω[j2]? = some (oa ρ hv2 S2 d2)) :
    St P E N (.call ⟨.builtin .copy, #[x, y], #[t, t]⟩) ty Γ Ω [j] (fun _ : Unit => iv .i64 ((min ((d2.take m2).drop l2).length (m - l) : Nat) : Int))
      (fun _ => Ω.set j (oa ρ hv S (d.take l ++ ((d2.take m2).drop l2).take (m - l) ++ d.drop (l + min ((d2.take m2).drop l2).length (m - l))))) := by
  intro a w hs
  have hvy : a.eval y = _ := hs.op hy
  have hob := hs.objAt hj2
  obtain ⟨ad, c, rfl, hdc, _⟩ := id hob
  obtain ⟨b, off, ct, A, es, B, rfl, rfl, hn, hb, hA, hes, hsz, _, hel⟩ := oa_row hob (by omega)
  rw [subV_at (by omega)] at hvy
  have hdl : ((d2.take m2).drop l2).length = m2 - l2 := by simp; omega
  have hml : (m2 - l2) * ρ.size + l2 * ρ.size = m2 * ρ.size := by rw [← Nat.add_mul]; congr 1; omega
  have hmd : m2 * ρ.size ≤ d2.length * ρ.size := Nat.mul_le_mul_right _ hm2
  refine copy_core (es' := (es.take (m2 * ρ.size)).drop (l2 * ρ.size)) hs hj hlm hm hu h hdl (all_drop (all_take hes m2) l2) (.inr ⟨b, off + l2 * ρ.size, _, ct, (0, 0), rfl, hb, fun k hk => ?_⟩) (hs.op hx) hvy
  rw [hdl] at hk
  rw [List.getElem?_toArray, List.append_assoc, List.getElem?_append_right (by omega), List.getElem?_append_left (by omega), List.getElem?_drop, List.getElem?_take, if_pos (by omega)]
  congr 1; omega

/-- append(x[:i], x[k:]...): a part is cut out -/
theorem s_appendSS {i k : Nat} (hik : i < k) (hk : k ≤ d.length) (hu : P.underlying t = some (.slice e)) (h : ElT P e ρ bytes)
    (hx : lkO Γ x = some (pv (subV hv ρ.size 0 i))) (hy : lkO Γ y = some (pv (subV hv ρ.size k d.length))) (hj : Ω[j]? = some (oa ρ hv S d)) :
    St P E N (.call ⟨.builtin .append, #[x, y], #[t, t]⟩) ty Γ Ω [j] (fun _ : Unit => pv (subV hv ρ.size 0 (i + (d.length - k)))) (fun _ => Ω.set j (oa ρ hv S (d.take i ++ d.drop k ++ d.drop (i + (d.length - k))))) := by
  intro a w hs
  have hvx : a.eval x = _ := hs.op hx
  have hvy : a.eval y = _ := hs.op hy
  have hob := hs.objAt hj
  obtain ⟨ad, c, rfl, hdc, _⟩ := id hob
  obtain ⟨b, off, ct, A, es, B, rfl, rfl, hn, hb, hA, hes, hsz, _, hel⟩ := oa_row hob (by omega)
  rw [subV_at (by omega)] at hvx ⊢
  simp only [Nat.zero_mul, Nat.add_zero, Nat.sub_zero] at hvx ⊢
  obtain ⟨ti, hi, his, _⟩ := h.info
  have e1 : (d.length - k) * ρ.size + k * ρ.size = d.length * ρ.size := by rw [← Nat.add_mul]; congr 1; omega
  have e2 : i * ρ.size ≤ k * ρ.size := Nat.mul_le_mul_right _ (by omega)
  have hdn : (es.drop (k * ρ.size)).length = (d.length - k) * ρ.size := by rw [List.length_drop, hel]; omega
  obtain ⟨ya, hya, hf⟩ : ∃ ya, subV (.slice (some ⟨b, off, none⟩) d.length c) ρ.size k d.length = .slice ya (d.length - k) (c - k) ∧
      (Builtin.firstCells ti.size (d.length - k) (.slice ya (d.length - k) (c - k))).run P w = .ok (es.drop (k * ρ.size)).toArray w := by
    by_cases hkd : k = d.length
    · exact ⟨_, rfl, run_fc (by rw [his, hdn]) (.inl (by rw [hkd]; simp))⟩
    · rw [subV_at (by omega)]
      refine ⟨_, rfl, run_fc (by rw [his, hdn]) (.inr ⟨b, off + k * ρ.size, _, ct, (0, 0), rfl, hb, fun q hq => ?_⟩)⟩
      rw [his] at hq
      rw [List.getElem?_toArray, List.append_assoc, List.getElem?_append_right (by omega), List.getElem?_append_left (by omega), List.getElem?_drop]; congr 1; omega
  rw [hya] at hvy
  have hr := fun ty' => run_app_room (P := P) t ty' e ti hu hi (off := off) (n := i) (c := c) hb hf (by rw [his, hdn]) (fun v hv => cp_atoms d hes v (List.mem_of_mem_drop hv)) (by omega)
    (by rw [his]; simpa using hsz)
  rw [his] at hr
  refine opwp_val (fun o ho ht => run_append_call ho hvx hvy (hr _)) ?_
  have hls : i * ρ.size ≤ d.length * ρ.size := by omega
  have hpost := row_post (cells' := ((A ++ es ++ B).take (off + i * ρ.size) ++ es.drop (k * ρ.size) ++ (A ++ es ++ B).drop (off + i * ρ.size + (es.drop (k * ρ.size)).length)).toArray)
    (hv' := .slice (some ⟨b, off, none⟩) d.length c) (d' := d.take i ++ d.drop k ++ d.drop (i + (d.length - k))) hs hj fun F w' hag _ hw' => by
    subst hw'
    have hd1 : (A ++ es ++ B).drop (off + i * ρ.size + (es.drop (k * ρ.size)).length) = es.drop ((i + (d.length - k)) * ρ.size) ++ B := by
      rw [hdn, List.append_assoc, List.drop_append, List.drop_eq_nil_of_le (by omega), List.nil_append, hA, List.drop_append_of_le_length (by rw [hel]; omega)]
      congr 2; rw [Nat.add_mul]; omega
    have ht1 : (A ++ es ++ B).take (off + i * ρ.size) = A ++ es.take (i * ρ.size) := by
      rw [List.append_assoc, List.take_append, List.take_of_length_le (by omega), hA, Nat.add_sub_cancel_left, List.take_append_of_le_length (by rw [hel]; omega)]
    refine row_oa (ct := ct) (A := A) (es := es.take (i * ρ.size) ++ es.drop (k * ρ.size) ++ es.drop ((i + (d.length - k)) * ρ.size)) (B := B) (setRow_heap w b _ _ ct (0, 0) hb) ?_ hA ?_ ?_ ?_ ?_
    · rw [hd1, ht1]; simp
    · rw [List.flatMap_append, List.flatMap_append]
      exact ((all_take (hes.mono hag) i).append (all_drop (hes.mono hag) k)).append (all_drop (hes.mono hag) (i + (d.length - k)))
    · rw [hd1, ht1]
      have e3 : (i + (d.length - k)) * ρ.size = i * ρ.size + (d.length - k) * ρ.size := Nat.add_mul _ _ _
      simp only [List.length_append, List.length_take, List.length_drop, hel] at hsz ⊢
      omega
    · simp; omega
    · simp; omega
  exact ⟨(), hpost.1, rfl, hpost.2⟩
end
end Go.Dc
