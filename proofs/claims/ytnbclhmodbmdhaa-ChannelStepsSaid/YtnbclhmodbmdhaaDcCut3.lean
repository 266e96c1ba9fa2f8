/- Part Dc.Cut3 of a proof: lemmas. -/
import Derived.Test.YtnbclhmodbmdhaaDcCut2
/-! A part of a slice with zeros appended; do two slices overlap. -/
namespace Go.Dc
variable {P : Program} {E : Env} {N : Nat} {Γ : List (Nat × RP)} {Ω : List OB} {ty : TypeId}

section
variable {α : Type} {e t yt : TypeId} {ρ : Rep α} {bytes : Nat} {x y : Operand} {hv : Value} {S : List Nat} {d : List α} {j : Nat}

theorem all_zero {F : FP} {w : World} {zs : Array Value} {z : α} (hs : zs.size = ρ.size) (hz : ∀ F w, AllP F w (ρ.cp z) zs.toList) (n : Nat) :
    AllP F w ((List.replicate n z).flatMap ρ.cp) (Builtin.zeroCells zs n).toList := by
  obtain ⟨es, h1, h2⟩ := SlH.list (ρ := ρ) (F := F) (w := w) (cells := Builtin.zeroCells zs n) (off := 0) (d := List.replicate n z) fun i hi => by
    rw [List.length_replicate] at hi
    refine ⟨zs.toList, by rw [List.getElem_replicate]; exact hz _ _, fun k hk => ?_⟩
    rw [Nat.zero_add, ← Array.getElem?_toList]
    exact zero_get hs hi hk
  have hl : es.length = n * ρ.size := by rw [h1.length, cp_len, List.length_replicate]
  have hzl : (Builtin.zeroCells zs n).toList.length = n * ρ.size := by simp [Builtin.zeroCells, hs]
  have : es = (Builtin.zeroCells zs n).toList := by
    apply List.ext_getElem?
    intro k
    by_cases hk : k < n * ρ.size
    · rw [← h2 k (by rw [List.length_replicate]; exact hk), Nat.zero_add, Array.getElem?_toList]
    · rw [List.getElem?_eq_none (by omega), List.getElem?_eq_none (by omega)]
  rw [← this]; exact h1

/-- append(x[:i], make([]T, n)...), where a new row is made -/
theorem s_appendZS {i : Nat} {n : Int} {z : α} (hi : i ≤ d.length) (hcap : capV hv < i + n.toNat) (hby : (i + n.toNat) * bytes ≤ 140737488355328) (hn : 0 < n)
    (hu : P.underlying t = some (.slice e)) (hy' : P.underlying yt = some (.int .i64)) (h : ElT P e ρ bytes) (hz : ZeroT P e ρ z)
    (hx : lkO Γ x = some (pv (subV hv ρ.size 0 i))) (hj : Ω[j]? = some (oa ρ hv S d)) (hy : lkO Γ y = some (iv .i64 n)) :
    St P E N (.call ⟨.builtin .append, #[x, y], #[t, yt]⟩) ty Γ Ω [] (fun X : Value × List Nat => pv X.1) (fun X => Ω ++ [oa ρ X.1 X.2 (d.take i ++ List.replicate n.toNat z)]) := by
  intro a w hs
  have h1 : a.eval x = _ := hs.op hx
  have h2 : a.eval y = .int .i64 n := hs.op hy
  obtain ⟨ad, c, rfl, hdc, hob⟩ := hs.objAt hj
  have hcap' : c < i + n.toNat := hcap
  have hsub : subV (.slice ad d.length c) ρ.size 0 i = .slice ad i c := by
    have hadr : ad.map (·.add 0) = ad := addr_zero ad (by rcases hob with ⟨rfl, _⟩ | ⟨b, off, _, _, rfl, _⟩ <;> simp)
    simp [subV, hadr]
  rw [hsub] at h1
  obtain ⟨ti, zv, hti, hzz, hzs⟩ := hz
  obtain ⟨ti', hti', his, hib, z', hz', hzsz⟩ := h.info
  rw [hti] at hti'; cases hti'
  rw [hzz] at hz'; cases hz'
  have hbp := h.bpos
  have hpos := h.pos
  have hnn : (n.toNat : Int) = n := Int.toNat_of_nonneg (by omega)
  have hnb : i + n.toNat ≤ (i + n.toNat) * bytes := Nat.le_mul_of_pos_right _ hbp
  have hnb2 : n.toNat * bytes ≤ (i + n.toNat) * bytes := Nat.mul_le_mul_right _ (by omega)
  have hwrap : IntKind.i64.wrap n = n := by
    have : n ≤ 140737488355328 := by omega
    simp [IntKind.wrap, IntKind.bits, IntKind.signed]
    omega
  have hfit := growslice_fits (need := i + n.toNat) (old := c) (bytes := bytes) hcap' hby
  have hmul : n.toNat * ρ.size ≠ 0 := Nat.mul_ne_zero (by omega) (by omega)
  have a1 : ¬ n < 0 := by omega
  have a3 : ¬ (i + n.toNat ≤ c) := by omega
  have a4 : ¬ (281474976710656 < Builtin.nextslicecap (i + n.toNat) c * bytes) := by omega
  have a5 : ¬ (281474976710656 < n * (bytes : Int)) := by rw [← hnn, ← Int.natCast_mul]; omega
  have a6 : ¬ (9223372036854775807 < (i : Int) + max n 0) := by omega
  -- the old elements
  obtain ⟨es, hes, hec⟩ : ∃ es, AllP (fr E Ω) w ((d.take i).flatMap ρ.cp) es ∧ (i * ρ.size = 0 ∨ ∃ b off cells ty fz, ad = some ⟨b, off, none⟩ ∧ w.heap[b]? = some (.cells cells ty fz) ∧ ∀ j, j < i * ρ.size → cells[off + j]? = es[j]?) := by
    rcases hob with ⟨rfl, rfl, rfl⟩ | ⟨b, off, cells, ct, rfl, rfl, hb, hsz, hH⟩
    · have : d = [] := List.eq_nil_of_length_eq_zero (by omega)
      subst this
      refine ⟨[], by simp [AllP], .inl ?_⟩
      have : i = 0 := by simpa using hi
      rw [this, Nat.zero_mul]
    · obtain ⟨es, h3, h4⟩ := hH.list
      have hle : i * ρ.size ≤ d.length * ρ.size := Nat.mul_le_mul_right _ hi
      exact ⟨es.take (i * ρ.size), all_take h3 i, .inr ⟨b, off, cells, ct, _, rfl, hb, fun k hk => by rw [h4 k (by omega), List.getElem?_take, if_pos hk]⟩⟩
  have hlt : (d.take i).length = i := by rw [List.length_take]; omega
  have hel : es.length = i * ρ.size := by rw [hes.length, cp_len, hlt]
  have hf := run_fc (P := P) (size := ρ.size) (m := i) (yc := c) (ya := ad) (news := es) (w := w.drew) hel hec
  have hrun : ∀ ty, (Builtin.append_ #[t, yt] ty #[.slice ad i c, .int .i64 n]).run P w =
      .ok (.slice (some ⟨w.heap.size, 0, none⟩) (i + n.toNat) (grownCap w (i + n.toNat) c e)) (w.drew.alloc (.cells (es.toArray ++ Builtin.zeroCells zv.cells n.toNat ++ Builtin.zeroCells zv.cells (grownCap w (i + n.toNat) c e - (i + n.toNat))) e)) := fun ty => by
    simp [Builtin.append_, run_underlying hu, run_underlying hy', sizeOf, typeInfo, zeroValue, hti, hzz, asInt, asIntOf, hwrap, a1, a3, a4, a5, a6, his, hib, hmul, hf, Question.forced, newRow, grownCap]
  have hge : i + n.toNat ≤ grownCap w (i + n.toNat) c e := grow_cap
  refine opwp_val (fun o ho _ => run_append_call' ho h1 h2 (hrun _)) ⟨(.slice (some ⟨w.heap.size, 0, none⟩) (i + n.toNat) (grownCap w (i + n.toNat) c e), [w.heap.size]), ?_, rfl, by simp, fun b hb _ => heap_alloc_lt w.drew _ hb, own_add (by simp [oa])⟩
  refine hs.add ⟨rfl, rfl, rfl⟩ (by simp) (fun _ hb => heap_alloc_lt w.drew _ hb) (fun b hb => ?_) (by simp [oa]) ?_
  · rw [show b = w.heap.size from by simpa [oa] using hb]; exact ⟨Nat.le_refl _, by show _ < (w.drew.alloc _).heap.size; rw [World.size_alloc]; exact Nat.lt_succ_self _⟩
  · have hgo := grown_oa (ρ := ρ) (F := fr E (Ω ++ [oa ρ (.slice (some ⟨w.heap.size, 0, none⟩) (i + n.toNat) (grownCap w (i + n.toNat) c e)) [w.heap.size] (d.take i ++ List.replicate n.toNat z)])) (d := d.take i) (d' := List.replicate n.toNat z) (es := es) (es' := (Builtin.zeroCells zv.cells n.toNat).toList)
      (zs := Builtin.zeroCells zv.cells (grownCap w (i + n.toNat) c e - (i + n.toNat))) (c := grownCap w (i + n.toNat) c e) (g := w.heap.size)
      (w' := w.drew.alloc (.cells (es.toArray ++ Builtin.zeroCells zv.cells n.toNat ++ Builtin.zeroCells zv.cells (grownCap w (i + n.toNat) c e - (i + n.toNat))) e)) (et := e)
      (AllP.mono (w := w) ⟨fun b (hb : b < w.heap.size) hf => fr_add hf (by have hb' : b < w.heap.size := hb; simp [oa]; omega), fun b hb _ => heap_alloc_lt w.drew _ hb⟩ hes) (all_zero hzsz hzs _) (by simp) (heap_alloc_new' w.drew _) (by simp [Builtin.zeroCells, hzsz, hlt]) (by simpa [hlt] using hge)
    rw [hlt, List.length_replicate] at hgo
    exact hgo

/-- slices.overlaps of two slices of ours -/
theorem r_overlaps {f : FuncId} {tR : TypeId} {hv2 : Value} {S2 : List Nat} {d2 : List α} {j2 l m : Nat} {ats : Array TypeId} {g : Operand}
    (hext : ∀ args w v w', (Extern.SlicesOverlaps.overlaps #[t, t] #[tR] args).run P w = .ok v w' → (callFunc f args).run P w = .ok (.value v) w')
    (hg : lkO Γ g = some (pv (.func (.func f) #[] #[]))) (hd2 : d2 ≠ []) (hlm : l < m) (hm : m ≤ capV hv) (hne : j2 ≠ j) (hu : P.underlying t = some (.slice e)) (h : ElT P e ρ bytes)
    (hx : lkO Γ x = some (pv hv2)) (hj2 : Ω[j2]? = some (oa ρ hv2 S2 d2)) (hy : lkO Γ y = some (pv (subV hv ρ.size l m))) (hj : Ω[j]? = some (oa ρ hv S d)) :
    Rd P E N (.call ⟨.value g, #[x, y], ats⟩) ty Γ Ω [j2, j] (bv false) := fun a w hs => by
  have hvg : a.eval g = _ := hs.op hg
  have hvx : a.eval x = hv2 := hs.op hx
  have hvy : a.eval y = _ := hs.op hy
  have hob2 := hs.objAt hj2
  have hc2 : 0 < capV hv2 := Nat.lt_of_lt_of_le (List.length_pos_iff.2 hd2) (hs.cap hj2)
  have hob := hs.objAt hj
  obtain ⟨ad2, c2, rfl, _, _⟩ := id hob2
  obtain ⟨ad, c, rfl, _, _⟩ := id hob
  have hm' : m ≤ c := hm
  obtain ⟨b2, off2, ct2, A2, es2, B2, rfl, rfl, _, hb2, hA2, _, hsz2, _, _⟩ := oa_row hob2 hc2
  obtain ⟨b, off, ct, A, es, B, rfl, rfl, _, hb, hA, _, hsz, _, _⟩ := oa_row hob (by omega)
  rw [subV_at (by omega)] at hvy
  have hbb : b2 ≠ b := fun e => by
    have h1 : b2 ∉ ow (Ω.set j2 dead) := mem_ow_set hj2 hs.nd (by simp [oa]) (by simp [dead])
    refine h1 (List.mem_flatMap.2 ⟨oa ρ (.slice (some ⟨b, off, none⟩) d.length c) [b] d, List.mem_of_getElem? (i := j) (by rw [List.getElem?_set_ne hne]; exact hj), ?_⟩)
    rw [e]; simp [oa]
  refine ⟨.bool false, [b2, b], rfl, ?_, fun w' hw' o ho _ => ?_⟩
  · intro b' hb'
    rcases List.mem_cons.1 hb' with rfl | hb'
    · exact ⟨size_of_get hb2, .inr ⟨j2, by simp, _, hj2, by simp [oa]⟩⟩
    · rw [List.mem_singleton.1 hb']; exact ⟨size_of_get hb, .inr ⟨j, by simp, _, hj, by simp [oa]⟩⟩
  · have hb2' : w'.heap[b2]? = _ := (hw' b2 (by simp)).trans hb2
    have hb' : w'.heap[b]? = _ := (hw' b (by simp)).trans hb
    have hp := h.pos
    have hsp : 0 < (A ++ es ++ B).toArray.size := by
      have : ρ.size ≤ c * ρ.size := Nat.le_mul_of_pos_left _ (by omega)
      simp only [List.size_toArray]; omega
    have hrun := Lib.run_overlaps_apart (P := P) w' t tR e hu ρ.size h.sizeOf ⟨b2, off2, none⟩ ⟨b, off + l * ρ.size, none⟩ d2.length c2 (m - l) (c - l) hbb ct2 ct (A2 ++ es2 ++ B2).toArray.size (A ++ es ++ B).toArray.size
      (by simp [World.shape?, hb2']) (by simp [World.shape?, hb']) (by omega) (by simp [World.frozen?, hb2']) (by simp [World.frozen?, hb2'])
    have := hext _ _ _ _ hrun
    simp [execOp, ho, resolve, hvg, hvx, hvy, Deferred.ofValue, invoke, this]
end
end Go.Dc
