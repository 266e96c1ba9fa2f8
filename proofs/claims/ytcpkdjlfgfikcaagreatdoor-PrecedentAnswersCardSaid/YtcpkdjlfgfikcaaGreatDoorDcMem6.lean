/- Part Dc.Mem6 of a proof: lemmas. -/
import Derived.Test.YtcpkdjlfgfikcaaGreatDoorDcOps2
/-! Some more operations on slices. -/
namespace Go.Dc
variable {P : Program} {E : Env} {N : Nat} {Γ : List (Nat × RP)} {Ω : List OB} {ty : TypeId}

section
variable {α : Type} {e t yt : TypeId} {ρ : Rep α} {bytes : Nat} {x : Operand}

theorem run_isnil {a : Option Addr} {n c : Nat} (hu : P.underlying t = some (.slice e)) (w : World) : (Op.equal t (.slice a n c) (.slice none 0 0)).run P w = .ok a.isNone w := by
  unfold Op.equal
  rw [show Op.maxDepth = 9999 + 1 from rfl, Op.equalIn, Sem.run_bind, run_underlying hu]
  cases a <;> rfl

/-- x == nil -/
theorem s_isnil {d : List α} (hu : P.underlying t = some (.slice e)) (hx : lkO Γ x = some (slv ρ d)) :
    St P E N (.binOp .eql t x (.const (.slice none 0 0)) yt) ty Γ Ω [] (fun b : { b : Bool // b = true → d = [] } => bv b.1) (fun _ => Ω) := by
  intro a w hs o ho ht
  obtain ⟨ad, c, hv, hc, hat⟩ := hs.op hx
  have hg : (eqGuard .eql t x (.const (.slice none 0 0)) (.slice ad d.length c) (.slice none 0 0)).run P w = .ok () w := by unfold eqGuard; rfl
  have hb : binOp .eql t (.slice ad d.length c) (.slice none 0 0) = (do pure (.bool (← Op.equal t (.slice ad d.length c) (.slice none 0 0)))) := rfl
  have hr : (execOp a.eval o).run P w = .ok (.value (.bool ad.isNone)) w := by
    have he : a.eval (.const (.slice none 0 0)) = .slice none 0 0 := rfl
    simp [execOp, ho, hv, he, hg, hb, run_isnil hu]
  rw [hr]
  refine ⟨⟨ad.isNone, fun h => ?_⟩, hs, rfl, Nat.le_refl _, fun _ _ _ => rfl, fun _ _ h => h⟩
  refine Classical.byContradiction fun hd => ?_
  obtain ⟨b, off, _, _, _, h1, _⟩ := hat hd
  rw [h1] at h; cases h

theorem r_capN (hu : P.underlying t = some (.slice e)) (hx : lkO Γ x = some (pv (.slice none 0 0))) : Rd P E N (.call ⟨.builtin .cap, #[x], #[t]⟩) ty Γ Ω [] (iv .i64 0) := .mk fun a w hs => by
  have hv : a.eval x = .slice none 0 0 := hs.op hx
  exact ⟨_, rfl, fun w' o ho _ => by simp [execOp, ho, resolve, invoke, builtin, Builtin.cap_, hv, run_underlying hu, goInt]⟩
theorem r_lenN (hu : P.underlying t = some (.slice e)) (hx : lkO Γ x = some (pv (.slice none 0 0))) : Rd P E N (.call ⟨.builtin .len, #[x], #[t]⟩) ty Γ Ω [] (iv .i64 0) := .mk fun a w hs => by
  have hv : a.eval x = .slice none 0 0 := hs.op hx
  exact ⟨_, rfl, fun w' o ho _ => by simp [execOp, ho, resolve, invoke, builtin, Builtin.len_, hv, run_underlying hu, goInt]⟩

/-- nil[:0] -/
theorem r_sliceN {hi : Operand} {k : IntKind} (hu : P.underlying t = some (.slice e)) (h : ElT P e ρ bytes) (hx : lkO Γ x = some (pv (.slice none 0 0))) (hh : lkO Γ hi = some (iv k 0)) :
    Rd P E N (.slice t x none (some hi) none) ty Γ Ω [] (pv (.slice none 0 0)) := .mk fun a w hs => by
  have hv : a.eval x = .slice none 0 0 := hs.op hx
  have h2 : a.eval hi = .int k 0 := hs.op hh
  refine ⟨_, rfl, fun w' o ho _ => ?_⟩
  have := run_slice (P := P) hu h (ad := none) (n := 0) (c := 0) (lo := none) (hi := some (.int k 0)) (l := 0) (hh := 0) (.inl ⟨rfl, rfl⟩) (.inr ⟨_, rfl⟩) (Nat.le_refl _) (Nat.le_refl _) w'
  simp [execOp, ho, hv, h2, this]

/-- x[lo:hi] of a slice that is ours -/
theorem s_oslice {lo hi : Option Operand} {d d' : List α} {l m : Int} {hv : Value} {S : List Nat} {j : Nat} (hd : slM d l m = some d') (hu : P.underlying t = some (.slice e)) (h : ElT P e ρ bytes)
    (hx : lkO Γ x = some (pv hv)) (hj : Ω[j]? = some (oa ρ hv S d)) (hlo : BdOk Γ 0 lo l) (hhi : BdOk Γ d.length hi m) :
    St P E N (.slice t x lo hi none) ty Γ Ω [j] (fun X : Value × List Nat => pv X.1) (fun X => Ω.set j (oa ρ X.1 X.2 d')) := by
  intro a w hs
  obtain ⟨h0, h1, h2, rfl⟩ := slM_some hd
  have hvx : a.eval x = hv := hs.op hx
  obtain ⟨ad, c, rfl, hc, hob⟩ := hs.objAt hj
  obtain ⟨l, rfl⟩ := Int.eq_ofNat_of_zero_le h0
  obtain ⟨m, rfl⟩ := Int.eq_ofNat_of_zero_le (Int.le_trans h0 h1)
  have hl := hlo.val hs
  have hm := hhi.val hs
  have e1 : l ≤ m := by omega
  have e2 : m ≤ d.length := by omega
  simp only [Int.toNat_natCast]
  have hrun := run_slice (P := P) hu h (ad := ad) (n := d.length) (c := c) (lo := lo.map a.eval) (hi := hi.map a.eval) (l := l) (hh := m)
    (hl.imp (fun ⟨e1, e2⟩ => ⟨e1, by omega⟩) id) (hm.imp (fun ⟨e1, e2⟩ => ⟨e1, by omega⟩) id) e1 (by omega) w
  have hlen : ((d.take m).drop l).length = m - l := by simp; omega
  refine opwp_val (v := .slice (if c = l then ad else ad.map (·.add (l * ρ.size))) (m - l) (c - l)) (w' := w) (fun o ho _ => by simp [execOp, ho, hvx, hrun])
    ⟨(.slice (if c = l then ad else ad.map (·.add (l * ρ.size))) (m - l) (c - l), S), ?_, rfl, Nat.le_refl _, fun _ _ _ => rfl, own_set hj fun b hb => .inl hb⟩
  refine hs.upd hj ⟨rfl, rfl, rfl⟩ (Nat.le_refl _) (fun _ _ _ => rfl) (fun b hb => .inl hb) ?_ ?_
  · rcases hob with ⟨_, rfl, _⟩ | ⟨b, _, _, _, _, rfl, _⟩ <;> simp [oa]
  · have hag : Ag (fr E Ω) (fr E (Ω.set j (oa ρ (.slice (if c = l then ad else ad.map (·.add (l * ρ.size))) (m - l) (c - l)) S ((d.take m).drop l)))) w w :=
      .refl fun b hb hf => fr_set hj hf fun hm => hf.2 (Sat.notin hj (b := b) hm)
    refine ⟨_, c - l, by rw [hlen], by rw [hlen]; omega, ?_⟩
    rcases hob with ⟨rfl, rfl, rfl⟩ | ⟨b, off, cells, ct, rfl, rfl, hb, hsz, hH⟩
    · exact .inl ⟨by split <;> rfl, rfl, by omega⟩
    · by_cases hcl : c = l
      · have hnil : (d.take m).drop l = [] := List.eq_nil_of_length_eq_zero (by omega)
        refine .inr ⟨b, off, cells, ct, by rw [if_pos hcl], rfl, hb, ?_, ?_⟩
        · rw [hcl, Nat.sub_self, Nat.zero_mul]; omega
        · rw [hnil]; intro i hi; simp at hi
      · refine .inr ⟨b, off + l * ρ.size, cells, ct, by rw [if_neg hcl]; simp [addr_add], rfl, hb, ?_, (hH.sub l m).mono hag⟩
        have : l * ρ.size + (c - l) * ρ.size = c * ρ.size := by rw [← Nat.add_mul]; congr 1; omega
        omega

theorem run_append_call' {t yt : TypeId} {x y : Operand} {a : Act} {o : Oper} (ho : o.op = .call ⟨.builtin .append, #[x, y], #[t, yt]⟩) {vx vy v : Value} (hx : a.eval x = vx) (hy : a.eval y = vy)
    {w w' : World} (h : (Builtin.append_ #[t, yt] o.type #[vx, vy]).run P w = .ok v w') : (execOp a.eval o).run P w = .ok (.value v) w' := by
  simp [execOp, ho, resolve, invoke, builtin, hx, hy, h]

/-- append(nil, make([]T, n)...) -/
theorem s_appendZ {x y : Operand} {n : Int} {z : α} {d : List α} (hd : mkM bytes z n = some d) (hn : 0 < n) (hu : P.underlying t = some (.slice e)) (hy' : P.underlying yt = some (.int .i64)) (h : ElT P e ρ bytes)
    (hz : ZeroT P e ρ z) (hx : lkO Γ x = some (pv (.slice none 0 0))) (hy : lkO Γ y = some (iv .i64 n)) :
    St P E N (.call ⟨.builtin .append, #[x, y], #[t, yt]⟩) ty Γ Ω [] (fun X : Value × List Nat => pv X.1) (fun X => Ω ++ [oa ρ X.1 X.2 d]) := by
  intro a w hs
  obtain ⟨h0, hby, rfl⟩ := mkM_some hd
  have h1 : a.eval x = .slice none 0 0 := hs.op hx
  have h2 : a.eval y = .int .i64 n := hs.op hy
  obtain ⟨i, zv, hi, hzz, hzs⟩ := hz
  obtain ⟨i', hi', his, hib, z', hz', hzsz⟩ := h.info
  rw [hi] at hi'; cases hi'
  rw [hzz] at hz'; cases hz'
  have hbp := h.bpos
  have hpos := h.pos
  have hnn : (n.toNat : Int) = n := Int.toNat_of_nonneg h0
  have hnb : n.toNat ≤ bytes * n.toNat := Nat.le_mul_of_pos_left _ hbp
  have hwrap : IntKind.i64.wrap n = n := by
    have : n ≤ 140737488355328 := by omega
    simp [IntKind.wrap, IntKind.bits, IntKind.signed]
    omega
  have hfit := growslice_fits (need := n.toNat) (old := 0) (bytes := bytes) (by omega) (by rw [Nat.mul_comm]; exact hby)
  have hmul : n.toNat * ρ.size ≠ 0 := by
    have : 0 < n.toNat := by omega
    exact Nat.mul_ne_zero (by omega) (by omega)
  have hc1 : ¬ (n * (bytes : Int) > 281474976710656) := by
    rw [← hnn, ← Int.natCast_mul, Nat.mul_comm]; omega
  have a1 : ¬ n < 0 := by omega
  have a4 : ¬ (281474976710656 < Builtin.nextslicecap n.toNat 0 * bytes) := by omega
  have a5 : ¬ (281474976710656 < n * (bytes : Int)) := by omega
  have hrun : ∀ ty, (Builtin.append_ #[t, yt] ty #[.slice none 0 0, .int .i64 n]).run P w =
      .ok (.slice (some ⟨w.heap.size, 0, none⟩) n.toNat (grownCap w n.toNat 0 e)) (w.drew.alloc (.cells (Builtin.zeroCells zv.cells n.toNat ++ Builtin.zeroCells zv.cells (grownCap w n.toNat 0 e - n.toNat)) e)) := fun ty => by
    simp [Builtin.append_, run_underlying hu, run_underlying hy', sizeOf, typeInfo, zeroValue, hi, hzz, asInt, asIntOf, hwrap, a1, a4, a5, his, hib, hmul, Question.forced, newRow, grownCap, Builtin.firstCells]
    rw [if_neg (by omega), if_neg (by omega)]
  have hge : n.toNat ≤ grownCap w n.toNat 0 e := grow_cap
  refine opwp_val (fun o ho _ => run_append_call' ho h1 h2 (hrun _)) ⟨(.slice (some ⟨w.heap.size, 0, none⟩) n.toNat (grownCap w n.toNat 0 e), [w.heap.size]), ?_, rfl, by simp, fun b hb _ => heap_alloc_lt w.drew _ hb, own_add (by simp [oa])⟩
  refine hs.add ⟨rfl, rfl, rfl⟩ (by simp) (fun _ hb => heap_alloc_lt w.drew _ hb) (fun b hb => ?_) (by simp [oa]) ?_
  · rw [show b = w.heap.size from by simpa [oa] using hb]; exact ⟨Nat.le_refl _, by show _ < (w.drew.alloc _).heap.size; rw [World.size_alloc]; exact Nat.lt_succ_self _⟩
  · have hzl : (Builtin.zeroCells zv.cells n.toNat).size = n.toNat * ρ.size := by simp [Builtin.zeroCells, hzsz]
    refine ⟨some ⟨w.heap.size, 0, none⟩, grownCap w n.toNat 0 e, by simp, by simpa using hge, .inr ⟨w.heap.size, 0, _, e, rfl, rfl, heap_alloc_new' w.drew _, ?_, ?_⟩⟩
    · have : n.toNat * ρ.size + (grownCap w n.toNat 0 e - n.toNat) * ρ.size = grownCap w n.toNat 0 e * ρ.size := by rw [← Nat.add_mul]; congr 1; omega
      simp [Builtin.zeroCells, hzsz]; omega
    · intro q hq
      rw [List.length_replicate] at hq
      refine ⟨zv.cells.toList, by rw [List.getElem_replicate]; exact hzs _ _, fun k hk => ?_⟩
      have hlt : q * ρ.size + k < n.toNat * ρ.size := by
        have : (q + 1) * ρ.size ≤ n.toNat * ρ.size := Nat.mul_le_mul_right _ hq
        rw [Nat.succ_mul] at this; omega
      rw [Nat.zero_add, Array.getElem?_append_left (by omega), Builtin.zeroCells, Array.getElem?_map, Array.getElem?_range, hzsz, if_pos hlt]
      simp [hzsz, hk, Nat.mod_eq_of_lt hk]
end

theorem b_to {R : Type} {m : Option R} {Γ' : List (Nat × RP)} {Ω' : List OB} {B : R → Act → World → Prop} (h : RefB E N m Γ' Ω' B) (hw : ∀ a w, Sat E N Γ Ω a w → Sat E N Γ' Ω' a w) : RefB E N m Γ Ω B :=
  b_of hw h

theorem ref_condE {R : Type} {m : Option R} {K : KT R} {c : Operand} {thn els : Code} {b : Bool} (hc : lkO Γ c = some (bv b))
    (h1 : b = true → Ref P E N m thn Γ Ω K) (h2 : b = false → Ref P E N m els Γ Ω K) : Ref P E N m (.cond c thn els) Γ Ω K := by
  cases b with
  | true => exact ref_condT hc rfl (h1 rfl)
  | false => exact ref_condF hc rfl (h2 rfl)
end Go.Dc
