/- Part Dc.Mem6 of a proof: lemmas. -/
import Derived.Test.YtnbclhmodbmdhaaDcOps2
/-! Some more operations on slices. -/
namespace Go.Dc
variable {P : Program} {E : Env} {N : Nat} {Γ : List (Nat × RP)} {Ω : List OB} {ty : TypeId}

section
variable {α : Type} {e t yt : TypeId} {ρ : Rep α} {bytes : Nat} {x : Operand}

theorem run_isnil {a : Option Addr} {n c : Nat} (hu : P.underlying t = some (.slice e)) (w : World) : (Op.equal t (.slice a n c) (.slice none 0 0)).run P w = .ok a.isNone w := by
  unfold Op.equal
  rw [show Op.maxDepth = 9999 + 1 from rfl, Op.equalIn, Sem.run_bind, run_underlying hu]
  cases a <;> rfl

/-- x == nil -/
theorem s_isnil {d : List α} (hu : P.underlying t = some (.slice e)) (hx : lkO Γ x = some (slv ρ d)) :
    St P E N (.binOp .eql t x (.const (.slice none 0 0)) yt) ty Γ Ω [] (fun b : { b : Bool // b = true → d = [] } => bv b.1) (fun _ => Ω) := by
  intro a w hs o ho ht
  obtain ⟨ad, c, hv, hc, hat⟩ := hs.op hx
  have hg : (eqGuard .eql t x (.const (.slice none 0 0)) (.slice ad d.length c) (.slice none 0 0)).run P w = .ok () w := by unfold eqGuard; rfl
  have hb : binOp .eql t (.slice ad d.length c) (.slice none 0 0) = (do pure (.bool (← Op.equal t (.slice ad d.length c) (.slice none 0 0)))) := rfl
  have hr : (execOp a.eval o).run P w = .ok (.value (.bool ad.isNone)) w := by
    have he : a.eval (.const (.slice none 0 0)) = .slice none 0 0 := rfl
    simp [execOp, ho, hv, he, hg, hb, run_isnil hu]
  rw [hr]
  refine ⟨⟨ad.isNone, fun h => ?_⟩, hs, rfl, Nat.le_refl _, fun _ _ _ => rfl, fun _ _ h => h⟩
  refine Classical.byContradiction fun hd => ?_
  obtain ⟨b, off, _, _, _, h1, _⟩ := hat hd
  rw [h1] at h; cases h

/-- x[lo:hi] of a slice that is ours -/
theorem s_oslice {lo hi : Option Operand} {d d' : List α} {l m : Int} {hv : Value} {S : List Nat} {j : Nat} (hd : slM d l m = some d') (hu : P.underlying t = some (.slice e)) (h : ElT P e ρ bytes)
    (hx : lkO Γ x = some (pv hv)) (hj : Ω[j]? = some (oa ρ hv S d)) (hlo : BdOk Γ 0 lo l) (hhi : BdOk Γ d.length hi m) :
    St P E N (.slice t x lo hi none) ty Γ Ω [j] (fun X : Value × List Nat => pv X.1) (fun X => Ω.set j (oa ρ X.1 X.2 d')) := by
  intro a w hs
  obtain ⟨h0, h1, h2, rfl⟩ := slM_some hd
  have hvx : a.eval x = hv := hs.op hx
  obtain ⟨ad, c, rfl, hc, hob⟩ := hs.objAt hj
  obtain ⟨l, rfl⟩ := Int.eq_ofNat_of_zero_le h0
  obtain ⟨m, rfl⟩ := Int.eq_ofNat_of_zero_le (Int.le_trans h0 h1)
  have hl := hlo.val hs
  have hm := hhi.val hs
  have e1 : l ≤ m := by omega
  have e2 : m ≤ d.length := by omega
  simp only [Int.toNat_natCast]
  have hrun := run_slice (P := P) hu h (ad := ad) (n := d.length) (c := c) (lo := lo.map a.eval) (hi := hi.map a.eval) (l := l) (hh := m)
    (hl.imp (fun ⟨e1, e2⟩ => ⟨e1, by omega⟩) id) (hm.imp (fun ⟨e1, e2⟩ => ⟨e1, by omega⟩) id) e1 (by omega) w
  have hlen : ((d.take m).drop l).length = m - l := by simp; omega
  refine opwp_val (v := .slice (if c = l then ad else ad.map (·.add (l * ρ.size))) (m - l) (c - l)) (w' := w) (fun o ho _ => by simp [execOp, ho, hvx, hrun])
    ⟨(.slice (if c = l then ad else ad.map (·.add (l * ρ.size))) (m - l) (c - l), S), ?_, rfl, Nat.le_refl _, fun _ _ _ => rfl, own_set hj fun b hb => .inl hb⟩
  refine hs.upd hj ⟨rfl, rfl, rfl⟩ (Nat.le_refl _) (fun _ _ _ => rfl) (fun b hb => .inl hb) ?_ ?_
  · rcases hob with ⟨_, rfl, _⟩ | ⟨b, _, _, _, _, rfl, _⟩ <;> simp [oa]
  · have hag : Ag (fr E Ω) (fr E (Ω.set j (oa ρ (.slice (if c = l then ad else ad.map (·.add (l * ρ.size))) (m - l) (c - l)) S ((d.take m).drop l)))) w w :=
      .refl fun b hb hf => fr_set hj hf fun hm => hf.2 (Sat.notin hj (b := b) hm)
    refine ⟨_, c - l, by rw [hlen], by rw [hlen]; omega, ?_⟩
    rcases hob with ⟨rfl, rfl, rfl⟩ | ⟨b, off, cells, ct, rfl, rfl, hb, hsz, hH⟩
    · exact .inl ⟨by split <;> rfl, rfl, by omega⟩
    · by_cases hcl : c = l
      · have hnil : (d.take m).drop l = [] := List.eq_nil_of_length_eq_zero (by omega)
        refine .inr ⟨b, off, cells, ct, by rw [if_pos hcl], rfl, hb, ?_, ?_⟩
        · rw [hcl, Nat.sub_self, Nat.zero_mul]; omega
        · rw [hnil]; intro i hi; simp at hi
      · refine .inr ⟨b, off + l * ρ.size, cells, ct, by rw [if_neg hcl]; simp [addr_add], rfl, hb, ?_, (hH.sub l m).mono hag⟩
        have : l * ρ.size + (c - l) * ρ.size = c * ρ.size := by rw [← Nat.add_mul]; congr 1; omega
        omega

theorem run_append_call' {t yt : TypeId} {x y : Operand} {a : Act} {o : Oper} (ho : o.op = .call ⟨.builtin .append, #[x, y], #[t, yt]⟩) {vx vy v : Value} (hx : a.eval x = vx) (hy : a.eval y = vy)
    {w w' : World} (h : (Builtin.append_ #[t, yt] o.type #[vx, vy]).run P w = .ok v w') : (execOp a.eval o).run P w = .ok (.value v) w' := by
  simp [execOp, ho, resolve, invoke, builtin, hx, hy, h]

end

theorem b_to {R : Type} {m : Option R} {Γ' : List (Nat × RP)} {Ω' : List OB} {B : R → Act → World → Prop} (h : RefB E N m Γ' Ω' B) (hw : ∀ a w, Sat E N Γ Ω a w → Sat E N Γ' Ω' a w) : RefB E N m Γ Ω B :=
  b_of hw h

theorem ref_condE {R : Type} {m : Option R} {K : KT R} {c : Operand} {thn els : Code} {b : Bool} (hc : lkO Γ c = some (bv b))
    (h1 : b = true → Ref P E N m thn Γ Ω K) (h2 : b = false → Ref P E N m els Γ Ω K) : Ref P E N m (.cond c thn els) Γ Ω K := by
  cases b with
  | true => exact ref_condT hc rfl (h1 rfl)
  | false => exact ref_condF hc rfl (h2 rfl)
end Go.Dc
