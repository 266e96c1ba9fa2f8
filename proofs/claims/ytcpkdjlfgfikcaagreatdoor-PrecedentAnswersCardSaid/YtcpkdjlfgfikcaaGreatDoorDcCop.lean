/- Part Dc.Cop of a proof: lemmas. -/
import Derived.Test.YtcpkdjlfgfikcaaGreatDoorDcText
/-! copy into a whole slice that is ours. -/
namespace Go.Dc
variable {P : Program} {E : Env} {N : Nat} {Γ : List (Nat × RP)} {Ω : List OB} {ty : TypeId} {α : Type} {ρ : Rep α} {bytes t e j : Nat} {x y : Operand} {hv : Value} {S : List Nat} {d : List α}

def cpA {α : Type} (d d' : List α) : List α := d'.take d.length ++ d.drop (min d'.length d.length)
theorem s_copyA {d' : List α} (hu : P.underlying t = some (.slice e)) (h : ElT P e ρ bytes) (hx : lkO Γ x = some (pv hv)) (hj : Ω[j]? = some (oa ρ hv S d)) (hy : lkO Γ y = some (slv ρ d')) :
    St P E N (.call ⟨.builtin .copy, #[x, y], #[t, t]⟩) ty Γ Ω [j] (fun _ : Unit => iv .i64 ((min d'.length d.length : Nat) : Int)) (fun _ => Ω.set j (oa ρ hv S (cpA d d'))) := by
  by_cases h0 : 0 < d.length
  · intro a w hs
    obtain ⟨ad, c, rfl, hdc, hob⟩ := hs.objAt hj
    have e1 : subV (.slice ad d.length c) ρ.size 0 d.length = .slice ad d.length c := by
      rw [subV_slice, if_neg (by omega)]
      congr 1
      cases ad with
      | none => rfl
      | some q => cases q; simp [Addr.add]
    have := s_copyS (P := P) (E := E) (N := N) (ty := ty) (l := 0) (m := d.length) (d' := d') h0 (Nat.le_refl _) hu h (by rw [e1]; exact hx) hj hy a w hs
    simpa [cpA] using this
  · have hd : d = [] := List.eq_nil_of_length_eq_zero (by omega)
    subst hd
    intro a w hs
    have hvx : a.eval x = hv := hs.op hx
    obtain ⟨ya, yc, hvy, hyc, hyat⟩ := hs.op hy
    obtain ⟨ad, c, rfl, hdc, hob⟩ := hs.objAt hj
    obtain ⟨i, hi, his, _⟩ := h.info
    have hfc : ∀ ya yc, (Builtin.firstCells i.size 0 (.slice ya d'.length yc)).run P w = .ok #[] w := fun ya yc => by
      have := run_fc (P := P) (size := i.size) (m := 0) (yc := yc) (ya := ya) (news := []) (w := w) (by simp) (.inl (by simp))
      cases ya <;> exact this
    have hr : (Builtin.copy_ #[t, t] ty #[.slice ad 0 c, .slice ya d'.length yc]).run P w = .ok (goInt 0) w := by
      simp only [Builtin.copy_]
      cases ad with
      | none => simp [run_underlying hu, Builtin.lenOf, sizeOf, typeInfo, hi, hfc]
      | some q => simp [run_underlying hu, Builtin.lenOf, sizeOf, typeInfo, hi, hfc, storeCells]
    have hdd : cpA ([] : List α) d' = [] := by simp [cpA]
    refine opwp_val (fun o ho ht => run_copy_call ho hvx hvy (by rw [ht]; exact hr)) ⟨(), ?_, ?_, Nat.le_refl _, fun _ _ _ => rfl, fun b hb hm => ?_⟩
    · rw [hdd, set_same hj]; exact hs
    · simp; rfl
    · rw [hdd, set_same hj] at hm; exact hm
end Go.Dc
