/- Part Dc.Opt of a proof: lemmas. -/
import Derived.Test.YtmbflfngkcmfeaaDoorDcMem7
import Derived.Test.YtmbflfngkcmfeaaDoorDcConv
/-! Pointers to shared data, or nil. -/
namespace Go.Dc
variable {R S : Type} {P : Program} {E : Env} {N : Nat} {Γ Γ' : List (Nat × RP)} {Ω Ω' : List OB} {ty : TypeId} {α β : Type} {ρ : Rep α}

/-- nil, or the address of data that stand in shared memory -/
def oea (ρ : Rep α) : Option α → RP
  | none => pv (.pointer none)
  | some x => ea ρ x

theorem oea_ptr {o : Option α} {F : FP} {w : World} {v : Value} (h : (oea ρ o).h F w v) : ∃ p, v = .pointer p ∧ p.isSome = o.isSome := by
  cases o with
  | none => exact ⟨none, h, rfl⟩
  | some x => obtain ⟨b, off, _, _, _, _, hv, _⟩ := h; exact ⟨_, hv, rfl⟩

theorem opt_nil (ρ : Rep α) {t : Nat} (ht : lk Γ t = some (pv (.pointer none))) : ∀ a w, Sat E N Γ Ω a w → Sat E N ((t, oea ρ none) :: Γ) Ω a w := fun a w hs =>
  ⟨hs.sz, hs.df, fun s φ h => by
    by_cases e2 : t = s
    · subst e2; rw [lk_cons_eq] at h; cases h
      exact hs.sl t _ ht
    · rw [lk_cons_ne e2] at h; exact hs.sl s φ h, hs.ob, hs.nd, hs.bd, hs.kp, hs.fs⟩

theorem Sat.freezeO {a : Act} {w : World} {j : Nat} {o : OB} (hs : Sat E N Γ Ω a w) (hj : Ω[j]? = some o) : Sat E N Γ (Ω.set j dead) a w := by
  obtain ⟨A, B, rfl, rfl⟩ := ow_split hj
  have hsub : ∀ b, b ∈ ow (A ++ dead :: B) → b ∈ ow (A ++ o :: B) := fun b hb => by
    rw [ow_mid] at hb ⊢
    simp [dead] at hb
    simp only [List.mem_append]
    exact hb.imp id .inr
  rw [set_split]
  have hf : ∀ b, b < w.heap.size → fr E (A ++ o :: B) b → fr E (A ++ dead :: B) b := fun _ _ ⟨h1, h2⟩ => ⟨h1, fun hb => h2 (hsub _ hb)⟩
  refine ⟨hs.sz, hs.df, fun t φ ht => φ.mono (.refl hf) (hs.sl t φ ht), fun q hq => ?_, ?_, fun b hb => hs.bd b (hsub b hb), hs.kp, hs.fs⟩
  · rcases List.mem_append.1 hq with h | h
    · exact q.mono (.refl hf) (fun _ _ => rfl) (hs.ob q (by simp [h]))
    · rcases List.mem_cons.1 h with h | h
      · subst h; exact trivial
      · exact q.mono (.refl hf) (fun _ _ => rfl) (hs.ob q (by simp [h]))
  · have := hs.nd
    rw [ow_mid] at this ⊢
    simp only [dead, List.nil_append]
    exact this.sublist (List.Sublist.append (List.Sublist.refl _) (List.sublist_append_right _ _))

/-- a variable is given up; what points to it points to shared data -/
theorem opt_share (ρ : Rep α) (x : α) {t j b : Nat} (ht : lk Γ t = some (pv (ptr b 0))) (hj : Ω[j]? = some (oc b (ρ.cp x))) :
    ∀ a w, Sat E N Γ Ω a w → Sat E N ((t, oea ρ (some x)) :: Γ) (Ω.set j dead) a w := fun a w hs => by
  have h1 := hs.freezeO hj
  refine ⟨h1.sz, h1.df, fun s φ h => ?_, h1.ob, h1.nd, h1.bd, h1.kp, h1.fs⟩
  by_cases e2 : t = s
  · subst e2; rw [lk_cons_eq] at h; cases h
    have hv : a.tmps.getD t undef = ptr b 0 := hs.sl t _ ht
    rw [hv]
    obtain ⟨cells, ty', hb, hall⟩ := hs.objAt hj
    have hbS : b ∈ (oc b (ρ.cp x)).S := by simp [oc]
    refine ⟨b, 0, cells, ty', (0, 0), cells.toList, rfl, ⟨hs.mine (Sat.notin hj hbS), mem_ow_set hj hs.nd hbS (by simp [dead])⟩, hb, hall.mono (.refl fun c hc hF => ?_), fun k hk => by simp⟩
    refine ⟨hF.1, fun hm => hF.2 ?_⟩
    obtain ⟨A, B, rfl, rfl⟩ := ow_split hj
    rw [set_split] at hm
    rw [ow_mid] at hm ⊢
    simp [dead] at hm
    simp only [List.mem_append]
    exact hm.imp id .inr
  · rw [lk_cons_ne e2] at h; exact h1.sl s φ h

theorem r_optc {x : Operand} {o : Option α} {y : α} (h : o = some y) (hx : lkO Γ x = some (oea ρ o)) : Rd P E N (.nilCheck x) ty Γ Ω [] (ea ρ y) := .mk fun a w hs => by
  subst h
  have h1 : (ea ρ y).h (fr E Ω) w (a.eval x) := hs.op hx
  obtain ⟨b, off, cells, ty', fz, es, hv, h2⟩ := h1
  exact ⟨_, ⟨b, off, cells, ty', fz, es, hv, h2⟩, fun w' o ho _ => by simp [execOp, ho, hv]⟩

theorem r_optneq {t e : Nat} {yt : TypeId} {x y : Operand} {o : Option α} (hu : P.underlying t = some (.pointer e)) (hx : lkO Γ x = some (oea ρ o)) (hy : lkO Γ y = some (pv (.pointer none))) :
    Rd P E N (.binOp .neq t x y yt) ty Γ Ω [] (bv o.isSome) := .mk fun a w hs => by
  obtain ⟨p, h1, hp⟩ := oea_ptr (hs.op hx)
  have h2 : a.eval y = .pointer none := hs.op hy
  refine ⟨_, rfl, fun w' o' ho _ => ?_⟩
  have he : (Op.equal t (.pointer p) (.pointer none)).run P w' = .ok p.isNone w' := by
    unfold Op.equal
    rw [show Op.maxDepth = 9999 + 1 from rfl, Op.equalIn, Sem.run_bind, run_underlying hu]
    cases p <;> rfl
  have hg : (eqGuard .neq t x y (.pointer p) (.pointer none)).run P w' = .ok () w' := by unfold eqGuard; cases p <;> rfl
  have hb : binOp .neq t (.pointer p) (.pointer none) = (do pure (.bool (!(← Op.equal t (.pointer p) (.pointer none))))) := rfl
  rw [← hp]
  simp [execOp, ho, h1, h2, hg, hb, he]
end Go.Dc
