/- Part P38Z.Cf of a proof: lemmas. -/
import Derived.Test.YtcpkdjlfgfikcaaGreatDoorP38ZFc
set_option linter.unusedVariables false
set_option linter.unusedSimpArgs false
set_option linter.unusedSectionVars false
/-! Libraries that anyone may give: contradicting cases, both ways the same. -/
namespace Go.Dc

/-- the first of a row of answers -/
def fsm {ρ : Type} (G : Nat → Option ρ) : Nat → Option ρ
  | 0 => none
  | n + 1 => match fsm G n with | some r => some r | none => G n
theorem fsm_stay {ρ : Type} {G : Nat → Option ρ} {k : Nat} {r : ρ} (h : fsm G k = some r) : ∀ m, fsm G (k + m) = some r
  | 0 => h
  | m + 1 => by rw [← Nat.add_assoc]; unfold fsm; rw [fsm_stay h m]
def foS {ρ : Type} : Option ρ → Sum ρ Unit
  | some r => .inl r
  | none => .inr ()
def foF {ρ : Type} (i : Nat) : Option ρ → Sum (Sum ρ Unit) Int
  | some r => .inl (.inl r)
  | none => .inr ((i + 1 : Nat) : Int)
theorem fsm_loop {ρ : Type} {n : Nat} {G : Nat → Option ρ} {F : Int → Option (Sum (Sum ρ Unit) Int)}
    (hi : ∀ i : Nat, i < n → F (i : Int) = some (foF i (G i))) (he : F (n : Int) = some (.inl (.inr ()))) :
    loopC F 0 = some (foS (fsm G n)) := by
  refine T.eq (T.loopK n (fun k z => k ≤ n ∧ z = (k : Int) ∧ fsm G k = none) ⟨by omega, rfl, rfl⟩ ?_)
  rintro k _ ⟨hk, rfl, hn⟩
  rcases Nat.lt_or_ge k n with q | q
  · rw [hi k q]
    cases e : G k with
    | some r =>
      refine .ret ?_
      have h1 : fsm G (k + 1) = some r := by unfold fsm; rw [hn]; exact e
      have h2 := fsm_stay h1 (n - (k + 1))
      rw [show k + 1 + (n - (k + 1)) = n by omega] at h2
      show Sum.inl r = _
      rw [h2]; rfl
    | none =>
      refine .ret ⟨q, q, rfl, ?_⟩
      unfold fsm; rw [hn]; exact e
  · have e : k = n := by omega
    subst e
    rw [he]
    refine .ret ?_
    show Sum.inr () = _
    rw [hn]; rfl

variable {l : T_Lib} {f : List ByteArray} {c : T_Cas}
/-- two cases that contradict each other -/
def cfl (a b : T_Cas) : Bool := (a.Winner == 1) && ((b.Winner == 2) && ((a.Reason.all fun x => memB x b.Facts) && b.Reason.all fun x => memB x a.Facts))
def cAt (l : T_Lib) (i : Nat) : T_Cas := l.Cases.getD i ⟨ByteArray.empty, [], 0, []⟩
theorem cAt_eq {i : Nat} (h : i < l.Cases.length) : cAt l i = l.Cases[i] := by unfold cAt; simp [h]
def cfJ (l : T_Lib) (i j : Nat) : Option (Int × Int × Bool) := bif cfl (cAt l i) (cAt l j) then some ((i : Int), (j : Int), true) else none
def cfI (l : T_Lib) (i : Nat) : Option (Int × Int × Bool) := fsm (cfJ l i) l.Cases.length
noncomputable def cfE (l : T_Lib) : Int × Int × Bool := bif verr l != 0 then (0, 0, false) else match fsm (cfI l) l.Cases.length with | some r => r | none => (0, 0, false)

theorem Conflict_p (h : Sz l) : pc_Conflict_m l = some (cfE l) := by
  have hn := h.n
  have inner : ∀ i : Nat, (hi : i < l.Cases.length) → loopC (pc_Conflict_l2 l i l.Cases[i]) 0 = some (foS (cfI l i)) := fun i hi => by
    refine fsm_loop (fun j hj => ?_) ?_
    · have h1 := h.c _ (List.getElem_mem hi); have h2 := h.c _ (List.getElem_mem hj)
      dsimp only [pc_Conflict_l2]
      unfold cfJ cfl
      rw [decide_eq_true (by omega), cond_true, idxM_nat hj, some_bind, joinM_eq, iadd1 (by omega), within_eq (by omega) (by omega), some_bind, within_eq (by omega) (by omega), some_bind, cAt_eq hi, cAt_eq hj]
      cases l.Cases[i].Winner == 1 <;> cases l.Cases[j].Winner == 2 <;> cases (l.Cases[i].Reason.all fun x => memB x l.Cases[j].Facts) <;> cases (l.Cases[j].Reason.all fun x => memB x l.Cases[i].Facts) <;> rfl
    · dsimp only [pc_Conflict_l2]
      rw [decide_eq_false (by omega)]; rfl
  have outer : loopC (pc_Conflict_l1 l) 0 = some (foS (fsm (cfI l) l.Cases.length)) := by
    refine fsm_loop (fun i hi => ?_) ?_
    · dsimp only [pc_Conflict_l1]
      rw [decide_eq_true (by omega), cond_true, idxM_nat hi, some_bind, inner i hi, some_bind, iadd1 (by omega)]
      cases cfI l i <;> rfl
    · dsimp only [pc_Conflict_l1]
      rw [decide_eq_false (by omega)]; rfl
  unfold pc_Conflict_m cfE
  rw [Val_p h, some_bind, outer, some_bind]
  cases verr l != 0
  · cases fsm (cfI l) l.Cases.length <;> rfl
  · rfl
theorem Conflict_r (h : Sz l) : ref38_Conflict_m l = some (cfE l) := by
  have hn := h.n
  have inner : ∀ i : Nat, (hi : i < l.Cases.length) → loopC (ref38_Conflict_l2 l i) 0 = some (foS (cfI l i)) := fun i hi => by
    refine fsm_loop (fun j hj => ?_) ?_
    · have h1 := h.c _ (List.getElem_mem hi); have h2 := h.c _ (List.getElem_mem hj)
      dsimp only [ref38_Conflict_l2]
      unfold cfJ cfl
      rw [decide_eq_true (by omega), cond_true, idxM_nat hi, some_bind, idxM_nat hj, some_bind, joinM_eq]
      simp only [letM_eq]
      rw [iadd1 (by omega), rInside_eq (by omega) (by omega), some_bind, rInside_eq (by omega) (by omega), some_bind, cAt_eq hi, cAt_eq hj]
      cases l.Cases[i].Winner == 1 <;> cases l.Cases[j].Winner == 2 <;> cases (l.Cases[i].Reason.all fun x => memB x l.Cases[j].Facts) <;> cases (l.Cases[j].Reason.all fun x => memB x l.Cases[i].Facts) <;> rfl
    · dsimp only [ref38_Conflict_l2]
      rw [decide_eq_false (by omega)]; rfl
  have outer : loopC (ref38_Conflict_l1 l) 0 = some (foS (fsm (cfI l) l.Cases.length)) := by
    refine fsm_loop (fun i hi => ?_) ?_
    · dsimp only [ref38_Conflict_l1]
      rw [decide_eq_true (by omega), cond_true, inner i hi, some_bind, letM_eq, iadd1 (by omega)]
      cases cfI l i <;> rfl
    · dsimp only [ref38_Conflict_l1]
      rw [decide_eq_false (by omega)]; rfl
  unfold ref38_Conflict_m cfE
  rw [Val_r h, some_bind, outer, some_bind]
  cases verr l != 0
  · cases fsm (cfI l) l.Cases.length <;> rfl
  · rfl
end Go.Dc
