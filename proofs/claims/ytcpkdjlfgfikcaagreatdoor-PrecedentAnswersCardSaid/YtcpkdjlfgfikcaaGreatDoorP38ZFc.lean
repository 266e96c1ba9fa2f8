/- Part P38Z.Fc of a proof: lemmas. -/
import Derived.Test.YtcpkdjlfgfikcaaGreatDoorP38ZVal2
set_option linter.unusedVariables false
set_option linter.unusedSimpArgs false
set_option linter.unusedSectionVars false
/-! Libraries that anyone may give: the cases that force, both ways the same. -/
namespace Go.Dc
variable {l : T_Lib} {f : List ByteArray} {c : T_Cas}

/-- a library that Validate lets pass -/
structure Vd (l : T_Lib) : Prop where
  sz : Sz l
  n : l.Cases.length ≤ 16
  w : ∀ c ∈ l.Cases, c.Winner = 1 ∨ c.Winner = 2
  ris : ∀ c ∈ l.Cases, riB c.Facts = true
theorem vd_of (h : Sz l) (hv : verr l = 0) : Vd l := by
  unfold verr at hv
  have c1 : (bif decide ((l.Sides.i0.length : Int) > 12) then true else bif decide ((l.Sides.i1.length : Int) > 12) then true else decide ((l.Cases.length : Int) > 16)) = false := by
    refine Bool.eq_false_iff.2 fun e => ?_
    rw [e] at hv; cases hv
  rw [c1, cond_false] at hv
  have c2 : (bif !(l.Sides.i0.all vnB) then true else bif !(l.Sides.i1.all vnB) then true else l.Cases.any fun c => !vnB c.Name) = false := by
    refine Bool.eq_false_iff.2 fun e => ?_
    rw [e] at hv; cases hv
  rw [c2, cond_false] at hv
  have c3 : (bif !riB l.Sides.i0 then true else bif !riB l.Sides.i1 then true else l.Cases.any badR) = false := by
    refine Bool.eq_false_iff.2 fun e => ?_
    rw [e] at hv; cases hv
  rw [c3, cond_false] at hv
  have c4 : (l.Sides.i0.any fun x => memB x l.Sides.i1) = false := by
    refine Bool.eq_false_iff.2 fun e => ?_
    rw [e] at hv; cases hv
  rw [c4, cond_false] at hv
  have c5 : (!decide (l.Cases.map (·.Name)).Nodup) = false := by
    refine Bool.eq_false_iff.2 fun e => ?_
    rw [e] at hv; cases hv
  rw [c5, cond_false] at hv
  have c6 : l.Cases.any badW = false := by
    refine Bool.eq_false_iff.2 fun e => ?_
    rw [e] at hv; cases hv
  refine ⟨h, ?_, fun c hc => winner_of ?_, fun c hc => ?_⟩
  · revert c1
    cases decide ((l.Sides.i0.length : Int) > 12) <;> cases decide ((l.Sides.i1.length : Int) > 12) <;> intro c1
    · have := of_decide_eq_false c1; omega
    all_goals cases c1
  · have := List.any_eq_false.1 c6 c hc; simpa using this
  · have c7 : l.Cases.any badR = false := by
      revert c3
      cases riB l.Sides.i0 <;> cases riB l.Sides.i1 <;> intro c3
      · cases c3
      · cases c3
      · cases c3
      · exact c3
    have := List.any_eq_false.1 c7 c hc
    unfold badR at this
    revert this
    cases riB c.Facts
    · intro t; exact absurd rfl t
    · intro _; rfl

noncomputable def sitE (l : T_Lib) (f : List ByteArray) : Int := bif verr l != 0 then verr l else bif !riB f then 8 else bif !facsB l f then 6 else 0
theorem known_p (h : Sz l) (hf : f.length ≤ 1000) : pc_known_m l f = some (bif !riB f then 8 else bif !facsB l f then 6 else 0) := by
  unfold pc_known_m
  rw [ris_eq (by omega), some_bind, factors_p h, some_bind, within_fac h hf, some_bind]
  cases riB f <;> cases facsB l f <;> rfl
theorem sit_p (h : Sz l) (hf : f.length ≤ 1000) : pc_situation_m l f = some (sitE l f) := by
  unfold pc_situation_m sitE
  rw [Val_p h, some_bind, known_p h hf, some_bind]
  cases verr l != 0 <;> rfl
theorem sit_r (h : Sz l) (hf : f.length ≤ 1000) : ref38_situation_m l f = some (sitE l f) := by
  unfold ref38_situation_m sitE
  rw [Val_r h, some_bind, asc_eq (by omega), some_bind, rfactors h hf, some_bind]
  cases verr l != 0 <;> cases riB f <;> cases facsB l f <;> rfl
theorem sit_vd (h : Sz l) (hs : sitE l f = 0) : Vd l ∧ riB f = true := by
  unfold sitE at hs
  cases e : verr l != 0 with
  | true => rw [e] at hs; rw [show verr l = 0 from hs] at e; cases e
  | false =>
    rw [e, cond_false] at hs
    refine ⟨vd_of h (by simpa using e), ?_⟩
    cases e2 : riB f with
    | true => rfl
    | false => rw [e2] at hs; cases hs

/-- nothing counts for the other side that the case has not -/
def ctr (l : T_Lib) (f : List ByteArray) (c : T_Cas) : Bool := (ownF l f (3 - c.Winner)).all fun x => memB x c.Facts
def hitS (l : T_Lib) (f : List ByteArray) (c : T_Cas) : Bool := ((ownF l c.Facts c.Winner).all fun x => memB x f) && ctr l f c
def hitR (l : T_Lib) (f : List ByteArray) (c : T_Cas) : Bool := (c.Reason.all fun x => memB x f) && ctr l f c

/-- the cases of a side that fulfil a condition -/
def picks (q : T_Cas → Bool) (C : List T_Cas) (k : Nat) : List Int := ((List.range k).filter fun i => q (C.getD i ⟨ByteArray.empty, [], 0, []⟩)).map fun i => ((i : Nat) : Int)
theorem picks_succ {q : T_Cas → Bool} {C : List T_Cas} {k : Nat} (hk : k < C.length) : picks q C (k + 1) = picks q C k ++ if q C[k] then [(k : Int)] else [] := by
  unfold picks
  rw [List.range_succ, List.filter_append, List.map_append]
  congr 1
  have : C.getD k ⟨ByteArray.empty, [], 0, []⟩ = C[k] := by simp [hk]
  simp only [List.filter_cons, List.filter_nil, this]
  cases q C[k] <;> rfl
theorem mem_picks {q : T_Cas → Bool} {C : List T_Cas} {i : Int} : i ∈ picks q C C.length ↔ ∃ k : Nat, ∃ hk : k < C.length, i = k ∧ q C[k] = true := by
  unfold picks
  rw [List.mem_map]
  constructor
  · rintro ⟨k, hk, rfl⟩
    rw [List.mem_filter, List.mem_range] at hk
    exact ⟨k, hk.1, rfl, by have := hk.2; simpa [hk.1] using this⟩
  · rintro ⟨k, hk, rfl, hq⟩
    exact ⟨k, List.mem_filter.2 ⟨List.mem_range.2 hk, by simpa [hk] using hq⟩, rfl⟩
theorem mem_picks_nat {q : T_Cas → Bool} {C : List T_Cas} {k : Nat} (hk : k < C.length) : decide ((k : Int) ∈ picks q C C.length) = q C[k] := by
  rw [Bool.eq_iff_iff, decide_eq_true_iff, mem_picks]
  constructor
  · rintro ⟨j, hj, e, h⟩
    have : k = j := by omega
    subst this; exact h
  · exact fun h => ⟨k, hk, rfl, h⟩
theorem picks_len {q : T_Cas → Bool} {C : List T_Cas} {k : Nat} : (picks q C k).length ≤ k := by
  unfold picks
  rw [List.length_map]
  exact Nat.le_trans (List.length_filter_le _ _) (by simp)
theorem picks_pos {q : T_Cas → Bool} {C : List T_Cas} : decide (((picks q C C.length).length : Int) > 0) = C.any q := by
  rw [Bool.eq_iff_iff, decide_eq_true_iff, List.any_eq_true]
  constructor
  · intro h
    match hp : picks q C C.length with
    | [] => rw [hp] at h; simp at h
    | i :: r =>
      have hi : i ∈ picks q C C.length := by rw [hp]; simp
      obtain ⟨k, hk, _, hq⟩ := mem_picks.1 hi
      exact ⟨_, List.getElem_mem hk, hq⟩
  · rintro ⟨c, hc, hq⟩
    obtain ⟨k, hk, rfl⟩ := List.getElem_of_mem hc
    have := List.length_pos_of_mem (mem_picks.2 ⟨k, hk, rfl, hq⟩)
    omega

def w1 (q : T_Cas → Bool) (c : T_Cas) : Bool := q c && (c.Winner == 1)
def w2 (q : T_Cas → Bool) (c : T_Cas) : Bool := q c && !(c.Winner == 1)


theorem force_loop {q : T_Cas → Bool} {C : List T_Cas} {F : Int × List Int × List Int → Option (Sum (List Int × List Int) (Int × List Int × List Int))} (hC : C.length ≤ 16)
    (hi : ∀ i, (h : i < C.length) → ∀ a b : List Int, F ((i : Int), a, b) = bif !q C[i] then some (.inr (((i + 1 : Nat) : Int), a, b)) else bif C[i].Winner == 1 then (appM 8 a [(i : Int)]).bind fun t => some (.inr (((i + 1 : Nat) : Int), t, b)) else (appM 8 b [(i : Int)]).bind fun t => some (.inr (((i + 1 : Nat) : Int), a, t)))
    (he : ∀ a b : List Int, F ((C.length : Int), a, b) = some (.inl (a, b))) : loopC F (0, [], []) = some (picks (w1 q) C C.length, picks (w2 q) C C.length) := by
  refine T.eq (T.loopK C.length (fun k s => k ≤ C.length ∧ s = ((k : Int), picks (w1 q) C k, picks (w2 q) C k)) ⟨by omega, rfl⟩ ?_)
  rintro k _ ⟨hk, rfl⟩
  rcases Nat.lt_or_ge k C.length with hk2 | hk2
  · have p1 := picks_len (q := w1 q) (C := C) (k := k)
    have p2 := picks_len (q := w2 q) (C := C) (k := k)
    rw [hi k hk2, picks_succ hk2, picks_succ hk2, show w1 q C[k] = (q C[k] && (C[k].Winner == 1)) from rfl, show w2 q C[k] = (q C[k] && !(C[k].Winner == 1)) from rfl]
    cases e1 : q C[k] with
    | false => exact .ret ⟨hk2, hk2, by simp⟩
    | true =>
      cases e2 : (C[k].Winner == 1) with
      | true =>
        rw [Bool.not_true, cond_false, cond_true, appM_eq (by simp; omega), some_bind]
        exact .ret ⟨hk2, hk2, by simp⟩
      | false =>
        rw [Bool.not_true, cond_false, cond_false, appM_eq (by simp; omega), some_bind]
        exact .ret ⟨hk2, hk2, by simp⟩
  · have e : k = C.length := by omega
    subst e
    rw [he]
    exact .ret rfl

noncomputable def frcE (q : T_Cas → Bool) (l : T_Lib) (f : List ByteArray) : T_For × Int :=
  bif sitE l f != 0 then (⟨[], []⟩, sitE l f) else (⟨picks (w1 q) l.Cases l.Cases.length, picks (w2 q) l.Cases l.Cases.length⟩, 0)

section
variable (h : Vd l) (hf : f.length ≤ 1000)
include h hf
theorem forcedS_loop : loopC (pc_forced_1_l1 l f l) (0, [], []) = some (picks (w1 (hitS l f)) l.Cases l.Cases.length, picks (w2 (hitS l f)) l.Cases l.Cases.length) := by
  refine force_loop h.n (fun i hi a b => ?_) fun a b => ?_
  · have hn := h.n
    have hw := h.w _ (List.getElem_mem hi)
    have hc := h.sz.c _ (List.getElem_mem hi)
    have hs := h.sz.sd l.Cases[i].Winner; have hs2 := h.sz.sd (3 - l.Cases[i].Winner)
    have ho := ownF_len (l := l) (f := l.Cases[i].Facts) (w := l.Cases[i].Winner)
    have ho2 := ownF_len (l := l) (f := f) (w := 3 - l.Cases[i].Winner)
    dsimp only [pc_forced_1_l1]
    unfold pc_Strong_1_m hitS ctr
    rw [decide_eq_true (by omega), cond_true, idxM_nat hi, some_bind, own_eq hw (by omega) (by omega), some_bind, some_bind, within_eq (by omega) (by omega), some_bind, counter_eq hw (by omega) (by omega), some_bind, within_eq (by omega) (by omega), some_bind, iadd1 (by omega)]
    cases ((ownF l l.Cases[i].Facts l.Cases[i].Winner).all fun x => memB x f) <;> cases ((ownF l f (3 - l.Cases[i].Winner)).all fun x => memB x l.Cases[i].Facts) <;> rfl
  · dsimp only [pc_forced_1_l1]
    rw [decide_eq_false (by omega)]; rfl
theorem forcedR_loop : loopC (pc_forced_l1 l f) (0, [], []) = some (picks (w1 (hitR l f)) l.Cases l.Cases.length, picks (w2 (hitR l f)) l.Cases l.Cases.length) := by
  refine force_loop h.n (fun i hi a b => ?_) fun a b => ?_
  · have hn := h.n
    have hw := h.w _ (List.getElem_mem hi)
    have hc := h.sz.c _ (List.getElem_mem hi)
    have hs := h.sz.sd l.Cases[i].Winner; have hs2 := h.sz.sd (3 - l.Cases[i].Winner)
    have ho2 := ownF_len (l := l) (f := f) (w := 3 - l.Cases[i].Winner)
    dsimp only [pc_forced_l1]
    unfold pc_Reasons_1_m hitR ctr
    rw [decide_eq_true (by omega), cond_true, idxM_nat hi, some_bind, some_bind, within_eq (by omega) (by omega), some_bind, counter_eq hw (by omega) (by omega), some_bind, within_eq (by omega) (by omega), some_bind, iadd1 (by omega)]
    cases (l.Cases[i].Reason.all fun x => memB x f) <;> cases ((ownF l f (3 - l.Cases[i].Winner)).all fun x => memB x l.Cases[i].Facts) <;> rfl
  · dsimp only [pc_forced_l1]
    rw [decide_eq_false (by omega)]; rfl
theorem refS_loop : loopC (ref38_force_l1 l f false) (0, [], []) = some (picks (w1 (hitS l f)) l.Cases l.Cases.length, picks (w2 (hitS l f)) l.Cases l.Cases.length) := by
  refine force_loop h.n (fun i hi a b => ?_) fun a b => ?_
  · have hn := h.n
    have hw := h.w _ (List.getElem_mem hi)
    have hc := h.sz.c _ (List.getElem_mem hi)
    have hs := h.sz.sd l.Cases[i].Winner; have hs2 := h.sz.sd (3 - l.Cases[i].Winner)
    have ho := ownF_len (l := l) (f := l.Cases[i].Facts) (w := l.Cases[i].Winner)
    have ho2 := ownF_len (l := l) (f := f) (w := 3 - l.Cases[i].Winner)
    dsimp only [ref38_force_l1]
    unfold hitS ctr
    rw [decide_eq_true (by omega), cond_true, idxM_nat hi, some_bind, rOwn_eq hw (by omega) (by omega), some_bind, joinM_eq]
    simp only [cond_false, cond_true]
    rw [rInside_eq (by omega) (by omega), some_bind, isub64 (by omega) (by omega), rOwn_eq (by omega) (by omega) (by omega), some_bind, rInside_eq (by omega) (by omega), some_bind]
    simp only [letM_eq]
    rw [iadd1 (by omega)]
    cases ((ownF l l.Cases[i].Facts l.Cases[i].Winner).all fun x => memB x f) <;> cases ((ownF l f (3 - l.Cases[i].Winner)).all fun x => memB x l.Cases[i].Facts) <;> rfl
  · dsimp only [ref38_force_l1]
    rw [decide_eq_false (by omega)]; rfl
theorem refR_loop : loopC (ref38_force_l1 l f true) (0, [], []) = some (picks (w1 (hitR l f)) l.Cases l.Cases.length, picks (w2 (hitR l f)) l.Cases l.Cases.length) := by
  refine force_loop h.n (fun i hi a b => ?_) fun a b => ?_
  · have hn := h.n
    have hw := h.w _ (List.getElem_mem hi)
    have hc := h.sz.c _ (List.getElem_mem hi)
    have hs := h.sz.sd l.Cases[i].Winner; have hs2 := h.sz.sd (3 - l.Cases[i].Winner)
    have ho2 := ownF_len (l := l) (f := f) (w := 3 - l.Cases[i].Winner)
    dsimp only [ref38_force_l1]
    unfold hitR ctr
    rw [decide_eq_true (by omega), cond_true, idxM_nat hi, some_bind, rOwn_eq hw (by omega) (by omega), some_bind, joinM_eq]
    simp only [cond_false, cond_true]
    rw [rInside_eq (by omega) (by omega), some_bind, isub64 (by omega) (by omega), rOwn_eq (by omega) (by omega) (by omega), some_bind, rInside_eq (by omega) (by omega), some_bind]
    simp only [letM_eq]
    rw [iadd1 (by omega)]
    cases (l.Cases[i].Reason.all fun x => memB x f) <;> cases ((ownF l f (3 - l.Cases[i].Winner)).all fun x => memB x l.Cases[i].Facts) <;> rfl
  · dsimp only [ref38_force_l1]
    rw [decide_eq_false (by omega)]; rfl
end

theorem Strong_p (h : Sz l) (hf : f.length ≤ 1000) : pc_Strong_m l f = some (frcE (hitS l f) l f) := by
  unfold pc_Strong_m pc_forced_1_m frcE
  rw [sit_p h hf, some_bind]
  cases e : sitE l f != 0 with
  | true => rfl
  | false => rw [cond_false, forcedS_loop (sit_vd h (by simpa using e)).1 hf]; rfl
theorem Strong_r (h : Sz l) (hf : f.length ≤ 1000) : ref38_Strong_m l f = some (frcE (hitS l f) l f) := by
  unfold ref38_Strong_m ref38_force_m frcE
  rw [sit_r h hf, some_bind]
  cases e : sitE l f != 0 with
  | true => rfl
  | false => rw [cond_false, refS_loop (sit_vd h (by simpa using e)).1 hf]; rfl
theorem Reasons_p (h : Sz l) (hf : f.length ≤ 1000) : pc_Reasons_m l f = some (frcE (hitR l f) l f) := by
  unfold pc_Reasons_m pc_forced_m frcE
  rw [sit_p h hf, some_bind]
  cases e : sitE l f != 0 with
  | true => rfl
  | false => rw [cond_false, forcedR_loop (sit_vd h (by simpa using e)).1 hf]; rfl
theorem Reasons_r (h : Sz l) (hf : f.length ≤ 1000) : ref38_Reasons_m l f = some (frcE (hitR l f) l f) := by
  unfold ref38_Reasons_m ref38_force_m frcE
  rw [sit_r h hf, some_bind]
  cases e : sitE l f != 0 with
  | true => rfl
  | false => rw [cond_false, refR_loop (sit_vd h (by simpa using e)).1 hf]; rfl
end Go.Dc
