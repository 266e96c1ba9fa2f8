/- Part P38Z.Ct of a proof: lemmas. -/
import Derived.Test.YtcpkdjlfgfikcaaGreatDoorP38ZFc
import Derived.Test.YtcpkdjlfgfikcaaGreatDoorP38ZLab2
import Derived.Test.YtcpkdjlfgfikcaaGreatDoorP38ZAwake
set_option linter.unusedVariables false
set_option linter.unusedSimpArgs false
set_option linter.unusedSectionVars false
/-! Libraries that anyone may give: the cases that can be cited, both ways the same. -/
namespace Go.Dc
open Classical
variable {l : T_Lib} {f : List ByteArray}

def shr (a f : List ByteArray) : List ByteArray := a.filter fun x => memB x f
theorem shr_len {a f : List ByteArray} : (shr a f).length ≤ a.length := List.length_filter_le _ _
theorem shared_eq {a : List ByteArray} (ha : a.length ≤ 1000) (hf : f.length ≤ 1000) : pc_shared_m a f = some (shr a f) := by
  unfold pc_shared_m
  rw [Clone_eq (by omega), some_bind]
  have hg : ∀ x ∈ a, pc_shared_1_m x f = some (!memB x f) := fun x _ => by
    unfold pc_shared_1_m
    rw [Contains_eq (by omega), some_bind]
  have hix : sIF_S_5_m a f = _ := ix_eq (g := fun x => pc_shared_1_m x f) (p := fun x => !memB x f) (by omega) hg (F := sIF_S_5_l1 a f) (by funext k; rfl)
  have := df_eq (z := ByteArray.empty) (by omega) hg hix (F := sDF_S_2_l1 f) (by funext st; rfl)
  unfold sDF_S_2_m
  rw [this, some_bind]
  unfold shr
  congr 2
  funext x; simp

def citeB (l : T_Lib) (f : List ByteArray) (c : T_Cas) : Bool := decide (((shr (ownF l c.Facts c.Winner) f).length : Int) > 0)
/-- does the one case attack the other? -/
def edge (f : List ByteArray) (x y : T_Cas) : Bool := (x.Winner != y.Winner) && !(((shr x.Facts f).all fun z => memB z (shr y.Facts f)) && decide (((shr x.Facts f).length : Int) < ((shr y.Facts f).length : Int)))

def caseAt (l : T_Lib) (C : List Int) (a : Nat) : T_Cas := l.Cases.getD (C.getD a 0).toNat ⟨ByteArray.empty, [], 0, []⟩
/-- the attacks, in order -/
def row (E : Nat → Nat → Bool) (a k : Nat) : List T_Pai := ((List.range k).filter (E a)).map fun b : Nat => ⟨(a : Int), (b : Int)⟩
def rows (E : Nat → Nat → Bool) (n i : Nat) : List T_Pai := (List.range i).flatMap fun a => row E a n
theorem row_succ {E : Nat → Nat → Bool} {a k : Nat} : row E a (k + 1) = row E a k ++ if E a k then [⟨(a : Int), (k : Int)⟩] else [] := by
  unfold row
  rw [List.range_succ, List.filter_append, List.map_append]
  congr 1
  simp only [List.filter_cons, List.filter_nil]
  cases E a k <;> rfl
theorem rows_succ {E : Nat → Nat → Bool} {n i : Nat} : rows E n (i + 1) = rows E n i ++ row E i n := by
  unfold rows
  rw [List.range_succ, List.flatMap_append]; simp

/-- the attacks ahead of (i, k) -/
structure Eg (n : Nat) (E : Nat → Nat → Bool) (i k : Nat) (L : List T_Pai) : Prop where
  eq : L = rows E n i ++ row E i k
  s : L.Pairwise plt
  len : L.length ≤ i * n + k
  v : ∀ p ∈ L, ∃ a b : Nat, p.From = a ∧ p.To = b ∧ a < n ∧ b < n ∧ (a < i ∨ a = i ∧ b < k) ∧ E a b = true
  all : ∀ a b : Nat, a < n → b < n → (a < i ∨ a = i ∧ b < k) → E a b = true → ∃ p ∈ L, p.From = a ∧ p.To = b
theorem Eg.skip {n : Nat} {E : Nat → Nat → Bool} {i k : Nat} {L : List T_Pai} (h : Eg n E i k L) (he : E i k = false) : Eg n E i (k + 1) L := by
  refine ⟨by rw [row_succ, he, h.eq]; simp, h.s, by have := h.len; omega, fun p hp => ?_, fun a b ha hb hab hE => ?_⟩
  · obtain ⟨a, b, q1, q2, q3, q4, q5, q6⟩ := h.v p hp
    exact ⟨a, b, q1, q2, q3, q4, by omega, q6⟩
  · by_cases e : a = i ∧ b = k
    · rw [e.1, e.2, he] at hE; cases hE
    · exact h.all a b ha hb (by omega) hE
theorem Eg.add {n : Nat} {E : Nat → Nat → Bool} {i k : Nat} {L : List T_Pai} (h : Eg n E i k L) (hi : i < n) (hk : k < n) (he : E i k = true) : Eg n E i (k + 1) (L ++ [⟨i, k⟩]) := by
  refine ⟨by rw [row_succ, he, ← List.append_assoc, ← h.eq]; simp, List.pairwise_append.2 ⟨h.s, List.pairwise_singleton _ _, fun p hp q hq => ?_⟩, by have := h.len; simp; omega, fun p hp => ?_, fun a b ha hb hab hE => ?_⟩
  · rw [List.mem_singleton.1 hq]
    obtain ⟨a, b, q1, q2, q3, q4, q5, q6⟩ := h.v p hp
    unfold plt; simp only; omega
  · rcases List.mem_append.1 hp with hp | hp
    · obtain ⟨a, b, q1, q2, q3, q4, q5, q6⟩ := h.v p hp
      exact ⟨a, b, q1, q2, q3, q4, by omega, q6⟩
    · rw [List.mem_singleton.1 hp]
      exact ⟨i, k, rfl, rfl, hi, hk, by omega, he⟩
  · by_cases e : a = i ∧ b = k
    · exact ⟨⟨i, k⟩, by simp, by simp only; omega, by simp only; omega⟩
    · obtain ⟨p, hp, q⟩ := h.all a b ha hb (by omega) hE
      exact ⟨p, List.mem_append_left _ hp, q⟩
theorem Eg.row {n : Nat} {E : Nat → Nat → Bool} {i : Nat} {L : List T_Pai} (h : Eg n E i n L) : Eg n E (i + 1) 0 L := by
  refine ⟨by rw [rows_succ, ← h.eq]; simp [Dc.row], h.s, by have := h.len; rw [Nat.succ_mul]; omega, fun p hp => ?_, fun a b ha hb hab hE => h.all a b ha hb (by omega) hE⟩
  obtain ⟨a, b, q1, q2, q3, q4, q5, q6⟩ := h.v p hp
  exact ⟨a, b, q1, q2, q3, q4, by omega, q6⟩

theorem pick_loop {q : T_Cas → Bool} {C : List T_Cas} {F : Int × List Int → Option (Sum (List Int) (Int × List Int))} (hC : C.length ≤ 16)
    (hi : ∀ i, (h : i < C.length) → ∀ a : List Int, F ((i : Int), a) = bif q C[i] then (appM 8 a [(i : Int)]).bind fun t => some (.inr (((i + 1 : Nat) : Int), t)) else some (.inr (((i + 1 : Nat) : Int), a)))
    (he : ∀ a : List Int, F ((C.length : Int), a) = some (.inl a)) : loopC F (0, []) = some (picks q C C.length) := by
  refine T.eq (T.loopK C.length (fun k s => k ≤ C.length ∧ s = ((k : Int), picks q C k)) ⟨by omega, rfl⟩ ?_)
  rintro k _ ⟨hk, rfl⟩
  rcases Nat.lt_or_ge k C.length with hk2 | hk2
  · have p1 := picks_len (q := q) (C := C) (k := k)
    rw [hi k hk2, picks_succ hk2]
    cases e1 : q C[k] with
    | false => exact .ret ⟨hk2, hk2, by simp⟩
    | true =>
      rw [cond_true, appM_eq (by simp; omega), some_bind]
      exact .ret ⟨hk2, hk2, by simp⟩
  · have e : k = C.length := by omega
    subst e
    rw [he]
    exact .ret rfl
theorem edge_loop {n : Nat} {E : Nat → Nat → Bool} {i : Nat} (hi : i < n) (hn : n ≤ 16) {F : Int × List T_Pai → Option (Sum (List T_Pai) (Int × List T_Pai))}
    (hs : ∀ k : Nat, k < n → ∀ L, F ((k : Int), L) = bif E i k then (appM 16 L [⟨(i : Int), (k : Int)⟩]).bind fun t => some (.inr (((k + 1 : Nat) : Int), t)) else some (.inr (((k + 1 : Nat) : Int), L)))
    (he : ∀ L, F ((n : Int), L) = some (.inl L)) {L : List T_Pai} (hL : Eg n E i 0 L) : T (loopC F (0, L)) fun L => Eg n E i n L := by
  refine T.loopK n (fun k s => k ≤ n ∧ s.1 = (k : Int) ∧ Eg n E i k s.2) ⟨by omega, rfl, hL⟩ ?_
  rintro k ⟨_, M⟩ ⟨hk, rfl, hM⟩
  dsimp only at hM
  rcases Nat.lt_or_ge k n with hk2 | hk2
  · have hml := hM.len
    have hmul : i * n ≤ 16 * 16 := Nat.mul_le_mul (by omega) (by omega)
    rw [hs k hk2]
    cases e1 : E i k with
    | false => exact .ret ⟨hk2, hk2, rfl, hM.skip e1⟩
    | true =>
      rw [cond_true, appM_eq (by simp; omega), some_bind]
      exact .ret ⟨hk2, hk2, rfl, hM.add hi hk2 e1⟩
  · have e : k = n := by omega
    subst e
    rw [he]
    exact .ret hM
theorem edges_loop {n : Nat} {E : Nat → Nat → Bool} (hn : n ≤ 16) {F : Int × List T_Pai → Option (Sum (List T_Pai) (Int × List T_Pai))}
    (hs : ∀ i : Nat, i < n → ∀ L, Eg n E i 0 L → T (F ((i : Int), L)) fun o => ∃ L', o = .inr (((i + 1 : Nat) : Int), L') ∧ Eg n E i n L')
    (he : ∀ L, F ((n : Int), L) = some (.inl L)) : T (loopC F (0, [])) fun L => Eg n E n 0 L := by
  refine T.loopK n (fun i s => i ≤ n ∧ s.1 = (i : Int) ∧ Eg n E i 0 s.2) ⟨by omega, rfl, ⟨by simp [rows, row], .nil, by simp, by simp, fun a b _ _ h => by omega⟩⟩ ?_
  rintro i ⟨_, L⟩ ⟨hi, rfl, hL⟩
  dsimp only at hL
  rcases Nat.lt_or_ge i n with hi2 | hi2
  · refine (hs i hi2 L hL).mono fun o ho => ?_
    obtain ⟨L', rfl, h2⟩ := ho
    exact ⟨hi2, hi2, rfl, h2.row⟩
  · have e : i = n := by omega
    subst e
    rw [he]
    exact .ret hL

/-- what Citable gives -/
structure Cit (l : T_Lib) (f : List ByteArray) (C : List Int) (g : T_Gra) : Prop where
  c : C = picks (citeB l f) l.Cases l.Cases.length
  gL : g.L = rows (fun a b => edge f (caseAt l C a) (caseAt l C b)) C.length C.length
  asc : C.Pairwise (· < ·)
  v : ∀ x ∈ C, 0 ≤ x ∧ x < l.Cases.length
  n : g.N = C.length
  gv : GVal g
  gl : g.L.length ≤ 256
theorem picks_asc {q : T_Cas → Bool} {C : List T_Cas} {k : Nat} : (picks q C k).Pairwise (· < ·) ∧ ∀ x ∈ picks q C k, 0 ≤ x ∧ x < (k : Int) := by
  unfold picks
  refine ⟨?_, fun x hx => ?_⟩
  · rw [List.pairwise_map]
    exact List.Pairwise.imp (fun h => by omega) (List.Pairwise.filter _ List.pairwise_lt_range)
  · obtain ⟨i, hi, rfl⟩ := List.mem_map.1 hx
    have := List.mem_range.1 (List.mem_filter.1 hi).1
    omega


theorem cit_of (h : Vd l) {C : List Int} (hC : C = picks (citeB l f) l.Cases l.Cases.length) {L : List T_Pai} (hL : Eg C.length (fun a b => edge f (caseAt l C a) (caseAt l C b)) C.length 0 L) : Cit l f C ⟨(C.length : Int), L⟩ := by
  have hn := h.n
  obtain ⟨hasc, hv⟩ := picks_asc (q := citeB l f) (C := l.Cases) (k := l.Cases.length)
  have hcl := picks_len (q := citeB l f) (C := l.Cases) (k := l.Cases.length)
  rw [← hC] at hasc hv hcl
  have hll := hL.len
  have hmul : C.length * C.length ≤ 16 * 16 := Nat.mul_le_mul (by omega) (by omega)
  refine ⟨hC, by have := hL.eq; simpa [row] using this, hasc, hv, rfl, ⟨by simp only; omega, by simp only; omega, fun p hp => ?_, hL.s⟩, by simp only; omega⟩
  obtain ⟨a, b, q1, q2, q3, q4, _⟩ := hL.v p hp
  simp only; omega
theorem case_at (h : Vd l) {C : List Int} (hC : C = picks (citeB l f) l.Cases l.Cases.length) {a : Nat} (ha : a < C.length) : idxM l.Cases C[a] = some (caseAt l C a) ∧ caseAt l C a ∈ l.Cases := by
  obtain ⟨_, hv⟩ := picks_asc (q := citeB l f) (C := l.Cases) (k := l.Cases.length)
  rw [← hC] at hv
  have := hv _ (List.getElem_mem ha)
  have hh : C[a].toNat < l.Cases.length := by omega
  have e : caseAt l C a = l.Cases[C[a].toNat] := by unfold caseAt; simp [ha, hh]
  exact ⟨by rw [e, idxM_eq (by omega) hh], by rw [e]; exact List.getElem_mem hh⟩
theorem shared_r {c : T_Cas} (hc : c.Facts.length ≤ 1000) (hf : f.length ≤ 1000) : ref38_shared_m c f = some (shr c.Facts f) := by
  unfold ref38_shared_m
  refine T.eq (T.bind (P := fun q => q = shr c.Facts f) ?_ fun q hq => .ret hq)
  refine T.loopK c.Facts.length (fun k s => k ≤ c.Facts.length ∧ s = ((k : Int), shr (c.Facts.take k) f)) ⟨by omega, rfl⟩ ?_
  rintro k _ ⟨hk, rfl⟩
  dsimp only [ref38_shared_l1]
  refine T.cond (fun g => ?_) fun g => ?_
  · have hk2 : k < c.Facts.length := by have := of_decide_eq_true g; omega
    have hsl := shr_len (a := c.Facts.take k) (f := f)
    rw [List.length_take] at hsl
    have htk : shr (c.Facts.take (k + 1)) f = shr (c.Facts.take k) f ++ (if memB c.Facts[k] f then [c.Facts[k]] else []) := by
      unfold shr
      rw [List.take_add_one, List.getElem?_eq_getElem hk2, List.filter_append]
      congr 1; simp [List.filter_cons]
    rw [idxM_nat hk2, some_bind, rIn_eq (by omega), some_bind, some_bind]
    simp only [letM_eq]
    rw [iadd1 (by omega), htk]
    refine T.cond (fun c2 => ?_) fun c2 => .ret ⟨hk2, hk2, by rw [c2]; simp⟩
    rw [appM_eq (by simp; omega), some_bind, c2]
    exact .ret ⟨hk2, hk2, by simp⟩
  · have e : k = c.Facts.length := by have := of_decide_eq_false g; omega
    subst e
    refine .ret ?_
    show shr (c.Facts.take c.Facts.length) f = _
    rw [List.take_length]

def CitE (l : T_Lib) (f : List ByteArray) (r : List Int × T_Gra × Int) : Prop := r.2.2 = sitE l f ∧ (sitE l f ≠ 0 → r.1 = [] ∧ r.2.1 = ⟨0, []⟩) ∧ (sitE l f = 0 → Cit l f r.1 r.2.1)
theorem Citable_p (h : Sz l) (hf : f.length ≤ 1000) : T (pc_Citable_m l f) (CitE l f) := by
  unfold pc_Citable_m
  rw [sit_p h hf, some_bind]
  refine T.cond (fun c => .ret ⟨rfl, fun _ => ⟨rfl, rfl⟩, fun e => by rw [e] at c; cases c⟩) fun c => ?_
  have hs : sitE l f = 0 := by simpa using c
  have hv := (sit_vd h hs).1
  have hn := hv.n
  rw [pick_loop (q := citeB l f) hv.n (F := pc_Citable_l1 l f) (fun i hi a => by
    have hw := hv.w _ (List.getElem_mem hi)
    have hc := h.c _ (List.getElem_mem hi)
    have hs := h.sd l.Cases[i].Winner
    have ho := ownF_len (l := l) (f := l.Cases[i].Facts) (w := l.Cases[i].Winner)
    dsimp only [pc_Citable_l1]
    rw [decide_eq_true (by omega), cond_true, idxM_nat hi, some_bind, own_eq hw (by omega) (by omega), some_bind, shared_eq (by omega) (by omega), some_bind, iadd1 (by omega)]
    rfl) (fun a => by dsimp only [pc_Citable_l1]; rw [decide_eq_false (by omega)]; rfl), some_bind]
  generalize hC : picks (citeB l f) l.Cases l.Cases.length = C
  have hcl := picks_len (q := citeB l f) (C := l.Cases) (k := l.Cases.length)
  rw [hC] at hcl
  refine T.bind (edges_loop (n := C.length) (E := fun a b => edge f (caseAt l C a) (caseAt l C b)) (by omega) (fun i hi L hL => ?_) fun L => ?_) fun L hL => .ret ⟨hs.symm, fun e => absurd hs e, fun _ => cit_of hv hC.symm hL⟩
  · obtain ⟨e1, m1⟩ := case_at hv hC.symm hi
    have l1 := h.c _ m1
    dsimp only [pc_Citable_l2]
    rw [decide_eq_true (by omega), cond_true, idxM_nat hi, some_bind, iadd1 (by omega)]
    refine T.bind (edge_loop (E := fun a b => edge f (caseAt l C a) (caseAt l C b)) hi (by omega) (fun k hk L => ?_) (fun L => ?_) hL) fun L' hL' => .ret ⟨L', rfl, hL'⟩
    · obtain ⟨e2, m2⟩ := case_at hv hC.symm hk
      have l2 := h.c _ m2
      have l3 := shr_len (a := (caseAt l C i).Facts) (f := f)
      have l4 := shr_len (a := (caseAt l C k).Facts) (f := f)
      dsimp only [pc_Citable_l3]
      unfold edge
      rw [decide_eq_true (by omega), cond_true, idxM_nat hk, some_bind, e1, some_bind, e2, some_bind, shared_eq (by omega) (by omega), some_bind, shared_eq (by omega) (by omega), some_bind, joinM_eq, iadd1 (by omega), within_eq (by omega) (by omega), some_bind]
      cases ((caseAt l C i).Winner != (caseAt l C k).Winner) <;> cases ((shr (caseAt l C i).Facts f).all fun z => memB z (shr (caseAt l C k).Facts f)) <;> rfl
    · dsimp only [pc_Citable_l3]
      rw [decide_eq_false (by omega)]; rfl
  · dsimp only [pc_Citable_l2]
    rw [decide_eq_false (by omega)]; rfl
theorem Citable_r (h : Sz l) (hf : f.length ≤ 1000) : T (ref38_Citable_m l f) (CitE l f) := by
  unfold ref38_Citable_m
  rw [sit_r h hf, some_bind]
  refine T.cond (fun c => .ret ⟨rfl, fun _ => ⟨rfl, rfl⟩, fun e => by rw [e] at c; cases c⟩) fun c => ?_
  have hs : sitE l f = 0 := by simpa using c
  have hv := (sit_vd h hs).1
  have hn := hv.n
  rw [pick_loop (q := citeB l f) hv.n (F := ref38_Citable_l1 l f) (fun i hi a => by
    have hw := hv.w _ (List.getElem_mem hi)
    have hc := h.c _ (List.getElem_mem hi)
    have hs := h.sd l.Cases[i].Winner
    have ho := shr_len (a := l.Cases[i].Facts) (f := f)
    dsimp only [ref38_Citable_l1]
    rw [decide_eq_true (by omega), cond_true, idxM_nat hi]
    simp only [some_bind, letM_eq]
    rw [shared_r (by omega) hf, some_bind, rOwn_eq hw (by omega) (by omega), some_bind, iadd1 (by omega)]
    have e : ownF l (shr l.Cases[i].Facts f) l.Cases[i].Winner = shr (ownF l l.Cases[i].Facts l.Cases[i].Winner) f := by
      unfold ownF shr
      rw [List.filter_filter, List.filter_filter]
      congr 1; funext x; exact Bool.and_comm _ _
    rw [e]
    rfl) (fun a => by dsimp only [ref38_Citable_l1]; rw [decide_eq_false (by omega)]; rfl), some_bind]
  generalize hC : picks (citeB l f) l.Cases l.Cases.length = C
  have hcl := picks_len (q := citeB l f) (C := l.Cases) (k := l.Cases.length)
  rw [hC] at hcl
  refine T.bind (edges_loop (n := C.length) (E := fun a b => edge f (caseAt l C a) (caseAt l C b)) (by omega) (fun i hi L hL => ?_) fun L => ?_) fun L hL => .ret ⟨hs.symm, fun e => absurd hs e, fun _ => cit_of hv hC.symm hL⟩
  · obtain ⟨e1, m1⟩ := case_at hv hC.symm hi
    have l1 := h.c _ m1
    dsimp only [ref38_Citable_l2]
    rw [decide_eq_true (by omega), cond_true]
    refine T.bind (edge_loop (E := fun a b => edge f (caseAt l C a) (caseAt l C b)) hi (by omega) (fun k hk L => ?_) (fun L => ?_) hL) fun L' hL' => .letM (.ret ⟨L', by rw [iadd1 (by omega)], hL'⟩)
    · obtain ⟨e2, m2⟩ := case_at hv hC.symm hk
      have l2 := h.c _ m2
      have l3 := shr_len (a := (caseAt l C i).Facts) (f := f)
      have l4 := shr_len (a := (caseAt l C k).Facts) (f := f)
      dsimp only [ref38_Citable_l3]
      unfold edge
      rw [decide_eq_true (by omega), cond_true, idxM_nat hi, some_bind, e1, some_bind, idxM_nat hk, some_bind, e2, some_bind, shared_r (by omega) (by omega), some_bind, shared_r (by omega) (by omega), some_bind, joinM_eq]
      simp only [letM_eq]
      rw [iadd1 (by omega), rInside_eq (by omega) (by omega), some_bind]
      cases ((caseAt l C i).Winner != (caseAt l C k).Winner) <;> cases ((shr (caseAt l C i).Facts f).all fun z => memB z (shr (caseAt l C k).Facts f)) <;> rfl
    · dsimp only [ref38_Citable_l3]
      rw [decide_eq_false (by omega)]; rfl
  · dsimp only [ref38_Citable_l2]
    rw [decide_eq_false (by omega)]; rfl
theorem citE_eq {r r' : List Int × T_Gra × Int} (h : CitE l f r) (h' : CitE l f r') : r = r' := by
  obtain ⟨a, ⟨N, L⟩, e⟩ := r
  obtain ⟨a', ⟨N', L'⟩, e'⟩ := r'
  obtain ⟨h1, h2, h3⟩ := h
  obtain ⟨h1', h2', h3'⟩ := h'
  dsimp only at *
  by_cases c : sitE l f = 0
  · have q := h3 c; have q' := h3' c
    have ea : a = a' := by rw [q.c, q'.c]
    subst ea
    have eN : N = N' := by have := q.n; have := q'.n; simp only at *; omega
    have eL : L = L' := (show L = _ from q.gL).trans (show L' = _ from q'.gL).symm
    subst eN; subst eL
    rw [h1, h1']
  · obtain ⟨r1, r2⟩ := h2 c
    obtain ⟨r1', r2'⟩ := h2' c
    rw [r1, r1', r2, r2', h1, h1']

/-- the first node that stands -/
noncomputable def fst1 (g : T_Gra) (n : Nat) : Option Nat := (List.range n).find? fun i : Nat => decide (Gr (att g) i)
theorem fst1_succ {g : T_Gra} {n : Nat} : fst1 g (n + 1) = match fst1 g n with | some i => some i | none => if Gr (att g) n then some n else none := by
  unfold fst1
  rw [List.range_succ, List.find?_append]
  generalize (List.range n).find? (fun i : Nat => decide (Gr (att g) i)) = o
  cases o with
  | some i => rfl
  | none =>
    by_cases c : Gr (att g) n
    · simp [c]
    · simp [c]
theorem fst1_some {g : T_Gra} {n i : Nat} (h : fst1 g n = some i) : i < n ∧ Gr (att g) i := by
  unfold fst1 at h
  have h1 := List.find?_some h
  exact ⟨List.mem_range.1 (List.mem_of_find?_eq_some h), of_decide_eq_true h1⟩

noncomputable def stand (l : T_Lib) (C : List Int) (g : T_Gra) (n : Nat) : Int × Int := match fst1 g n with | some i => ((caseAt l C i).Winner, C.getD i 0) | none => (0, -1)


noncomputable def decE (l : T_Lib) (f : List ByteArray) (r : List Int × T_Gra × Int) : Int × Int × Int := bif r.2.2 != 0 then (0, 0, r.2.2) else ((stand l r.1 r.2.1 r.1.length).1, (stand l r.1 r.2.1 r.1.length).2, 0)
theorem stand_at {C : List Int} {g : T_Gra} {k : Nat} (hk : k < C.length) (hn : fst1 g k = none) (hg : Gr (att g) k) : stand l C g C.length = ((caseAt l C k).Winner, C[k]) := by
  have hs : fst1 g C.length = some k := by
    have h1 : fst1 g (k + 1) = some k := by rw [fst1_succ, hn]; simp only; rw [if_pos hg]
    have : ∀ m, fst1 g (k + 1 + m) = some k := fun m => by
      induction m with
      | zero => exact h1
      | succ m ih => rw [← Nat.add_assoc, fst1_succ, ih]
    have e := this (C.length - (k + 1))
    rwa [show k + 1 + (C.length - (k + 1)) = C.length by omega] at e
  unfold stand
  rw [hs]
  simp [hk]
theorem Decide_p (h : Sz l) (hf : f.length ≤ 1000) {r : List Int × T_Gra × Int} (hr : pc_Citable_m l f = some r) (hc : CitE l f r) : T (pc_Decide_m l f) fun d => d = decE l f r := by
  unfold pc_Decide_m decE
  rw [hr, some_bind]
  refine T.cond (fun c => .ret (by rw [c]; rfl)) fun c => ?_
  rw [c, cond_false]
  have hs : sitE l f = 0 := by have := hc.1; rw [← this]; simpa using c
  have hv := (sit_vd h hs).1
  have ci := hc.2.2 hs
  obtain ⟨C, g, e⟩ := r
  dsimp only at ci ⊢
  have hgl := ci.gl
  have hcl : C.length ≤ 40 := by have := ci.n; have := ci.gv.n1; omega
  refine T.bind (Label_plain ci.gv (by omega) ci.n) ?_
  rintro L ⟨hL, hLg⟩
  refine T.bind (P := fun o => match o with | .inl d => d = ((stand l C g C.length).1, (stand l C g C.length).2, 0) | .inr _ => fst1 g C.length = none) ?_ fun o ho => ?_
  · refine T.loopK C.length (fun k s => k ≤ C.length ∧ s = (k : Int) ∧ fst1 g k = none) ⟨by omega, rfl, rfl⟩ ?_
    rintro k _ ⟨hk, rfl, hn⟩
    dsimp only [pc_Decide_l1]
    refine T.cond (fun g1 => ?_) fun g1 => ?_
    · have hk2 : k < C.length := by have := of_decide_eq_true g1; omega
      obtain ⟨e1, _⟩ := case_at hv ci.c hk2
      rw [idxM_nat hk2, some_bind, iadd1 (by omega), decide_eq_true (show (k : Int) < (L.length : Int) by omega)]
      refine T.joinP (fun j => j = true ↔ Gr (att g) k) (fun j hj => ?_) fun kk hkk => ?_
      · refine T.cond (fun c1 => ?_) fun c1 => .ret ⟨hk2, hk2, rfl, ?_⟩
        · rw [e1, some_bind]
          refine .ret ?_
          show _ = ((stand l C g C.length).1, (stand l C g C.length).2, 0)
          rw [stand_at hk2 hn (hj.1 c1)]
        · rw [fst1_succ, hn]
          simp only
          rw [if_neg fun e => by rw [hj.2 e] at c1; cases c1]
      · rw [cond_true, idx_sf (by omega), some_bind]
        refine hkk _ ?_
        rw [beq_iff_eq]
        exact hLg k hk2
    · have e : k = C.length := by have := of_decide_eq_false g1; omega
      subst e
      exact .ret hn
  · rcases o with r | u
    · exact .ret ho
    · refine .ret ?_
      unfold stand
      rw [show fst1 g C.length = none from ho]
theorem Decide_r (h : Sz l) (hf : f.length ≤ 1000) {r : List Int × T_Gra × Int} (hr : ref38_Citable_m l f = some r) (hc : CitE l f r) : T (ref38_Decide_m l f) fun d => d = decE l f r := by
  unfold ref38_Decide_m decE
  rw [hr, some_bind]
  refine T.cond (fun c => .ret (by rw [c]; rfl)) fun c => ?_
  rw [c, cond_false]
  have hs : sitE l f = 0 := by have := hc.1; rw [← this]; simpa using c
  have hv := (sit_vd h hs).1
  have ci := hc.2.2 hs
  obtain ⟨C, g, e⟩ := r
  dsimp only at ci ⊢
  have hgl := ci.gl
  have hgn := ci.n
  have hcl : C.length ≤ 40 := by have := ci.n; have := ci.gv.n1; omega
  refine T.bind (nGrounded_plain ci.gv.gv (by omega)) ?_
  rintro L ⟨hL, hLg⟩
  refine T.bind (P := fun o => match o with | .inl d => d = ((stand l C g C.length).1, (stand l C g C.length).2, 0) | .inr _ => fst1 g C.length = none) ?_ fun o ho => ?_
  · refine T.loopK C.length (fun k s => k ≤ C.length ∧ s = (k : Int) ∧ fst1 g k = none) ⟨by omega, rfl, rfl⟩ ?_
    rintro k _ ⟨hk, rfl, hn⟩
    dsimp only [ref38_Decide_l1]
    refine T.cond (fun g1 => ?_) fun g1 => ?_
    · have hk2 : k < C.length := by have := of_decide_eq_true g1; omega
      obtain ⟨e1, _⟩ := case_at hv ci.c hk2
      have hg := (hLg k (by omega)).2.1
      rw [idx_sf (by omega), some_bind]
      refine T.cond (fun c1 => ?_) fun c1 => ?_
      · rw [idxM_nat hk2, some_bind, e1, some_bind, some_bind]
        refine .ret ?_
        show _ = ((stand l C g C.length).1, (stand l C g C.length).2, 0)
        rw [stand_at hk2 hn (hg.1 (of_decide_eq_true c1))]
      · rw [letM_eq, iadd1 (by omega)]
        refine .ret ⟨hk2, hk2, rfl, ?_⟩
        rw [fst1_succ, hn]
        simp only
        rw [if_neg fun e => by have := of_decide_eq_false c1; exact this (hg.2 e)]
    · have e : k = C.length := by have := of_decide_eq_false g1; omega
      subst e
      exact .ret hn
  · rcases o with r | u
    · exact .ret ho
    · refine .ret ?_
      unfold stand
      rw [show fst1 g C.length = none from ho]
end Go.Dc
