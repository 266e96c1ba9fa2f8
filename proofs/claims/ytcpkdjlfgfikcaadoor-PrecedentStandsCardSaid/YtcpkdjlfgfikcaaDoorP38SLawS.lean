/- Part P38S.LawS of a proof: lemmas. -/
import Derived.Test.YtcpkdjlfgfikcaaDoorP38SForce
import Derived.Test.YtcpkdjlfgfikcaaDoorP38SLab2
import Derived.Test.YtcpkdjlfgfikcaaDoorP38SAwake
set_option linter.unusedVariables false
set_option linter.unusedSimpArgs false
set_option linter.unusedSectionVars false
/-! The law PrecedentStands. -/
namespace Go.Dc
open Classical
variable {l : T_api_Library} {f : List ByteArray}

def shr (a f : List ByteArray) : List ByteArray := a.filter fun x => memB x f
theorem shr_len {a f : List ByteArray} : (shr a f).length ≤ a.length := List.length_filter_le _ _
theorem shared_eq {a : List ByteArray} (ha : a.length ≤ 1000) (hf : f.length ≤ 1000) : precedent_shared_m a f = some (shr a f) := by
  unfold precedent_shared_m
  rw [Clone_eq (by omega), some_bind]
  have hg : ∀ x ∈ a, precedent_shared_1_m x f = some (!memB x f) := fun x _ => by
    unfold precedent_shared_1_m
    rw [Contains_eq (by omega), some_bind]
  have hix : slices_IndexFunc_string_string_5_m a f = _ := ix_eq (g := fun x => precedent_shared_1_m x f) (p := fun x => !memB x f) (by omega) hg (F := slices_IndexFunc_string_string_5_l1 a f) (by funext k; rfl)
  have := df_eq (z := ByteArray.empty) (by omega) hg hix (F := slices_DeleteFunc_string_string_2_l1 f) (by funext st; rfl)
  unfold slices_DeleteFunc_string_string_2_m
  rw [this, some_bind]
  unfold shr
  congr 2
  funext x; simp

def citeB (l : T_api_Library) (f : List ByteArray) (c : T_api_Case) : Bool := decide (((shr (ownF l c.Facts c.Winner) f).length : Int) > 0)
/-- does the one case attack the other? -/
def edge (f : List ByteArray) (x y : T_api_Case) : Bool := (x.Winner != y.Winner) && !(((shr x.Facts f).all fun z => memB z (shr y.Facts f)) && decide (((shr x.Facts f).length : Int) < ((shr y.Facts f).length : Int)))
theorem edge_or {x y : T_api_Case} (h : x.Winner ≠ y.Winner) : edge f x y = true ∨ edge f y x = true := by
  unfold edge
  have h1 : (x.Winner != y.Winner) = true := by simpa using h
  have h2 : (y.Winner != x.Winner) = true := by simpa using fun e => h e.symm
  rw [h1, h2]
  simp only [Bool.true_and]
  by_cases c1 : ((shr x.Facts f).length : Int) < ((shr y.Facts f).length : Int)
  · right
    rw [decide_eq_false (show ¬ ((shr y.Facts f).length : Int) < ((shr x.Facts f).length : Int) by omega)]; simp
  · left
    rw [decide_eq_false c1]; simp

def caseAt (l : T_api_Library) (C : List Int) (a : Nat) : T_api_Case := l.Cases.getD (C.getD a 0).toNat ⟨ByteArray.empty, [], 0, []⟩
def plt' (p q : T_api_Pair) : Prop := plt p q

/-- the attacks ahead of (i, k) -/
structure Eg (n : Nat) (E : Nat → Nat → Bool) (i k : Nat) (L : List T_api_Pair) : Prop where
  s : L.Pairwise plt
  len : L.length ≤ i * n + k
  v : ∀ p ∈ L, ∃ a b : Nat, p.From = a ∧ p.To = b ∧ a < n ∧ b < n ∧ (a < i ∨ a = i ∧ b < k) ∧ E a b = true
  all : ∀ a b : Nat, a < n → b < n → (a < i ∨ a = i ∧ b < k) → E a b = true → ∃ p ∈ L, p.From = a ∧ p.To = b
theorem Eg.skip {n : Nat} {E : Nat → Nat → Bool} {i k : Nat} {L : List T_api_Pair} (h : Eg n E i k L) (he : E i k = false) : Eg n E i (k + 1) L := by
  refine ⟨h.s, by have := h.len; omega, fun p hp => ?_, fun a b ha hb hab hE => ?_⟩
  · obtain ⟨a, b, q1, q2, q3, q4, q5, q6⟩ := h.v p hp
    exact ⟨a, b, q1, q2, q3, q4, by omega, q6⟩
  · by_cases e : a = i ∧ b = k
    · rw [e.1, e.2, he] at hE; cases hE
    · exact h.all a b ha hb (by omega) hE
theorem Eg.add {n : Nat} {E : Nat → Nat → Bool} {i k : Nat} {L : List T_api_Pair} (h : Eg n E i k L) (hi : i < n) (hk : k < n) (he : E i k = true) : Eg n E i (k + 1) (L ++ [⟨i, k⟩]) := by
  refine ⟨List.pairwise_append.2 ⟨h.s, List.pairwise_singleton _ _, fun p hp q hq => ?_⟩, by have := h.len; simp; omega, fun p hp => ?_, fun a b ha hb hab hE => ?_⟩
  · rw [List.mem_singleton.1 hq]
    obtain ⟨a, b, q1, q2, q3, q4, q5, q6⟩ := h.v p hp
    unfold plt; simp only; omega
  · rcases List.mem_append.1 hp with hp | hp
    · obtain ⟨a, b, q1, q2, q3, q4, q5, q6⟩ := h.v p hp
      exact ⟨a, b, q1, q2, q3, q4, by omega, q6⟩
    · rw [List.mem_singleton.1 hp]
      exact ⟨i, k, rfl, rfl, hi, hk, by omega, he⟩
  · by_cases e : a = i ∧ b = k
    · exact ⟨⟨i, k⟩, by simp, by simp only; omega, by simp only; omega⟩
    · obtain ⟨p, hp, q⟩ := h.all a b ha hb (by omega) hE
      exact ⟨p, List.mem_append_left _ hp, q⟩
theorem Eg.row {n : Nat} {E : Nat → Nat → Bool} {i : Nat} {L : List T_api_Pair} (h : Eg n E i n L) : Eg n E (i + 1) 0 L := by
  refine ⟨h.s, by have := h.len; rw [Nat.succ_mul]; omega, fun p hp => ?_, fun a b ha hb hab hE => h.all a b ha hb (by omega) hE⟩
  obtain ⟨a, b, q1, q2, q3, q4, q5, q6⟩ := h.v p hp
  exact ⟨a, b, q1, q2, q3, q4, by omega, q6⟩

/-- what Citable gives -/
structure Cit (l : T_api_Library) (f : List ByteArray) (C : List Int) (g : T_api_Graph) : Prop where
  asc : C.Pairwise (· < ·)
  v : ∀ x ∈ C, 0 ≤ x ∧ x < l.Cases.length
  n : g.N = C.length
  gv : GVal g
  gl : g.L.length ≤ 36
  at_ : ∀ a b : Nat, att g a b ↔ a < C.length ∧ b < C.length ∧ edge f (caseAt l C a) (caseAt l C b) = true

theorem picks_asc {q : T_api_Case → Bool} {C : List T_api_Case} {k : Nat} : (picks q C k).Pairwise (· < ·) ∧ ∀ x ∈ picks q C k, 0 ≤ x ∧ x < (k : Int) := by
  unfold picks
  refine ⟨?_, fun x hx => ?_⟩
  · rw [List.pairwise_map]
    exact List.Pairwise.imp (fun h => by omega) (List.Pairwise.filter _ List.pairwise_lt_range)
  · obtain ⟨i, hi, rfl⟩ := List.mem_map.1 hx
    have := List.mem_range.1 (List.mem_filter.1 hi).1
    omega

theorem Citable_plain (h : LibOk l) (hf : f.Sublist all6) : T (precedent_Citable_m l f) fun r => r.2.2 = 0 ∧ Cit l f r.1 r.2.1 := by
  have hlen := h.len
  have hfl := sub_len hf
  unfold precedent_Citable_m
  rw [situation_plain h hf, some_bind, show ((0 : Int) != 0) = false from rfl, cond_false]
  refine T.bind (P := fun C => C = picks (citeB l f) l.Cases l.Cases.length) ?_ fun C hC => ?_
  · refine T.loopK l.Cases.length (fun k s => k ≤ l.Cases.length ∧ s = ((k : Int), picks (citeB l f) l.Cases k)) ⟨by omega, rfl⟩ ?_
    rintro k _ ⟨hk, rfl⟩
    dsimp only [precedent_Citable_l1]
    refine T.cond (fun g => ?_) fun g => ?_
    · have hk2 : k < l.Cases.length := by have := of_decide_eq_true g; omega
      have ok := h.ok k hk2
      have hcf := sub_len ok.facts
      have p1 := picks_len (q := citeB l f) (C := l.Cases) (k := k)
      have ho := ownF_len (l := l) (f := l.Cases[k].Facts) (w := l.Cases[k].Winner)
      rw [idxM_nat hk2, some_bind, own_eq ok.win (by rw [h.sdlen]; omega) (by omega), some_bind, shared_eq (by omega) (by omega), some_bind, iadd1 (by omega), picks_succ hk2]
      refine T.cond (fun c => ?_) fun c => .ret ⟨hk2, hk2, by rw [show citeB l f l.Cases[k] = false from c]; simp⟩
      rw [appM_eq (by simp; omega), some_bind]
      exact .ret ⟨hk2, hk2, by rw [show citeB l f l.Cases[k] = true from c]; simp⟩
    · have e : k = l.Cases.length := by have := of_decide_eq_false g; omega
      subst e
      exact .ret rfl
  · obtain ⟨hasc, hv⟩ := picks_asc (q := citeB l f) (C := l.Cases) (k := l.Cases.length)
    have hcl := picks_len (q := citeB l f) (C := l.Cases) (k := l.Cases.length)
    rw [← hC] at hasc hv hcl
    have hcase : ∀ (a : Nat) (ha : a < C.length), ∃ hh : C[a].toNat < l.Cases.length, idxM l.Cases C[a] = some (caseAt l C a) ∧ caseAt l C a = l.Cases[C[a].toNat] := fun a ha => by
      have := hv _ (List.getElem_mem ha)
      have hh : C[a].toNat < l.Cases.length := by omega
      have e : caseAt l C a = l.Cases[C[a].toNat] := by unfold caseAt; simp [ha, hh]
      refine ⟨hh, ?_, e⟩
      rw [e, idxM_eq (by omega) hh]
    refine T.bind (P := fun L => Eg C.length (fun a b => edge f (caseAt l C a) (caseAt l C b)) C.length 0 L) ?_ fun L hL => ?_
    · refine T.loopK C.length (fun i s => i ≤ C.length ∧ s.1 = (i : Int) ∧ Eg C.length (fun a b => edge f (caseAt l C a) (caseAt l C b)) i 0 s.2) ⟨by omega, rfl, ⟨.nil, by simp, by simp, fun a b _ _ h => by omega⟩⟩ ?_
      rintro i ⟨_, L⟩ ⟨hi, rfl, hL⟩
      dsimp only [precedent_Citable_l2] at hL ⊢
      refine T.cond (fun g => ?_) fun g => ?_
      · have hi2 : i < C.length := by have := of_decide_eq_true g; omega
        obtain ⟨hh, e1, e2⟩ := hcase i hi2
        rw [idxM_nat hi2, some_bind, iadd1 (by omega)]
        refine T.bind (P := fun L => Eg C.length (fun a b => edge f (caseAt l C a) (caseAt l C b)) i C.length L) ?_ fun L' hL' => .ret ⟨hi2, hi2, rfl, hL'.row⟩
        refine T.loopK C.length (fun k s => k ≤ C.length ∧ s.1 = (k : Int) ∧ Eg C.length (fun a b => edge f (caseAt l C a) (caseAt l C b)) i k s.2) ⟨by omega, rfl, hL⟩ ?_
        rintro k ⟨_, M⟩ ⟨hk, rfl, hM⟩
        dsimp only [precedent_Citable_l3] at hM ⊢
        refine T.cond (fun g2 => ?_) fun g2 => ?_
        · have hk2 : k < C.length := by have := of_decide_eq_true g2; omega
          obtain ⟨hh2, e3, e4⟩ := hcase k hk2
          have l1 := sub_len (h.ok _ hh).facts
          have l2 := sub_len (h.ok _ hh2).facts
          rw [← e2] at l1
          rw [← e4] at l2
          have l3 := shr_len (a := (caseAt l C i).Facts) (f := f)
          have l4 := shr_len (a := (caseAt l C k).Facts) (f := f)
          have hml := hM.len
          have hmul : i * C.length ≤ 6 * 6 := Nat.mul_le_mul (by omega) (by omega)
          rw [idxM_nat hk2, some_bind, e1, some_bind, e3, some_bind, shared_eq (by omega) (by omega), some_bind, shared_eq (by omega) (by omega), some_bind, iadd1 (by omega)]
          refine T.joinP (fun j => j = edge f (caseAt l C i) (caseAt l C k)) (fun j hj => ?_) fun kk hkk => ?_
          · refine T.cond (fun c => ?_) fun c => .ret ⟨hk2, hk2, rfl, hM.skip (by rw [← hj]; exact c)⟩
            rw [appM_eq (by simp; omega), some_bind]
            exact .ret ⟨hk2, hk2, rfl, hM.add hi2 hk2 (by rw [← hj]; exact c)⟩
          · unfold edge at hkk
            refine T.cond (fun c => ?_) fun c => hkk _ (by rw [c]; rfl)
            rw [within_eq (by omega) (by omega), some_bind]
            refine T.cond (fun c2 => hkk _ (by rw [c, c2]; rfl)) fun c2 => hkk _ (by rw [c, c2]; rfl)
        · have e : k = C.length := by have := of_decide_eq_false g2; omega
          subst e
          exact .ret hM
      · have e : i = C.length := by have := of_decide_eq_false g; omega
        subst e
        exact .ret hL
    · have hll := hL.len
      have hmul : C.length * C.length ≤ 6 * 6 := Nat.mul_le_mul (by omega) (by omega)
      refine .ret ⟨rfl, hasc, hv, rfl, ⟨by simp only; omega, by simp only; omega, fun p hp => ?_, hL.s⟩, by simp only; omega, fun a b => ?_⟩
      · obtain ⟨a, b, q1, q2, q3, q4, _⟩ := hL.v p hp
        simp only; omega
      · constructor
        · rintro ⟨p, hp, q1, q2⟩
          obtain ⟨a', b', r1, r2, r3, r4, _, r6⟩ := hL.v p hp
          have ea : a' = a := by omega
          have eb : b' = b := by omega
          subst ea; subst eb
          exact ⟨r3, r4, r6⟩
        · rintro ⟨ha, hb, hE⟩
          dsimp only at ha hb hE ⊢
          exact hL.all a b ha hb (by omega) hE

/-- the first node that stands -/
noncomputable def fst1 (g : T_api_Graph) (n : Nat) : Option Nat := (List.range n).find? fun i : Nat => decide (Gr (att g) i)
theorem fst1_succ {g : T_api_Graph} {n : Nat} : fst1 g (n + 1) = match fst1 g n with | some i => some i | none => if Gr (att g) n then some n else none := by
  unfold fst1
  rw [List.range_succ, List.find?_append]
  generalize (List.range n).find? (fun i : Nat => decide (Gr (att g) i)) = o
  cases o with
  | some i => rfl
  | none =>
    by_cases c : Gr (att g) n
    · simp [c]
    · simp [c]
theorem fst1_some {g : T_api_Graph} {n i : Nat} (h : fst1 g n = some i) : i < n ∧ Gr (att g) i := by
  unfold fst1 at h
  have h1 := List.find?_some h
  exact ⟨List.mem_range.1 (List.mem_of_find?_eq_some h), of_decide_eq_true h1⟩

noncomputable def stand (l : T_api_Library) (C : List Int) (g : T_api_Graph) (n : Nat) : Int × Int := match fst1 g n with | some i => ((caseAt l C i).Winner, C.getD i 0) | none => (0, -1)

theorem Cit.idx {C : List Int} {g : T_api_Graph} (c : Cit l f C g) {a : Nat} (ha : a < C.length) : idxM l.Cases C[a] = some (caseAt l C a) ∧ ∃ k, ∃ hk : k < l.Cases.length, caseAt l C a = l.Cases[k] := by
  have := c.v _ (List.getElem_mem ha)
  have hh : C[a].toNat < l.Cases.length := by omega
  have e : caseAt l C a = l.Cases[C[a].toNat] := by unfold caseAt; simp [ha, hh]
  exact ⟨by rw [e, idxM_eq (by omega) hh], _, hh, e⟩
theorem Cit.same {C : List Int} {g : T_api_Graph} (c : Cit l f C g) {a b : Nat} (ha : a < C.length) (hb : b < C.length) (ga : Gr (att g) a) (gb : Gr (att g) b) : (caseAt l C a).Winner = (caseAt l C b).Winner := by
  refine Classical.byContradiction fun hne => ?_
  have := c.gl
  rcases edge_or (f := f) hne with e | e
  · exact gr_free c.gv (by omega) ((c.at_ a b).2 ⟨ha, hb, e⟩) ga gb
  · exact gr_free c.gv (by omega) ((c.at_ b a).2 ⟨hb, ha, e⟩) gb ga

theorem Decide_plain (h : LibOk l) {C : List Int} {g : T_api_Graph} (hc : precedent_Citable_m l f = some (C, g, 0)) (c : Cit l f C g) : T (precedent_Decide_m l f) fun r => r = ((stand l C g C.length).1, (stand l C g C.length).2, 0) := by
  have hgl := c.gl
  have hlen := h.len
  have hcl : C.length ≤ 40 := by have := c.n; have := c.gv.n1; omega
  unfold precedent_Decide_m
  rw [hc, some_bind]
  simp only [show ((0 : Int) != 0) = false from rfl, cond_false]
  refine T.bind (Label_plain c.gv (by omega) c.n) ?_
  rintro L ⟨hL, hLg⟩
  refine T.bind (P := fun o => match o with | .inl r => r = ((stand l C g C.length).1, (stand l C g C.length).2, 0) | .inr _ => fst1 g C.length = none) ?_ fun o ho => ?_
  · refine T.loopK C.length (fun k s => k ≤ C.length ∧ s = (k : Int) ∧ fst1 g k = none) ⟨by omega, rfl, rfl⟩ ?_
    rintro k _ ⟨hk, rfl, hn⟩
    dsimp only [precedent_Decide_l1]
    refine T.cond (fun g1 => ?_) fun g1 => ?_
    · have hk2 : k < C.length := by have := of_decide_eq_true g1; omega
      obtain ⟨e1, _⟩ := c.idx hk2
      rw [idxM_nat hk2, some_bind, iadd1 (by omega), decide_eq_true (show (k : Int) < (L.length : Int) by omega)]
      refine T.joinP (fun j => j = true ↔ Gr (att g) k) (fun j hj => ?_) fun kk hkk => ?_
      · refine T.cond (fun c1 => ?_) fun c1 => .ret ⟨hk2, hk2, rfl, ?_⟩
        · rw [e1, some_bind]
          refine .ret ?_
          have hs : fst1 g C.length = some k := by
            have h1 : fst1 g (k + 1) = some k := by rw [fst1_succ, hn]; simp only; rw [if_pos (hj.1 c1)]
            have : ∀ m, fst1 g (k + 1 + m) = some k := fun m => by
              induction m with
              | zero => exact h1
              | succ m ih => rw [← Nat.add_assoc, fst1_succ, ih]
            have e := this (C.length - (k + 1))
            rwa [show k + 1 + (C.length - (k + 1)) = C.length by omega] at e
          unfold stand
          rw [hs]
          simp [hk2]
        · rw [fst1_succ, hn]
          simp only
          rw [if_neg fun e => by rw [hj.2 e] at c1; cases c1]
      · rw [cond_true, idx_sf (by omega), some_bind]
        refine hkk _ ?_
        rw [beq_iff_eq]
        exact hLg k hk2
    · have e : k = C.length := by have := of_decide_eq_false g1; omega
      subst e
      exact .ret hn
  · rcases o with r | u
    · exact .ret ho
    · refine .ret ?_
      unfold stand
      rw [show fst1 g C.length = none from ho]

theorem Set_plain {C : List Int} {n : Nat} (hasc : C.Pairwise (· < ·)) (hv : ∀ x ∈ C, 0 ≤ x ∧ x < (n : Int)) (hl : C.length ≤ 1000) : net_Set_m (T_api_Graph.mk (n : Int) []) C = some true := by
  unfold net_Set_m
  refine T.eq (T.bind (P := fun o => o = Sum.inr ()) ?_ fun o ho => by subst ho; exact .ret rfl)
  refine T.loopK C.length (fun k s => k ≤ C.length ∧ s = (k : Int)) ⟨by omega, rfl⟩ ?_
  rintro k _ ⟨hk, rfl⟩
  dsimp only [net_Set_l1]
  refine T.cond (fun g1 => ?_) fun g1 => .ret rfl
  have hk2 : k < C.length := by have := of_decide_eq_true g1; omega
  have hb := hv _ (List.getElem_mem hk2)
  rw [idxM_nat hk2, some_bind, decide_eq_false (by omega), cond_false, some_bind, decide_eq_false (by omega), cond_false, some_bind, iadd1 (by omega)]
  refine T.cond (fun c => ?_) fun c => .letM (.ret ⟨hk2, hk2, rfl⟩)
  have h1 : 1 ≤ k := by have := of_decide_eq_true c; omega
  rw [isub64 (by omega) (by omega), show (k : Int) - 1 = ((k - 1 : Nat) : Int) by omega, idxM_nat (show k - 1 < C.length by omega), some_bind]
  have hp := List.pairwise_iff_getElem.1 hasc (k - 1) k (by omega) hk2 (by omega)
  rw [decide_eq_false (by omega), cond_false]
  exact .letM (.ret ⟨hk2, hk2, rfl⟩)

theorem law38_PrecedentStands_plain (l : List Int) {p0 : Prop} (_ : p0) : law38_PrecedentStands_m l = some true := by
  refine T.eq ?_
  unfold law38_PrecedentStands_m
  refine T.bind New_plain fun s hs => ?_
  refine T.bind (library_plain hs (m := 6) (by omega) (by omega)) ?_
  rintro ⟨lib, s1⟩ ⟨hL, hs1⟩
  refine T.bind (facts_plain hs1) ?_
  rintro ⟨f, s2⟩ ⟨hs2, hf⟩
  dsimp only at hL hs2 hf ⊢
  obtain ⟨⟨C, g, e⟩, hc, he, c⟩ := Citable_plain hL hf
  dsimp only at he c
  subst he
  obtain ⟨r, hd, rfl⟩ := Decide_plain hL hc c
  rw [hc, some_bind, hd, some_bind]
  have hgl := c.gl
  have hcn := c.n
  have hcl : C.length ≤ 40 := by have := c.gv.n1; omega
  simp only [show ((0 : Int) != 0) = false from rfl, cond_false]
  rw [show (g.N != (C.length : Int)) = false by simp [hcn], cond_false, Set_plain c.asc c.v (by omega), some_bind, Bool.not_true, cond_false]
  refine T.bind (P := fun o => o = Sum.inr ()) ?_ fun o ho => ?_
  · refine T.loopK g.L.length (fun k s => k ≤ g.L.length ∧ s = (k : Int)) ⟨by omega, rfl⟩ ?_
    rintro k _ ⟨hk, rfl⟩
    dsimp only [law38_PrecedentStands_l1]
    refine T.cond (fun g1 => ?_) fun g1 => .ret rfl
    have hk2 : k < g.L.length := by have := of_decide_eq_true g1; omega
    have hv := c.gv.v _ (List.getElem_mem hk2)
    obtain ⟨a, ha⟩ : ∃ a : Nat, g.L[k].From = (a : Int) := ⟨g.L[k].From.toNat, by omega⟩
    obtain ⟨b, hb⟩ : ∃ b : Nat, g.L[k].To = (b : Int) := ⟨g.L[k].To.toNat, by omega⟩
    obtain ⟨aC, bC, hE⟩ := (c.at_ a b).1 ⟨_, List.getElem_mem hk2, ha, hb⟩
    rw [idxM_nat hk2, some_bind, decide_eq_false (by omega), cond_false, decide_eq_false (by omega), cond_false, decide_eq_false (by omega), cond_false, decide_eq_false (by omega), cond_false, ha, hb, idxM_nat aC, some_bind, (c.idx aC).1, some_bind, idxM_nat bC, some_bind, (c.idx bC).1, some_bind]
    have hw : ((caseAt lib C a).Winner == (caseAt lib C b).Winner) = false := by
      unfold edge at hE
      rw [Bool.and_eq_true] at hE
      simpa using hE.1
    rw [hw, cond_false, iadd1 (by omega)]
    exact .letM (.ret ⟨hk2, hk2, rfl⟩)
  · subst ho
    rw [sumK_inr]
    refine T.bind (nGrounded_plain c.gv.gv (by omega)) ?_
    rintro ⟨G, rk⟩ ⟨hG, hGg⟩
    dsimp only at hG hGg ⊢
    refine T.bind (P := fun o => o = Sum.inr (stand lib C g C.length)) ?_ fun o ho => ?_
    · refine T.loopK C.length (fun k s => k ≤ C.length ∧ s = ((stand lib C g k).1, (stand lib C g k).2, (k : Int))) ⟨by omega, rfl⟩ ?_
      rintro k _ ⟨hk, rfl⟩
      dsimp only [law38_PrecedentStands_l2]
      rw [hcn]
      refine T.cond (fun g1 => ?_) fun g1 => ?_
      · have hk2 : k < C.length := by have := of_decide_eq_true g1; omega
        obtain ⟨e1, kc, hkc, e2⟩ := c.idx hk2
        have hwin : (caseAt lib C k).Winner = 1 ∨ (caseAt lib C k).Winner = 2 := by rw [e2]; exact (hL.ok kc hkc).win
        have hgk := (hGg k (by omega)).2.1
        rw [idx_sf (by omega), some_bind, iadd1 (by omega)]
        refine T.cond (fun c1 => ?_) fun c1 => ?_
        · have hn : ¬ Gr (att g) k := fun e => by rw [hgk.2 e] at c1; cases c1
          refine .letM (.ret ⟨hk2, hk2, ?_⟩)
          have : stand lib C g (k + 1) = stand lib C g k := by
            unfold stand
            rw [fst1_succ]
            cases fst1 g k with
            | some i => rfl
            | none => simp only; rw [if_neg hn]
          rw [this]
        · have hy : Gr (att g) k := hgk.1 (by simpa using c1)
          rw [idxM_nat hk2, some_bind, e1, some_bind]
          cases hfs : fst1 g k with
          | none =>
            have es : stand lib C g k = (0, -1) := by unfold stand; rw [hfs]
            have es2 : stand lib C g (k + 1) = ((caseAt lib C k).Winner, C[k]) := by
              unfold stand
              rw [fst1_succ, hfs]
              simp only
              rw [if_pos hy]
              simp [hk2]
            rw [es, es2, joinM_eq]
            simp only [show ((0 : Int) != 0) = false from rfl, cond_false, show ((0 : Int) == 0) = true from rfl, cond_true]
            rw [some_bind]
            exact .letM (.ret ⟨hk2, hk2, rfl⟩)
          | some i =>
            obtain ⟨hi, hgi⟩ := fst1_some hfs
            have es : stand lib C g k = ((caseAt lib C i).Winner, C.getD i 0) := by unfold stand; rw [hfs]
            have es2 : stand lib C g (k + 1) = stand lib C g k := by unfold stand; rw [fst1_succ, hfs]
            have hsame := c.same (a := k) (b := i) hk2 (by omega) hy hgi
            have hwi : (caseAt lib C i).Winner ≠ 0 := by omega
            rw [es2, es, joinM_eq]
            simp only
            rw [show ((caseAt lib C i).Winner != 0) = true by simpa using hwi, cond_true, show ((caseAt lib C k).Winner != (caseAt lib C i).Winner) = false by simpa using hsame, cond_false, show ((caseAt lib C i).Winner == 0) = false by simpa using hwi, cond_false]
            exact .letM (.ret ⟨hk2, hk2, rfl⟩)
      · have e : k = C.length := by have := of_decide_eq_false g1; omega
        subst e
        exact .ret rfl
    · subst ho
      rw [sumK_inr, beq_self_eq_true, cond_true, beq_self_eq_true, cond_true, awake_plain, some_bind]
      exact .ret rfl
end Go.Dc
