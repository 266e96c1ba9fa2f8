/- Part P22A.LawA of a proof: lemmas. -/
import Derived.Test.YtmbflfngkcmfeaaDoorLAW22AF
import Derived.Test.YtmbflfngkcmfeaaDoorP22AStr3
namespace Go.Dc
set_option maxRecDepth 100000 in
theorem awake_plain : law22_awake_m = some true := law22_awake_f_le (k_ := 100) _ (by decide +kernel)
end Go.Dc

set_option linter.unusedVariables false
set_option linter.unusedSimpArgs false
set_option linter.unusedSectionVars false
/-! The drawn graphs and fractions. -/
namespace Go.Dc

structure FrsOk (N : Nat) (q : List Fr) : Prop where
  l : q.length = N
  f : ∀ f ∈ q, ∃ n d : Nat, f = fq n d ∧ 0 < d ∧ n ≤ d ∧ d ≤ 6

theorem FrsOk.base {N : Nat} {l : List Fr} (h : FrsOk N l) : BaseOk N l ∧ l.any badB = false := by
  constructor
  · refine ⟨h.l, fun i hi => ?_⟩
    have hi' : i < l.length := by rw [h.l]; exact hi
    rw [show l.getD i z0 = l[i] by simp [List.getD, hi']]
    obtain ⟨n, d, e, h1, h2, h3⟩ := h.f _ (List.getElem_mem hi')
    exact ⟨n, d, e, h1, h2, by omega⟩
  · rw [List.any_eq_false]
    intro f hf
    obtain ⟨n, d, e, h1, h2, h3⟩ := h.f _ hf
    subst e
    unfold badB fq
    simp
    omega

theorem FrsOk.den {N : Nat} {l : List Fr} (h : FrsOk N l) : ∀ f ∈ l, f.Den < 9223372036854775808 := fun f hf => by
  obtain ⟨n, d, e, h1, h2, h3⟩ := h.f _ hf
  subst e; simp [fq]; omega

end Go.Dc

set_option linter.unusedVariables false
set_option linter.unusedSimpArgs false
set_option linter.unusedSectionVars false
/-! Graphs without some attacks; lists of indices that are compared. -/
namespace Go.Dc

/-- the attacks whose index is kept -/
def keepK (p : Nat → Bool) (l : List Pr) (k : Nat) : List Pr := ((List.range k).filter p).map fun i => l.getD i pr0
def keepR (p : Nat → Bool) (l : List Pr) : List Pr := keepK p l l.length

theorem keepK_succ {p : Nat → Bool} {l : List Pr} {k : Nat} : keepK p l (k + 1) = if p k = true then keepK p l k ++ [l.getD k pr0] else keepK p l k := by
  unfold keepK
  rw [List.range_succ, List.filter_append]
  by_cases h : p k = true
  · rw [if_pos h, List.filter_cons_of_pos h]; simp
  · rw [if_neg h, List.filter_cons_of_neg h]; simp
theorem keepK_len {p : Nat → Bool} {l : List Pr} {k : Nat} : (keepK p l k).length ≤ k := by
  unfold keepK
  rw [List.length_map]
  exact Nat.le_trans (List.length_filter_le _ _) (by simp)
theorem mem_keepR {p : Nat → Bool} {l : List Pr} {x : Pr} : x ∈ keepR p l ↔ ∃ i, ∃ h : i < l.length, p i = true ∧ l[i] = x := by
  unfold keepR keepK
  rw [List.mem_map]
  constructor
  · rintro ⟨i, hi, rfl⟩
    rw [List.mem_filter, List.mem_range] at hi
    exact ⟨i, hi.1, hi.2, by simp [List.getD, hi.1]⟩
  · rintro ⟨i, h1, h2, rfl⟩
    exact ⟨i, List.mem_filter.2 ⟨List.mem_range.2 h1, h2⟩, by simp [List.getD, h1]⟩
theorem keepR_sub {p : Nat → Bool} {l : List Pr} {x : Pr} (h : x ∈ keepR p l) : x ∈ l := by
  obtain ⟨i, h1, _, rfl⟩ := mem_keepR.1 h
  exact List.getElem_mem h1
theorem keepR_congr {p q : Nat → Bool} {l : List Pr} (h : ∀ i, i < l.length → p i = q i) : keepR p l = keepR q l := by
  unfold keepR keepK
  congr 1
  exact List.filter_congr fun i hi => h i (List.mem_range.1 hi)

/-- a loop that keeps the attacks -/
theorem keep_loop {l : List Pr} {p : Nat → Bool} {f : Int × List Pr → Option (Sum (List Pr) (Int × List Pr))} (hl : l.length ≤ 1000000)
    (hf : ∀ k, k < l.length → ∀ out : List Pr, out.length ≤ k → f ((k : Int), out) = some (.inr (((k + 1 : Nat) : Int), if p k = true then out ++ [l.getD k pr0] else out)))
    (he : ∀ out : List Pr, f ((l.length : Int), out) = some (.inl out)) : loopC f (0, []) = some (keepR p l) := by
  refine T.eq (T.loopK l.length (fun k s => k ≤ l.length ∧ s = ((k : Int), keepK p l k)) ⟨by omega, rfl⟩ ?_)
  rintro k _ ⟨hk, rfl⟩
  by_cases h : k < l.length
  · rw [hf k h _ keepK_len, ← keepK_succ]
    exact .ret ⟨h, by omega, rfl⟩
  · have e : k = l.length := by omega
    subst e
    rw [he]
    exact .ret rfl

def maskB (m : Nat) (i : Nat) : Bool := !m.testBit i

theorem and1 {a : Nat} : iand .i64 (a : Int) 1 = ((a % 2 : Nat) : Int) := by
  unfold iand
  rw [show (1 : Int) = ((1 : Nat) : Int) by rfl, BitVec.ofInt_natCast, BitVec.ofInt_natCast, BitVec.toNat_and]
  have h1 : (BitVec.ofNat (IntKind.bits .i64) a).toNat = a % 2 ^ 64 := by simp [IntKind.bits]
  have h2 : (BitVec.ofNat (IntKind.bits .i64) 1).toNat = 1 := by simp [IntKind.bits]
  rw [h1, h2, Nat.and_one_is_mod]
  have : a % 2 ^ 64 % 2 = a % 2 := by omega
  rw [this, wrap64 (by omega) (by omega)]

theorem ishr_n {a i : Nat} (hi : i ≤ 64) : ishr .i64 (a : Int) (i : Int) = ((a >>> i : Nat) : Int) := by
  rw [ishr_eq (by omega) (by omega), Int.toNat_natCast, Nat.shiftRight_eq_div_pow]
  simp

theorem bit_plain {m i : Nat} (hi : i ≤ 64) : ((iand .i64 (ishr .i64 (m : Int) (i : Int)) 1) == 1) = m.testBit i ∧ ((iand .i64 (ishr .i64 (m : Int) (i : Int)) 1) == 0) = !m.testBit i := by
  rw [ishr_n hi, and1]
  have : m.testBit i = decide ((m >>> i) % 2 = 1) := by
    rw [Nat.testBit_eq_decide_div_mod_eq, Nat.shiftRight_eq_div_pow]
  rw [this]
  rcases Nat.mod_two_eq_zero_or_one (m >>> i) with h | h <;> rw [h] <;> exact ⟨rfl, rfl⟩

theorem ishrM_n {a i : Nat} : ishrM .i64 (a : Int) (i : Int) = some (ishr .i64 (a : Int) (i : Int)) := by
  unfold ishrM; rw [if_neg (by omega)]

theorem without_plain {g : T_api_Graph} {m : Nat} (hl : g.L.length ≤ 60) : degree_without_m g (m : Int) = some ⟨g.N, keepR (maskB m) g.L⟩ := by
  unfold degree_without_m
  rw [keep_loop (l := g.L) (p := maskB m) (by omega) (fun k hk out ho => ?_) (fun out => ?_)]
  · rfl
  · unfold degree_without_l1 degree_Budget_1_m
    simp only
    rw [decide_eq_true (by omega), cond_true, idxM_nat hk, some_bind, ishrM_n, some_bind, letM_eq, (bit_plain (by omega)).2, some_bind, iadd1 (by omega), show g.L.getD k pr0 = g.L[k] by simp [List.getD, hk]]
    unfold maskB
    cases m.testBit k with
    | true => simp
    | false => simp; rw [appM_eq (by simp; omega)]; rfl
  · unfold degree_without_l1
    simp only
    rw [decide_eq_false (by omega), cond_false]

def geB (w : List Int) (t : Int) (i : Nat) : Bool := decide (w.getD i 0 ≥ t)

theorem without1_plain {g : T_api_Graph} {w : List Int} {t : Int} (hl : g.L.length ≤ 1000000) (hw : w.length = g.L.length) : degree_without_1_m g w t = some ⟨g.N, keepR (geB w t) g.L⟩ := by
  unfold degree_without_1_m
  rw [keep_loop (l := g.L) (p := geB w t) (by omega) (fun k hk out ho => ?_) (fun out => ?_)]
  · rfl
  · unfold degree_without_1_l1 degree_Levels_1_m
    simp only
    have hk2 : k < w.length := by omega
    rw [decide_eq_true (by omega), cond_true, idxM_nat hk, some_bind, idxM_nat hk2, some_bind, some_bind, iadd1 (by omega), show g.L.getD k pr0 = g.L[k] by simp [List.getD, hk]]
    unfold geB
    rw [show w.getD k 0 = w[k] by simp [List.getD, hk2]]
    cases decide (w[k] ≥ t) with
    | false => simp
    | true => simp; rw [appM_eq (by simp; omega)]; rfl
  · unfold degree_without_1_l1
    simp only
    rw [decide_eq_false (by omega), cond_false]

theorem without2_plain {g : T_api_Graph} {w : List Int} {t : Int} (hl : g.L.length ≤ 1000000) (hw : w.length = g.L.length) : degree_without_2_m g w t = some ⟨g.N, keepR (geB w t) g.L⟩ := by
  unfold degree_without_2_m
  rw [keep_loop (l := g.L) (p := geB w t) (by omega) (fun k hk out ho => ?_) (fun out => ?_)]
  · rfl
  · unfold degree_without_2_l1 degree_Cut_1_m
    simp only
    have hk2 : k < w.length := by omega
    rw [decide_eq_true (by omega), cond_true, idxM_nat hk, some_bind, idxM_nat hk2, some_bind, some_bind, iadd1 (by omega), show g.L.getD k pr0 = g.L[k] by simp [List.getD, hk]]
    unfold geB
    rw [show w.getD k 0 = w[k] by simp [List.getD, hk2]]
    cases decide (w[k] ≥ t) with
    | false => simp
    | true => simp; rw [appM_eq (by simp; omega)]; rfl
  · unfold degree_without_2_l1
    simp only
    rw [decide_eq_false (by omega), cond_false]

def goneB (gone : List Int) (i : Nat) : Bool := !decide ((i : Int) ∈ gone)

theorem drop_plain {g : T_api_Graph} {gone : List Int} (hl : g.L.length ≤ 1000000) (hg : gone.length ≤ 1000000) : ref22_drop_m g gone = some ⟨g.N, keepR (goneB gone) g.L⟩ := by
  unfold ref22_drop_m
  rw [keep_loop (l := g.L) (p := goneB gone) (by omega) (fun k hk out ho => ?_) (fun out => ?_)]
  · rfl
  · unfold ref22_drop_l1
    simp only
    rw [decide_eq_true (by omega), cond_true, nIn_plain hg, some_bind, idxM_nat hk, some_bind, show g.L.getD k pr0 = g.L[k] by simp [List.getD, hk]]
    simp only [letM_eq]
    rw [iadd1 (by omega)]
    unfold goneB
    cases decide ((k : Int) ∈ gone) with
    | true => simp
    | false => simp; rw [appM_eq (by simp; omega)]; rfl
  · unfold ref22_drop_l1
    simp only
    rw [decide_eq_false (by omega), cond_false]

/-! ### the order of lists -/
def lexB : List Int → List Int → Bool
  | [], [] => false
  | [], _ :: _ => true
  | _ :: _, [] => false
  | a :: x, b :: y => if a < b then true else if b < a then false else lexB x y

theorem lexB_cons {a b : Int} {x y : List Int} : lexB (a :: x) (b :: y) = if a < b then true else if b < a then false else lexB x y := rfl

theorem compare_plain {a b : List Int} (ha : a.length ≤ 1000000) (hb : b.length ≤ 1000000) : T (slices_Compare_int_int_m a b) fun r => decide (r ≥ 0) = !lexB a b := by
  unfold slices_Compare_int_int_m
  refine T.bind (P := fun o : Sum Int Unit => match o with | .inl r => decide (r ≥ 0) = !lexB a b | .inr _ => a.length ≤ b.length ∧ lexB a b = decide (a.length < b.length)) ?_ fun o ho => ?_
  · refine T.loopK a.length (fun k s => k ≤ a.length ∧ k ≤ b.length ∧ s = (k : Int) ∧ lexB a b = lexB (a.drop k) (b.drop k)) ⟨by omega, by omega, rfl, rfl⟩ ?_
    rintro k _ ⟨hk, hkb, rfl, hx⟩
    dsimp only [slices_Compare_int_int_l1]
    refine T.cond (fun g1 => ?_) fun g1 => ?_
    · have hk1 : k < a.length := by have := of_decide_eq_true g1; omega
      rw [idxM_nat hk1, some_bind]
      rw [List.drop_eq_getElem_cons hk1] at hx
      refine T.cond (fun g2 => ?_) fun g2 => ?_
      · have hb2 : b.length ≤ k := by have := of_decide_eq_true g2; omega
        rw [List.drop_eq_nil_of_le hb2] at hx
        refine .ret ?_
        show decide ((1 : Int) ≥ 0) = !lexB a b
        rw [hx]; rfl
      · have hb2 : k < b.length := by have := of_decide_eq_false g2; omega
        rw [List.drop_eq_getElem_cons hb2] at hx
        rw [idxM_nat hb2, some_bind, cmp_plain, some_bind]
        rw [lexB_cons] at hx
        by_cases h1 : a[k] < b[k]
        · rw [if_pos h1] at hx
          rw [if_pos h1]
          refine .ret ?_
          show decide ((-1 : Int) ≥ 0) = !lexB a b
          rw [hx]; rfl
        · rw [if_neg h1] at hx
          rw [if_neg h1]
          by_cases h2 : b[k] < a[k]
          · rw [if_pos h2] at hx
            rw [if_pos h2]
            refine .ret ?_
            show decide ((1 : Int) ≥ 0) = !lexB a b
            rw [hx]; rfl
          · rw [if_neg h2] at hx
            rw [if_neg h2, iadd1 (by omega)]
            exact .ret ⟨hk1, by omega, by omega, rfl, hx⟩
    · have e : k = a.length := by have := of_decide_eq_false g1; omega
      subst e
      refine .ret ⟨hkb, ?_⟩
      rw [List.drop_length] at hx
      rw [hx]
      by_cases h1 : a.length < b.length
      · rw [List.drop_eq_getElem_cons h1, decide_eq_true h1]; rfl
      · rw [List.drop_eq_nil_of_le (by omega), decide_eq_false h1]; rfl
  · cases o with
    | inl r => exact .ret ho
    | inr u =>
      rw [sumK_inr]
      obtain ⟨h1, h2⟩ := ho
      refine T.cond (fun g => .ret ?_) fun g => .ret ?_
      · rw [h2, decide_eq_true (p := a.length < b.length) (by have := of_decide_eq_true g; omega)]; rfl
      · rw [h2, decide_eq_false (p := a.length < b.length) (by have := of_decide_eq_false g; omega)]; rfl

theorem before_plain {a b : List Int} (ha : a.length ≤ 1000000) (hb : b.length ≤ 1000000) : ref22_Before_m a b = some (lexB a b) := by
  unfold ref22_Before_m
  refine T.eq (T.bind (P := fun o : Sum Bool Unit => match o with | .inl r => r = lexB a b | .inr _ => lexB a b = decide (a.length < b.length)) ?_ fun o ho => ?_)
  · refine T.loopK a.length (fun k s => k ≤ a.length ∧ k ≤ b.length ∧ s = (k : Int) ∧ lexB a b = lexB (a.drop k) (b.drop k)) ⟨by omega, by omega, rfl, rfl⟩ ?_
    rintro k _ ⟨hk, hkb, rfl, hx⟩
    dsimp only [ref22_Before_l1]
    refine T.cond (fun g1 => ?_) fun g1 => ?_
    · have hk1 : k < a.length := by have := of_decide_eq_true g1; omega
      rw [List.drop_eq_getElem_cons hk1] at hx
      refine T.cond (fun g2 => ?_) fun g2 => ?_
      · have hb2 : k < b.length := by have := of_decide_eq_true g2; omega
        rw [List.drop_eq_getElem_cons hb2] at hx
        rw [lexB_cons] at hx
        rw [idxM_nat hk1, some_bind, idxM_nat hb2, some_bind, some_bind, some_bind]
        refine T.cond (fun g3 => ?_) fun g3 => ?_
        · have h3 : ¬ a[k] = b[k] := by simpa using g3
          refine .ret ?_
          show decide (a[k] < b[k]) = lexB a b
          rw [hx]
          by_cases h1 : a[k] < b[k]
          · rw [if_pos h1, decide_eq_true h1]
          · rw [if_neg h1, if_pos (by omega), decide_eq_false h1]
        · have h3 : a[k] = b[k] := by simpa using g3
          rw [if_neg (by omega), if_neg (by omega)] at hx
          rw [iadd1 (by omega)]
          exact .ret ⟨hk1, by omega, by omega, rfl, hx⟩
      · have hb2 : b.length ≤ k := by have := of_decide_eq_false g2; omega
        rw [List.drop_eq_nil_of_le hb2] at hx
        refine .ret ?_
        show lexB a b = _
        rw [hx, decide_eq_false (by omega)]; rfl
    · have e : k = a.length := by have := of_decide_eq_false g1; omega
      subst e
      refine .ret ?_
      rw [List.drop_length] at hx
      show lexB a b = _
      rw [hx]
      by_cases h1 : a.length < b.length
      · rw [List.drop_eq_getElem_cons h1, decide_eq_true h1]; rfl
      · rw [List.drop_eq_nil_of_le (by omega), decide_eq_false h1]; rfl
  · cases o with
    | inl r => exact .ret ho
    | inr u =>
      rw [sumK_inr, letM_eq]
      refine .ret ?_
      rw [show lexB a b = decide (a.length < b.length) from ho, decide_eq_decide]; omega
end Go.Dc

set_option linter.unusedVariables false
set_option linter.unusedSimpArgs false
set_option linter.unusedSectionVars false
/-! Budget, in the program and in the reference. -/
namespace Go.Dc

theorem net_chain {N : Nat} {l : List Pr} (hN : N ≤ 40) (hv : ∀ p ∈ l, 0 ≤ p.From ∧ p.From < N ∧ 0 ≤ p.To ∧ p.To < N) (hl : l.length ≤ 10000) {node : Nat} (hnode : node < N) :
    T (network_New_m ⟨(N : Int), l⟩) fun t => ∃ i o : Int, ∃ b c : Bool, network_Net_In_m t = some i ∧ network_Set_Has_m i (node : Int) = some b ∧ (b = true ↔ Gr (att ⟨(N : Int), l⟩) node) ∧
      network_Net_Hit_m t i = some o ∧ network_Set_Has_m o (node : Int) = some c ∧ (c = true ↔ ∃ a : Nat, att ⟨(N : Int), l⟩ a node ∧ Gr (att ⟨(N : Int), l⟩) a) := by
  refine (New_plain2 hN hv (by omega)).mono ?_
  rintro _ ⟨n, rfl, hok, hall, hat⟩
  obtain ⟨h1, h2⟩ := In_plain2 hok
  have hs : SubB (grd n) n.all := h2.sub
  have hsim : Sim N n ⟨(N : Int), l⟩ := ⟨hok, hN, rfl, by simp only; omega, fun p hp => hv p hp, fun i j => hat i j⟩
  have hgr : ∀ {i : Nat}, i < N → (Gr (att ⟨(N : Int), l⟩) (i : Int) ↔ (grd n).testBit i = true) := fun hi => gr_iff hsim ((hall _).2 hi)
  refine ⟨_, _, _, _, h1, Has_plain (hok.sub hs) (by omega), (hgr hnode).symm, Hit_plain hok hs, Has_plain (hok.sub (hit_sub hok hs)) (by omega), ?_⟩
  rw [hit_bit hok hs]
  constructor
  · rintro ⟨i, h3, h4⟩
    have hi := hok.al i (hok.ab _ _ h4).1
    exact ⟨i, (hsim.at_ i node).1 h4, (hgr hi).2 h3⟩
  · rintro ⟨i, h3, h4⟩
    have hi := hok.al i (hok.ab _ _ ((hsim.at_ i node).2 h3)).1
    exact ⟨i, (hgr hi).1 h4, (hsim.at_ i node).2 h3⟩

theorem Frees_plain {N : Nat} {g : T_api_Graph} {gone : List Int} (hg : GVal g) (hn : g.N = (N : Int)) (hl : g.L.length ≤ 10000) (hgl : gone.length ≤ 1000000) {node : Nat} (hnode : node < N) :
    T (ref22_Frees_m g gone (node : Int)) fun b => (b = true ↔ Gr (att ⟨(N : Int), keepR (goneB gone) g.L⟩) node) := by
  have h40 := hg.n1
  unfold ref22_Frees_m
  rw [drop_plain (by omega) hgl, some_bind, hn]
  have hlen : (keepR (goneB gone) g.L).length ≤ g.L.length := keepK_len
  refine T.bind (nGrounded_plain (g := ⟨(N : Int), keepR (goneB gone) g.L⟩) ⟨by simp only; omega, by simp only; omega, fun p hp => by have := hg.v p (keepR_sub hp); rw [hn] at this; exact this⟩ (by simp only; omega)) ?_
  rintro ⟨r, q⟩ ⟨h1, h2⟩
  simp only at *
  rw [idx_sf (by simp at h1; omega), some_bind]
  refine .ret ?_
  rw [← (h2 node (by omega)).2.1]
  simp

/-! ### weights -/
def wsum (w : List Int) (l : List Nat) : Int := (l.map fun i => w.getD i 0).sum
theorem wsum_snoc {w : List Int} {l : List Nat} {b : Nat} : wsum w (l ++ [b]) = wsum w l + w.getD b 0 := by
  unfold wsum; simp

structure WtOk (L : Nat) (w : List Int) : Prop where
  l : w.length = L
  v : ∀ x ∈ w, 0 ≤ x ∧ x ≤ 1000

theorem WtOk.at {L : Nat} {w : List Int} (h : WtOk L w) (i : Nat) : 0 ≤ w.getD i 0 ∧ w.getD i 0 ≤ 1000 := by
  by_cases hi : i < w.length
  · rw [show w.getD i 0 = w[i] by simp [List.getD, hi]]; exact h.v _ (List.getElem_mem hi)
  · rw [show w.getD i 0 = 0 by simp [List.getD, hi]]; omega
theorem wsum_bound {L : Nat} {w : List Int} (h : WtOk L w) : ∀ l : List Nat, 0 ≤ wsum w l ∧ wsum w l ≤ 1000 * l.length
  | [] => by simp [wsum]
  | x :: l => by
    have := wsum_bound h l
    have h2 := h.at x
    have : wsum w (x :: l) = w.getD x 0 + wsum w l := by unfold wsum; simp
    rw [this]; simp only [List.length_cons]; omega

/-- the indices of a mask -/
theorem bitsL_range {L m : Nat} (hm : m < 2 ^ L) (hL : L ≤ 60) : bitsL m = (List.range L).filter m.testBit := by
  have h64 : m < 2 ^ 64 := lt64 hm (by omega)
  refine asc_ext (bitsL_asc _) (range_asc L _) fun x => ?_
  rw [mem_bitsL h64, List.mem_filter, List.mem_range]
  exact ⟨fun h => ⟨bits_lt hm h, h⟩, fun h => h.2⟩

def skipB (w : List Int) (best : Option (Int × List Int)) (m : Nat) : Bool :=
  match best with
  | none => false
  | some b => decide (wsum w (bitsL m) > b.1) || (decide (wsum w (bitsL m) = b.1) && !lexB (il (bitsL m)) b.2)
def stepB (w : List Int) (fr : Nat → Bool) (best : Option (Int × List Int)) (m : Nat) : Option (Int × List Int) :=
  if skipB w best m = true then best else if fr m = true then some (wsum w (bitsL m), il (bitsL m)) else best
def bestK (w : List Int) (fr : Nat → Bool) (k : Nat) : Option (Int × List Int) := (List.range k).foldl (stepB w fr) none
theorem bestK_succ {w : List Int} {fr : Nat → Bool} {k : Nat} : bestK w fr (k + 1) = stepB w fr (bestK w fr k) k := by
  unfold bestK; rw [List.range_succ, List.foldl_append]; rfl

/-- what is found -/
theorem bestK_ok {w : List Int} {fr : Nat → Bool} : ∀ k, (∀ b, bestK w fr k = some b → ∃ m, m < k ∧ fr m = true ∧ b = (wsum w (bitsL m), il (bitsL m))) ∧ ∀ m, m < k → fr m = true → ∃ b, bestK w fr k = some b ∧ b.1 ≤ wsum w (bitsL m)
  | 0 => ⟨fun b hb => by simp [bestK] at hb, fun m hm => absurd hm (Nat.not_lt_zero m)⟩
  | k + 1 => by
    obtain ⟨h1, h2⟩ := bestK_ok (w := w) (fr := fr) k
    rw [bestK_succ]
    unfold stepB
    by_cases hs : skipB w (bestK w fr k) k = true
    · rw [if_pos hs]
      refine ⟨fun b hb => ?_, fun m hm hf => ?_⟩
      · obtain ⟨m, h3, h4, h5⟩ := h1 b hb
        exact ⟨m, by omega, h4, h5⟩
      · by_cases e : m = k
        · subst e
          cases hb : bestK w fr m with
          | none => rw [hb] at hs; cases hs
          | some b =>
            rw [hb] at hs
            unfold skipB at hs
            simp only [Bool.or_eq_true, Bool.and_eq_true, decide_eq_true_iff] at hs
            exact ⟨b, rfl, by omega⟩
        · exact h2 m (by omega) hf
    · rw [if_neg hs]
      by_cases hf : fr k = true
      · rw [if_pos hf]
        refine ⟨fun b hb => ⟨k, by omega, hf, by cases hb; rfl⟩, fun m hm hfm => ⟨_, rfl, ?_⟩⟩
        by_cases e : m = k
        · subst e; exact Int.le_refl _
        · obtain ⟨b, hb, hle⟩ := h2 m (by omega) hfm
          rw [hb] at hs
          unfold skipB at hs
          simp only [Bool.or_eq_true, Bool.and_eq_true, decide_eq_true_iff, not_or, not_and] at hs
          simp only
          omega
      · rw [if_neg hf]
        refine ⟨fun b hb => ?_, fun m hm hfm => ?_⟩
        · obtain ⟨m, h3, h4, h5⟩ := h1 b hb
          exact ⟨m, by omega, h4, h5⟩
        · by_cases e : m = k
          · subst e; exact absurd hfm hf
          · exact h2 m (by omega) hfm

open Classical in
/-- does the mask free the node? -/
noncomputable def freeB (N : Nat) (g : T_api_Graph) (node m : Nat) : Bool := decide (Gr (att ⟨(N : Int), keepR (maskB m) g.L⟩) (node : Int))

open Classical in
theorem freeB_iff {N : Nat} {g : T_api_Graph} {node m : Nat} : freeB N g node m = true ↔ Gr (att ⟨(N : Int), keepR (maskB m) g.L⟩) (node : Int) := by unfold freeB; exact decide_eq_true_iff

theorem free_all {N : Nat} {g : T_api_Graph} {node : Nat} : freeB N g node (2 ^ g.L.length - 1) = true := by
  rw [freeB_iff]
  refine ⟨1, fun b ⟨p, hp, _⟩ => ?_⟩
  obtain ⟨i, h1, h2, _⟩ := mem_keepR.1 hp
  unfold maskB at h2
  rw [Nat.testBit_two_pow_sub_one, decide_eq_true h1] at h2
  cases h2

theorem maskB_gone {m L : Nat} {l : List Pr} (hm : m < 2 ^ L) (hL : L ≤ 60) : keepR (goneB (il (bitsL m))) l = keepR (maskB m) l := by
  refine keepR_congr fun i _ => ?_
  unfold goneB maskB
  congr 1
  rw [Bool.eq_iff_iff, decide_eq_true_iff, il_mem, ← mem_bitsL (lt64 hm (by omega))]
  exact ⟨fun ⟨n, hn, e⟩ => by have : i = n := by omega
                              rw [this]; exact hn, fun h => ⟨i, h, rfl⟩⟩

section
variable {N : Nat} {g : T_api_Graph} {w : List Int} {node : Nat} (hg : GVal g) (hn : g.N = (N : Int)) (hl : g.L.length ≤ 12) (hw : WtOk g.L.length w) (hnode : node < N)
include hg hn hl hw hnode

theorem prog_l2b {m : Nat} {x : Option T_api_Budget} (hm : m < 2 ^ g.L.length) : loopC (degree_Budget_l2 w (x, (m : Int))) (0, 0, []) = some (wsum w (bitsL m), il (bitsL m)) := by
  have hL := hw.l
  rw [bitsL_range hm (by omega)]
  refine T.eq (T.loopK w.length (fun k s => k ≤ w.length ∧ s = ((k : Int), wsum w ((List.range k).filter m.testBit), il ((List.range k).filter m.testBit))) ⟨by omega, rfl⟩ ?_)
  rintro k _ ⟨hk, rfl⟩
  dsimp only [degree_Budget_l2]
  have hsucc : (List.range (k + 1)).filter m.testBit = if m.testBit k = true then (List.range k).filter m.testBit ++ [k] else (List.range k).filter m.testBit := by
    rw [List.range_succ, List.filter_append]
    by_cases h : m.testBit k = true
    · rw [if_pos h, List.filter_cons_of_pos h]; rfl
    · rw [if_neg h, List.filter_cons_of_neg h]; simp
  refine T.cond (fun g1 => ?_) fun g1 => ?_
  · have hk1 : k < w.length := by have := of_decide_eq_true g1; omega
    have hfl : ((List.range k).filter m.testBit).length ≤ k := Nat.le_trans (List.length_filter_le _ _) (by simp)
    have hb := wsum_bound hw ((List.range k).filter m.testBit)
    have hwk := hw.v _ (List.getElem_mem hk1)
    rw [idxM_nat hk1, some_bind, ishrM_n, some_bind, (bit_plain (by omega)).1]
    refine T.cond (fun g2 => ?_) fun g2 => ?_
    · rw [if_pos g2] at hsucc
      rw [appM_eq (by simp; omega), some_bind, iadd1 (by omega), iadd64 (by omega) (by omega)]
      refine .ret ⟨hk1, by omega, ?_⟩
      rw [hsucc, wsum_snoc, show w.getD k 0 = w[k] by simp [List.getD, hk1]]; simp
    · rw [if_neg (by rw [g2]; simp)] at hsucc
      rw [iadd1 (by omega)]
      exact .ret ⟨hk1, by omega, by rw [hsucc]⟩
  · have e : k = w.length := by have := of_decide_eq_false g1; omega
    subst e
    exact .ret (by rw [hL])

def toBud (b : Option (Int × List Int)) : Option T_api_Budget := b.map fun x => T_api_Budget.mk x.1 x.2

theorem bits_len {m : Nat} : (il (bitsL m)).length ≤ 64 := by simp; exact bitsL_len

theorem best_len {k : Nat} {b : Int × List Int} (h : bestK w (freeB N g node) k = some b) : b.2.length ≤ 64 := by
  obtain ⟨m, _, _, rfl⟩ := (bestK_ok k).1 b h
  exact bits_len hg hn hl hw hnode

theorem prog_l1b : loopC (degree_Budget_l1 g w (node : Int) ((2 ^ g.L.length : Nat) : Int)) (none, 0) = some (toBud (bestK w (freeB N g node) (2 ^ g.L.length))) := by
  have hN : N ≤ 40 := by have := hg.n1; omega
  have hp12 : 2 ^ g.L.length ≤ 4096 := Nat.pow_le_pow_right (by decide) hl
  refine T.eq (T.loopK (2 ^ g.L.length) (fun k s => k ≤ 2 ^ g.L.length ∧ s = (toBud (bestK w (freeB N g node) k), (k : Int))) ⟨Nat.zero_le _, rfl⟩ ?_)
  rintro k _ ⟨hk, rfl⟩
  dsimp only [degree_Budget_l1]
  refine T.cond (fun g1 => ?_) fun g1 => ?_
  · have hk1 : k < 2 ^ g.L.length := by have := of_decide_eq_true g1; omega
    rw [prog_l2b hg hn hl hw hnode hk1, some_bind]
    simp only
    refine T.joinP (fun _ : Unit => skipB w (bestK w (freeB N g node) k) k = false) (fun u hu => ?_) fun kk hkk => ?_
    · rw [without_plain (by omega), some_bind, hn]
      have hlen : (keepR (maskB k) g.L).length ≤ g.L.length := keepK_len
      refine T.bind (net_chain hN (fun p hp => by have := hg.v p (keepR_sub hp); rw [hn] at this; exact this) (by omega) hnode) ?_
      rintro t ⟨i, o, b, c, h1, h2, h3, _⟩
      rw [h1, some_bind, h2, some_bind, iadd1 (by omega)]
      have hfb : freeB N g node k = b := by
        rw [Bool.eq_iff_iff, h3, freeB_iff]
      refine T.cond (fun g2 => .ret ⟨hk1, by omega, ?_⟩) fun g2 => .ret ⟨hk1, by omega, ?_⟩
      · rw [bestK_succ]; unfold stepB; rw [if_neg (by rw [hu]; simp), if_pos (by rw [hfb]; exact g2)]; rfl
      · rw [bestK_succ]; unfold stepB; rw [if_neg (by rw [hu]; simp), if_neg (by rw [hfb, g2]; simp)]
    · have skip : skipB w (bestK w (freeB N g node) k) k = true → T (some (Sum.inr (toBud (bestK w (freeB N g node) k), iadd .i64 (k : Int) 1)) : Option (Sum (Option T_api_Budget) (Option T_api_Budget × Int))) (onO (fun x => x = toBud (bestK w (freeB N g node) (2 ^ g.L.length))) fun s' => k < 2 ^ g.L.length ∧ k + 1 ≤ 2 ^ g.L.length ∧ s' = (toBud (bestK w (freeB N g node) (k + 1)), ((k + 1 : Nat) : Int))) := fun hs => by
        rw [iadd1 (by omega)]
        refine .ret ⟨hk1, by omega, ?_⟩
        rw [bestK_succ]; unfold stepB; rw [if_pos hs]
      cases hb : bestK w (freeB N g node) k with
      | none =>
        rw [hb] at hkk
        exact hkk () rfl
      | some b =>
        have hbl := best_len hg hn hl hw hnode hb
        rw [hb] at hkk skip
        show T (bif true then _ else _) _
        rw [cond_true, show toBud (some b) = some (T_api_Budget.mk b.1 b.2) from rfl, some_bind]
        have hsk : skipB w (some b) k = (decide (wsum w (bitsL k) > b.1) || (decide (wsum w (bitsL k) = b.1) && !lexB (il (bitsL k)) b.2)) := rfl
        refine T.cond (fun g2 => skip (by rw [hsk, show decide (wsum w (bitsL k) > b.1) = true from g2]; rfl)) fun g2 => ?_
        have h2 : decide (wsum w (bitsL k) > b.1) = false := g2
        rw [some_bind]
        refine T.cond (fun g3 => ?_) fun g3 => ?_
        · have h3 : wsum w (bitsL k) = b.1 := by simpa using g3
          rw [some_bind]
          refine T.bind (compare_plain (a := il (bitsL k)) (b := b.2) (by have := bits_len hg hn hl hw hnode (m := k); omega) (by omega)) fun r hr => ?_
          refine T.cond (fun g4 => skip (by rw [hsk, h2, decide_eq_true h3, ← hr, show decide (r ≥ 0) = true from g4]; rfl)) fun g4 => hkk () (by rw [hsk, h2, decide_eq_true h3, ← hr, show decide (r ≥ 0) = false from g4]; rfl)
        · have h3 : ¬ wsum w (bitsL k) = b.1 := by simpa using g3
          exact hkk () (by rw [hsk, h2, decide_eq_false h3]; rfl)
  · have e : k = 2 ^ g.L.length := by have := of_decide_eq_false g1; omega
    subst e
    exact .ret rfl

theorem ref_l2b {m : Nat} (hm : m < 2 ^ g.L.length) : loopC (ref22_Budget_l2 w (il (bitsL m))) (0, 0) = some (wsum w (bitsL m)) := by
  have hL := hw.l
  have hbl := bitsL_len (s := m)
  refine T.eq (T.loopK (bitsL m).length (fun k s => k ≤ (bitsL m).length ∧ s = (wsum w ((bitsL m).take k), (k : Int))) ⟨by omega, rfl⟩ ?_)
  rintro k _ ⟨hk, rfl⟩
  dsimp only [ref22_Budget_l2]
  refine T.cond (fun g1 => ?_) fun g1 => ?_
  · have hk1 : k < (bitsL m).length := by simpa using g1
    have hb := wsum_bound hw ((bitsL m).take k)
    rw [List.length_take] at hb
    have hx : (bitsL m)[k] < g.L.length := by
      have := (mem_bitsL (lt64 hm (by omega))).1 (List.getElem_mem hk1)
      exact bits_lt hm this
    have htk : (bitsL m).take (k + 1) = (bitsL m).take k ++ [(bitsL m)[k]] := by rw [List.take_add_one, List.getElem?_eq_getElem hk1]; rfl
    have hwk := hw.at (bitsL m)[k]
    rw [il_idx hk1, some_bind, show (bitsL m).getD k 0 = (bitsL m)[k] by simp [List.getD, hk1], idxM_getD (z := 0) (by omega), some_bind, letM_eq, letM_eq, iadd1 (by omega), iadd64 (by omega) (by omega)]
    exact .ret ⟨hk1, by omega, by rw [htk, wsum_snoc]⟩
  · have e : k = (bitsL m).length := by have := of_decide_eq_false g1; simp at this; omega
    subst e
    exact .ret (by rw [List.take_length])

theorem ref_l1b : loopC (ref22_Budget_l1 g w (node : Int)) (false, 0, 0, []) = some (match bestK w (freeB N g node) (2 ^ g.L.length) with | some b => b | none => (0, [])) := by
  have hN : N ≤ 40 := by have := hg.n1; omega
  have hp12 : 2 ^ g.L.length ≤ 4096 := Nat.pow_le_pow_right (by decide) hl
  refine T.eq (T.loopK (2 ^ g.L.length) (fun k s => k ≤ 2 ^ g.L.length ∧ s = ((bestK w (freeB N g node) k).isSome, (k : Int), match bestK w (freeB N g node) k with | some b => b | none => (0, []))) ⟨Nat.zero_le _, rfl⟩ ?_)
  rintro k _ ⟨hk, rfl⟩
  dsimp only [ref22_Budget_l1]
  have hsh : ishlM .u64 1 (IntKind.wrap .u64 (g.L.length : Int)) = some ((2 ^ g.L.length : Nat) : Int) := by
    rw [wrapU (by omega)]
    unfold ishlM
    rw [if_neg (by omega), ishl_u (by omega)]
  have hu1 : iadd .u64 (k : Int) 1 = ((k + 1 : Nat) : Int) := iadd_u (b := 1) (by omega)
  rw [hsh, some_bind]
  refine T.cond (fun g1 => ?_) fun g1 => ?_
  · have hk1 : k < 2 ^ g.L.length := by have := of_decide_eq_true g1; omega
    have hbl := bitsL_len (s := k)
    rw [Members_plain (by omega), some_bind, ref_l2b hg hn hl hw hnode hk1, some_bind]
    refine T.joinP (fun _ : Unit => skipB w (bestK w (freeB N g node) k) k = false) (fun u hu => ?_) fun kk hkk => ?_
    · refine T.bind (Frees_plain hg hn (by omega) (by simp; omega) hnode (gone := il (bitsL k))) fun b hb => ?_
      rw [maskB_gone hk1 (by omega)] at hb
      have hfb : freeB N g node k = b := by
        rw [Bool.eq_iff_iff, hb, freeB_iff]
      refine T.cond (fun g2 => ?_) fun g2 => ?_
      · rw [letM_eq, hu1]
        refine .ret ⟨hk1, by omega, ?_⟩
        rw [bestK_succ]; unfold stepB; rw [if_neg (by rw [hu]; simp), if_pos (by rw [hfb]; exact g2)]; rfl
      · rw [letM_eq, hu1]
        refine .ret ⟨hk1, by omega, ?_⟩
        rw [bestK_succ]; unfold stepB; rw [if_neg (by rw [hu]; simp), if_neg (by rw [hfb, g2]; simp)]
    · have skip : ∀ b, bestK w (freeB N g node) k = some b → skipB w (some b) k = true → T (letM (iadd .u64 (k : Int) 1) fun i => (some (Sum.inr (true, i, b.1, b.2)) : Option (Sum (Int × List Int) (Bool × Int × Int × List Int)))) (onO (fun x => x = match bestK w (freeB N g node) (2 ^ g.L.length) with | some b => b | none => (0, [])) fun s' => k < 2 ^ g.L.length ∧ k + 1 ≤ 2 ^ g.L.length ∧ s' = ((bestK w (freeB N g node) (k + 1)).isSome, ((k + 1 : Nat) : Int), match bestK w (freeB N g node) (k + 1) with | some b => b | none => (0, []))) := fun b hb hs => by
        rw [letM_eq, hu1]
        refine .ret ⟨hk1, by omega, ?_⟩
        rw [bestK_succ, hb]; unfold stepB; rw [if_pos hs]; rfl
      cases hb : bestK w (freeB N g node) k with
      | none =>
        rw [hb] at hkk
        exact hkk () rfl
      | some b =>
        have hblen := best_len hg hn hl hw hnode hb
        rw [hb] at hkk
        have skip := skip b hb
        show T (bif true then _ else _) _
        rw [cond_true]
        have hsk : skipB w (some b) k = (decide (wsum w (bitsL k) > b.1) || (decide (wsum w (bitsL k) = b.1) && !lexB (il (bitsL k)) b.2)) := rfl
        refine T.cond (fun g2 => skip (by rw [hsk, show decide (wsum w (bitsL k) > b.1) = true from g2]; rfl)) fun g2 => ?_
        have h2 : decide (wsum w (bitsL k) > b.1) = false := g2
        refine T.cond (fun g3 => ?_) fun g3 => ?_
        · have h3 : wsum w (bitsL k) = b.1 := by simpa using g3
          refine T.bind (P := fun r => r = lexB (il (bitsL k)) b.2) ⟨_, before_plain (b := b.2) (by simp; omega) (by omega), rfl⟩ ?_
          rintro _ rfl
          refine T.cond (fun g4 => skip (by rw [hsk, h2, decide_eq_true h3, g4]; rfl)) fun g4 => hkk () (by rw [hsk, h2, decide_eq_true h3, g4]; rfl)
        · have h3 : ¬ wsum w (bitsL k) = b.1 := by simpa using g3
          exact hkk () (by rw [hsk, h2, decide_eq_false h3]; rfl)
  · have e : k = 2 ^ g.L.length := by have := of_decide_eq_false g1; omega
    subst e
    exact .ret rfl
end
end Go.Dc

set_option linter.unusedVariables false
set_option linter.unusedSimpArgs false
set_option linter.unusedSectionVars false
namespace Go.Dc

def badW (x : Int) : Bool := decide (x < 0) || decide (x > 1000)
theorem badW_plain {x : Int} : degree_weighs_1_m x = some (badW x) := by
  unfold degree_weighs_1_m badW
  cases decide (x < 0) <;> cases decide (x > 1000) <;> rfl

theorem containsW_plain {w : List Int} (hl : w.length ≤ 1000000) : slices_ContainsFunc_int_int_m w = some (w.any badW) := by
  unfold slices_ContainsFunc_int_int_m slices_IndexFunc_int_int_m
  refine T.eq (T.bind (P := fun r : Int => decide (r ≥ 0) = w.any badW) ?_ fun r hr => by rw [letM_eq]; exact .ret hr)
  refine T.bind (P := fun o : Sum Int Unit => match o with | .inl r => 0 ≤ r ∧ w.any badW = true | .inr _ => w.any badW = false) ?_ fun o ho => ?_
  · refine T.loopK w.length (fun k s => k ≤ w.length ∧ s = (k : Int) ∧ (w.take k).any badW = false) ⟨by omega, rfl, by simp⟩ ?_
    rintro k _ ⟨hk, rfl, hf⟩
    dsimp only [slices_IndexFunc_int_int_l1]
    refine T.cond (fun g1 => ?_) fun g1 => ?_
    · have hk1 : k < w.length := by have := of_decide_eq_true g1; omega
      have htk : w.take (k + 1) = w.take k ++ [w[k]] := by rw [List.take_add_one, List.getElem?_eq_getElem hk1]; rfl
      rw [idxM_nat hk1, some_bind, badW_plain, some_bind]
      refine T.cond (fun g2 => ?_) fun g2 => ?_
      · exact .ret ⟨by omega, List.any_eq_true.2 ⟨_, List.getElem_mem hk1, g2⟩⟩
      · rw [iadd1 (by omega)]
        exact .ret ⟨hk1, by omega, rfl, by rw [htk, List.any_append, hf]; simp [g2]⟩
    · have hk1 : k = w.length := by have := of_decide_eq_false g1; omega
      subst hk1
      rw [List.take_length] at hf
      exact .ret hf
  · cases o with
    | inl r => exact .ret (by rw [ho.2]; exact decide_eq_true ho.1)
    | inr u => exact .ret (by rw [ho]; rfl)

def wtsB (g : T_api_Graph) (w : List Int) : Bool := ((w.length : Int) == (g.L.length : Int)) && !w.any badW

theorem weighs_plain {g : T_api_Graph} {w : List Int} (hl : w.length ≤ 1000000) : degree_weighs_m g w = some (wtsB g w) := by
  unfold degree_weighs_m wtsB
  cases hb : ((w.length : Int) == (g.L.length : Int)) with
  | false => rfl
  | true => rw [cond_true, containsW_plain hl, some_bind]; rfl

theorem rweights_plain {g : T_api_Graph} {w : List Int} (hl : w.length ≤ 1000000) : ref22_Weights_m g w = some (wtsB g w) := by
  unfold ref22_Weights_m
  refine T.eq (T.bind (P := fun o : Sum Bool Unit => match o with | .inl r => r = false ∧ w.any badW = true | .inr _ => w.any badW = false) ?_ fun o ho => ?_)
  · refine T.loopK w.length (fun k s => k ≤ w.length ∧ s = (k : Int) ∧ (w.take k).any badW = false) ⟨by omega, rfl, by simp⟩ ?_
    rintro k _ ⟨hk, rfl, hf⟩
    dsimp only [ref22_Weights_l1]
    refine T.cond (fun g1 => ?_) fun g1 => ?_
    · have hk1 : k < w.length := by have := of_decide_eq_true g1; omega
      have htk : w.take (k + 1) = w.take k ++ [w[k]] := by rw [List.take_add_one, List.getElem?_eq_getElem hk1]; rfl
      have bad : badW w[k] = true → w.any badW = true := fun h => List.any_eq_true.2 ⟨_, List.getElem_mem hk1, h⟩
      rw [idxM_nat hk1, some_bind]
      refine T.cond (fun g2 => .ret ⟨rfl, bad (by unfold badW; rw [g2]; rfl)⟩) fun g2 => ?_
      rw [some_bind]
      refine T.cond (fun g3 => .ret ⟨rfl, bad (by unfold badW; rw [g2, g3]; rfl)⟩) fun g3 => ?_
      rw [iadd1 (by omega)]
      exact .ret ⟨hk1, by omega, rfl, by rw [htk, List.any_append, hf]; simp [badW, g2, g3]⟩
    · have hk1 : k = w.length := by have := of_decide_eq_false g1; omega
      subst hk1
      rw [List.take_length] at hf
      exact .ret hf
  · unfold wtsB
    cases o with
    | inl r => obtain ⟨rfl, h⟩ := ho; exact .ret (by rw [h]; simp)
    | inr u => rw [sumK_inr, letM_eq]; exact .ret (by rw [show w.any badW = false from ho]; simp)

theorem wts_ok {g : T_api_Graph} {w : List Int} (h : wtsB g w = true) : WtOk g.L.length w := by
  unfold wtsB at h
  rw [Bool.and_eq_true] at h
  refine ⟨by have := beq_iff_eq.1 h.1; omega, fun x hx => ?_⟩
  have h2 := h.2
  rw [Bool.not_eq_true', List.any_eq_false] at h2
  have := h2 x hx
  unfold badW at this
  simp at this
  omega
theorem wts_of {g : T_api_Graph} {w : List Int} (h : WtOk g.L.length w) : wtsB g w = true := by
  unfold wtsB
  rw [Bool.and_eq_true, Bool.not_eq_true', List.any_eq_false]
  refine ⟨beq_iff_eq.2 (by rw [h.l]), fun x hx => ?_⟩
  have := h.v x hx
  unfold badW; simp; omega

/-- Budget of what is valid -/
theorem Budget_val {N : Nat} {g : T_api_Graph} {w : List Int} {node : Nat} (hg : GVal g) (hn : g.N = (N : Int)) (hl : g.L.length ≤ 12) (hw : WtOk g.L.length w) (hnode : node < N) :
    ∃ m, m < 2 ^ g.L.length ∧ freeB N g node m = true ∧ (∀ m', m' < 2 ^ g.L.length → freeB N g node m' = true → wsum w (bitsL m) ≤ wsum w (bitsL m')) ∧
      degree_Budget_m g w (node : Int) = some (⟨wsum w (bitsL m), il (bitsL m)⟩, 0) ∧ ref22_Budget_m g w (node : Int) = some (⟨wsum w (bitsL m), il (bitsL m)⟩, 0) := by
  have hp : 0 < 2 ^ g.L.length := Nat.pow_pos (by decide)
  obtain ⟨h1, h2⟩ := bestK_ok (w := w) (fr := freeB N g node) (2 ^ g.L.length)
  obtain ⟨b, hb, _⟩ := h2 (2 ^ g.L.length - 1) (by omega) free_all
  obtain ⟨m, hm, hf, e⟩ := h1 b hb
  have hwl := hw.l
  have hv := Validate_plain hg (by omega)
  have hp12 : 2 ^ g.L.length ≤ 4096 := Nat.pow_le_pow_right (by decide) hl
  have hnn : decide ((node : Int) ≥ (N : Int)) = false := decide_eq_false (by omega)
  have hn0 : decide ((node : Int) < 0) = false := decide_eq_false (by omega)
  refine ⟨m, hm, hf, fun m' hm' hf' => ?_, ?_, ?_⟩
  · obtain ⟨b', hb', hle⟩ := h2 m' hm' hf'
    rw [hb] at hb'
    cases hb'
    rw [e] at hle
    exact hle
  · unfold degree_Budget_m
    rw [hv, some_bind, show ((0 : Int) != 0) = false from rfl, cond_false, letM_eq, decide_eq_false (by omega), cond_false, weighs_plain (by omega), some_bind, wts_of hw, Bool.not_true, cond_false, hn0, cond_false, letM_eq, hn, hnn, cond_false]
    have hsh : ishlM .i64 1 (g.L.length : Int) = some ((2 ^ g.L.length : Nat) : Int) := by
      unfold ishlM
      have hpc : (2 : Int) ^ g.L.length = ((2 ^ g.L.length : Nat) : Int) := by simp
      rw [if_neg (by omega), ishl_eq (by omega), Int.one_mul, Int.toNat_natCast, hpc, wrap64 (by omega) (by omega)]
    rw [hsh, some_bind, prog_l1b hg hn hl hw hnode, hb, some_bind, e]
    rfl
  · unfold ref22_Budget_m
    rw [← val_eq (by omega), hv, some_bind, show ((0 : Int) != 0) = false from rfl, cond_false, decide_eq_false (by omega), cond_false, rweights_plain (by omega), some_bind, wts_of hw, Bool.not_true, cond_false, hn0, cond_false, hn, hnn, cond_false, ref_l1b hg hn hl hw hnode, hb, some_bind, e]

theorem Pick_plain {s : T_deliberationkeep_Src} (hs : SrcOk s) {l : List Int} (h1 : 1 ≤ l.length) (h2 : l.length ≤ 1000000) : T (keep_Src_Pick_m s l) fun r => r.1 ∈ l ∧ SrcOk r.2 := by
  unfold keep_Src_Pick_m
  refine T.bind (N_plain hs (n := (l.length : Int)) (by omega)) ?_
  rintro ⟨x, s2⟩ ⟨hs2, hx⟩
  simp only at *
  have hx := hx (by omega)
  obtain ⟨k, rfl⟩ := Int.eq_ofNat_of_zero_le hx.1
  have hk : k < l.length := by omega
  rw [idxM_nat hk, some_bind]
  exact .ret ⟨List.getElem_mem hk, hs2⟩

theorem weighted_plain {s : T_deliberationkeep_Src} (hs : SrcOk s) {n k : Nat} (h1 : 1 ≤ n) (h2 : n ≤ 40) (hk : k ≤ 100) :
    T (law22_weighted_m s (n : Int) (k : Int)) fun r => GVal r.1 ∧ 1 ≤ r.1.N ∧ r.1.N ≤ n ∧ r.1.L.length ≤ k ∧ WtOk r.1.L.length r.2.1 ∧ SrcOk r.2.2 := by
  unfold law22_weighted_m
  refine T.bind (Graph_plain hs (by omega) (by omega)) ?_
  rintro ⟨g, s2⟩ ⟨hg, hn1, hn2, hl, hs2⟩
  simp only at *
  have hmin : imin (k : Int) (g.L.length : Int) = ((min k g.L.length : Nat) : Int) := by unfold imin; by_cases h : (k : Int) ≤ (g.L.length : Int) <;> simp [h] <;> omega
  rw [hmin]
  have hsl : slM g.L 0 ((min k g.L.length : Nat) : Int) = some (g.L.take (min k g.L.length)) := by
    unfold slM
    rw [if_pos (by omega)]; simp
  rw [hsl, some_bind]
  generalize hLL : g.L.take (min k g.L.length) = L
  have hLl : L.length ≤ k := by rw [← hLL, List.length_take]; omega
  refine T.bind (P := fun q => SrcOk q.1 ∧ WtOk L.length q.2) ?_ ?_
  · refine T.loopK L.length (fun j s => j ≤ L.length ∧ s.1 = (j : Int) ∧ SrcOk s.2.1 ∧ WtOk j s.2.2) ⟨by omega, rfl, hs2, rfl, by simp⟩ ?_
    rintro j ⟨_, s, out⟩ ⟨hj, rfl, hs, hw⟩
    dsimp only [law22_weighted_l1] at *
    refine T.cond (fun g1 => ?_) fun g1 => ?_
    · have hj1 : j < L.length := by have := of_decide_eq_true g1; omega
      have hwl := hw.l
      refine T.bind (Pick_plain hs (l := [1, 2, 3, 0, 5, 1000]) (by simp) (by simp)) ?_
      rintro ⟨x, s3⟩ ⟨hx, hs3⟩
      simp only at *
      rw [appM_eq (by simp; omega), some_bind, letM_eq, iadd1 (by omega)]
      refine .ret ⟨hj1, by omega, rfl, hs3, by simp; omega, fun y hy => ?_⟩
      rcases List.mem_append.1 hy with h | h
      · exact hw.v y h
      · rw [List.mem_singleton.1 h]
        simp only [List.mem_cons, List.not_mem_nil, or_false] at hx
        omega
    · have e : j = L.length := by have := of_decide_eq_false g1; omega
      subst e
      exact .ret ⟨hs, hw⟩
  · rintro ⟨s3, w⟩ ⟨hs3, hw⟩
    refine .ret ⟨⟨hg.n0, hg.n1, fun p hp => ?_, ?_⟩, hn1, hn2, hLl, hw, hs3⟩
    · rw [← hLL] at hp; exact hg.v p (List.mem_of_mem_take hp)
    · simp only; rw [← hLL]; exact hg.s.sublist (List.take_sublist _ _)
end Go.Dc

set_option linter.unusedVariables false
set_option linter.unusedSimpArgs false
set_option linter.unusedSectionVars false
/-! Cut and Levels, in the program and in the reference. -/
namespace Go.Dc

open Classical in
/-- the grounded label of a node -/
noncomputable def labL (N : Nat) (l : List Pr) (node : Nat) : Int :=
  if Gr (att ⟨(N : Int), l⟩) (node : Int) then 1 else if ∃ a : Nat, att ⟨(N : Int), l⟩ a node ∧ Gr (att ⟨(N : Int), l⟩) a then 2 else 3

theorem lab_one {N : Nat} {l : List Pr} {node : Nat} : labL N l node = 1 ↔ Gr (att ⟨(N : Int), l⟩) (node : Int) := by
  unfold labL
  by_cases h : Gr (att ⟨(N : Int), l⟩) (node : Int)
  · rw [if_pos h]; exact ⟨fun _ => h, fun _ => rfl⟩
  · rw [if_neg h]
    by_cases h2 : ∃ a : Nat, att ⟨(N : Int), l⟩ a node ∧ Gr (att ⟨(N : Int), l⟩) a
    · rw [if_pos h2]; exact ⟨fun e => by omega, fun e => absurd e h⟩
    · rw [if_neg h2]; exact ⟨fun e => by omega, fun e => absurd e h⟩

theorem lab_ref {N : Nat} {l : List Pr} (hN : N ≤ 40) (hv : ∀ p ∈ l, 0 ≤ p.From ∧ p.From < N ∧ 0 ≤ p.To ∧ p.To < N) (hl : l.length ≤ 10000) {node : Nat} (hnode : node < N) :
    T (net_Grounded_m ⟨(N : Int), l⟩) fun r => idxM r.1 (node : Int) = some (labL N l node) := by
  refine (nGrounded_plain (g := ⟨(N : Int), l⟩) ⟨by simp only; omega, by simp only; omega, fun p hp => hv p hp⟩ (by simp only; omega)).mono ?_
  rintro ⟨r, q⟩ ⟨h1, h2⟩
  simp only at *
  rw [idx_sf (by simp at h1; omega)]
  congr 1
  obtain ⟨h3, h4, h5⟩ := h2 node (by omega)
  unfold labL
  by_cases h : Gr (att ⟨(N : Int), l⟩) (node : Int)
  · rw [if_pos h]; exact h4.2 h
  · rw [if_neg h]
    have n1 : ¬ sf r node = 1 := fun e => h (h4.1 e)
    by_cases h6 : ∃ a : Nat, att ⟨(N : Int), l⟩ a node ∧ Gr (att ⟨(N : Int), l⟩) a
    · rw [if_pos h6]; exact h5.2 h6
    · rw [if_neg h6]
      have n2 : ¬ sf r node = 2 := fun e => h6 (h5.1 e)
      omega

def cutG (g : T_api_Graph) (w : List Int) (t : Int) : T_api_Graph := ⟨g.N, keepR (geB w t) g.L⟩

theorem Cut_val {g : T_api_Graph} {w : List Int} {t : Int} (hv : graph_Validate_m g = some 0) (hl : g.L.length ≤ 5000) (hw : WtOk g.L.length w) : degree_Cut_m g w t = some (cutG g w t, 0) := by
  have hwl := hw.l
  unfold degree_Cut_m
  rw [hv, some_bind, show ((0 : Int) != 0) = false from rfl, cond_false, weighs_plain (by omega), some_bind, wts_of hw, Bool.not_true, cond_false, without2_plain (by omega) hwl, some_bind]
  rfl

theorem gone_cut {g : T_api_Graph} {w : List Int} {t : Int} (hw : WtOk g.L.length w) : keepR (goneB (il ((List.range w.length).filter fun i => !geB w t i))) g.L = keepR (geB w t) g.L := by
  have hwl := hw.l
  refine keepR_congr fun i hi => ?_
  unfold goneB
  have : decide ((i : Int) ∈ il ((List.range w.length).filter fun i => !geB w t i)) = !geB w t i := by
    rw [Bool.eq_iff_iff, decide_eq_true_iff, il_mem]
    constructor
    · rintro ⟨n, hn, e⟩
      have : i = n := by omega
      rw [this]; exact (List.mem_filter.1 hn).2
    · intro h
      exact ⟨i, List.mem_filter.2 ⟨List.mem_range.2 (by omega), h⟩, rfl⟩
  rw [this, Bool.not_not]

theorem rCut_val {g : T_api_Graph} {w : List Int} {t : Int} (hv : graph_Validate_m g = some 0) (hl : g.L.length ≤ 5000) (hw : WtOk g.L.length w) : ref22_Cut_m g w t = some (cutG g w t, 0) := by
  have hwl := hw.l
  unfold ref22_Cut_m
  rw [← val_eq (by omega), hv, some_bind, show ((0 : Int) != 0) = false from rfl, cond_false, rweights_plain (by omega), some_bind, wts_of hw, Bool.not_true, cond_false]
  have hloop : loopC (ref22_Cut_l1 w t) (0, []) = some (il ((List.range w.length).filter fun i => !geB w t i)) := by
    refine T.eq (T.loopK w.length (fun k s => k ≤ w.length ∧ s = ((k : Int), il ((List.range k).filter fun i => !geB w t i))) ⟨by omega, rfl⟩ ?_)
    rintro k _ ⟨hk, rfl⟩
    dsimp only [ref22_Cut_l1]
    have hsucc : (List.range (k + 1)).filter (fun i => !geB w t i) = if geB w t k = false then (List.range k).filter (fun i => !geB w t i) ++ [k] else (List.range k).filter (fun i => !geB w t i) := by
      rw [List.range_succ, List.filter_append]
      by_cases h : geB w t k = false
      · rw [if_pos h, List.filter_cons_of_pos (p := fun i => !geB w t i) (by rw [h]; rfl)]; rfl
      · rw [if_neg h, List.filter_cons_of_neg (p := fun i => !geB w t i) (by simpa using h)]; simp
    refine T.cond (fun g1 => ?_) fun g1 => ?_
    · have hk1 : k < w.length := by have := of_decide_eq_true g1; omega
      have hfl : ((List.range k).filter (fun i => !geB w t i)).length ≤ k := Nat.le_trans (List.length_filter_le _ _) (by simp)
      have hge : geB w t k = decide (w[k] ≥ t) := by unfold geB; rw [show w.getD k 0 = w[k] by simp [List.getD, hk1]]
      rw [idxM_nat hk1, some_bind]
      refine T.cond (fun g2 => ?_) fun g2 => ?_
      · have h2 := of_decide_eq_true g2
        rw [if_pos (by rw [hge, decide_eq_false (by omega)])] at hsucc
        rw [appM_eq (by simp; omega), some_bind, letM_eq, iadd1 (by omega)]
        exact .ret ⟨hk1, by omega, by rw [hsucc]; simp⟩
      · have h2 := of_decide_eq_false g2
        rw [if_neg (by rw [hge, decide_eq_true (by omega)]; simp)] at hsucc
        rw [letM_eq, iadd1 (by omega)]
        exact .ret ⟨hk1, by omega, by rw [hsucc]⟩
    · have e : k = w.length := by have := of_decide_eq_false g1; omega
      subst e
      exact .ret rfl
  have hfl : ((List.range w.length).filter (fun i => !geB w t i)).length ≤ w.length := Nat.le_trans (List.length_filter_le _ _) (by simp)
  rw [hloop, some_bind, drop_plain (by omega) (by simp; omega), some_bind, gone_cut hw]
  rfl

/-- the bounds: the weights and one more, ascending -/
structure BndOk (w : List Int) (r : List Int) : Prop where
  asc : r.Pairwise (· < ·)
  mem : ∀ x, x ∈ r ↔ x ∈ w ∨ x = 1001
  len : r.length ≤ w.length + 1

section
variable {N : Nat} {g : T_api_Graph} {w : List Int} {node : Nat} (hg : GVal g) (hn : g.N = (N : Int)) (hl : g.L.length ≤ 5000) (hw : WtOk g.L.length w) (hnode : node < N)
include hg hn hl hw hnode

noncomputable def labT (N : Nat) (g : T_api_Graph) (w : List Int) (node : Nat) (t : Int) : Int := labL N (keepR (geB w t) g.L) node

theorem cut_v {t : Int} : (∀ p ∈ keepR (geB w t) g.L, 0 ≤ p.From ∧ p.From < N ∧ 0 ≤ p.To ∧ p.To < N) ∧ (keepR (geB w t) g.L).length ≤ 10000 ∧ N ≤ 40 := by
  have h40 := hg.n1
  have hlen : (keepR (geB w t) g.L).length ≤ g.L.length := keepK_len
  exact ⟨fun p hp => by have := hg.v p (keepR_sub hp); rw [hn] at this; exact this, by omega, by omega⟩

theorem Levels_l1_plain {r : List Int} (hr : r.length ≤ 6000) : loopC (degree_Levels_l1 g w (node : Int) r) (0, []) = some (r.map (labT N g w node)) := by
  have hwl := hw.l
  refine T.eq (T.loopK r.length (fun k s => k ≤ r.length ∧ s = ((k : Int), (r.take k).map (labT N g w node))) ⟨by omega, by simp⟩ ?_)
  rintro k _ ⟨hk, rfl⟩
  dsimp only [degree_Levels_l1]
  refine T.cond (fun g1 => ?_) fun g1 => ?_
  · have hk1 : k < r.length := by have := of_decide_eq_true g1; omega
    have htk : (r.take (k + 1)).map (labT N g w node) = (r.take k).map (labT N g w node) ++ [labT N g w node r[k]] := by
      rw [List.take_add_one, List.getElem?_eq_getElem hk1, List.map_append]; rfl
    obtain ⟨hv, hlen, h40⟩ := cut_v hg hn hl hw hnode (t := r[k])
    rw [idxM_nat hk1, some_bind, without1_plain (by omega) hwl, some_bind, hn]
    refine T.bind (net_chain h40 hv hlen hnode) ?_
    rintro t ⟨i, o, b, c, h1, h2, h3, h4, h5, h6⟩
    rw [h1, some_bind, h2, some_bind, iadd1 (by omega)]
    have hap : ∀ x : Int, appM 8 ((r.take k).map (labT N g w node)) [x] = some ((r.take k).map (labT N g w node) ++ [x]) := fun x => appM_eq (by simp; omega)
    refine T.cond (fun g2 => ?_) fun g2 => ?_
    · rw [hap, some_bind]
      refine .ret ⟨hk1, by omega, ?_⟩
      rw [htk, show labT N g w node r[k] = 1 from lab_one.2 (h3.1 g2)]
    · have n1 : ¬ Gr (att ⟨(N : Int), keepR (geB w r[k]) g.L⟩) (node : Int) := fun e => by rw [h3.2 e] at g2; cases g2
      rw [h4, some_bind, h5, some_bind]
      refine T.cond (fun g3 => ?_) fun g3 => ?_
      · rw [hap, some_bind]
        refine .ret ⟨hk1, by omega, ?_⟩
        have : labT N g w node r[k] = 2 := by unfold labT labL; rw [if_neg n1, if_pos (h6.1 g3)]
        rw [htk, this]
      · have n2 : ¬ ∃ a : Nat, att ⟨(N : Int), keepR (geB w r[k]) g.L⟩ a node ∧ Gr (att ⟨(N : Int), keepR (geB w r[k]) g.L⟩) a := fun e => by rw [h6.2 e] at g3; cases g3
        rw [hap, some_bind]
        refine .ret ⟨hk1, by omega, ?_⟩
        have : labT N g w node r[k] = 3 := by unfold labT labL; rw [if_neg n1, if_neg n2]
        rw [htk, this]
  · have e : k = r.length := by have := of_decide_eq_false g1; omega
    subst e
    exact .ret (by rw [List.take_length])

theorem Levels_val : ∃ r, BndOk w r ∧ degree_Levels_m g w (node : Int) = some (r.map (labT N g w node), 0) := by
  have hwl := hw.l
  have hv := Validate_plain hg (by omega)
  obtain ⟨r, hr, h1, h2, h3⟩ := bounds_plain (l := w ++ [1001]) (by simp; omega)
  simp at h3
  refine ⟨r, ⟨h1, fun x => by rw [h2]; simp, h3⟩, ?_⟩
  unfold degree_Levels_m
  rw [hv, some_bind, show ((0 : Int) != 0) = false from rfl, cond_false, weighs_plain (by omega), some_bind, wts_of hw, Bool.not_true, cond_false, decide_eq_false (by omega), cond_false, hn, decide_eq_false (by omega), cond_false]
  have hc : slices_Clone_int_int_m w = some w := by unfold slices_Clone_int_int_m; rw [appM_eq (by simp; omega)]; rfl
  rw [hc, some_bind, appM_eq (by simp; omega), some_bind, show slices_Values_int_int_m (w ++ [1001]) = some (w ++ [1001]) from rfl, some_bind]
  obtain ⟨q, hq1, hq2⟩ := Option.bind_eq_some_iff.1 hr
  rw [hq1, some_bind, hq2, some_bind, Levels_l1_plain hg hn hl hw hnode (by omega), some_bind]

/-- the next bound -/
theorem next_plain {last : Int} {out : List Int} (h0 : last < 1001) : T (loopC (ref22_Levels_l2 w (last, out)) (1001, 0)) fun n => last < n ∧ n ≤ 1001 ∧ (n ∈ w ∨ n = 1001) ∧ ∀ x ∈ w, last < x → n ≤ x := by
  have hwl := hw.l
  refine T.loopK w.length (fun k s => k ≤ w.length ∧ s.2 = (k : Int) ∧ last < s.1 ∧ s.1 ≤ 1001 ∧ (s.1 ∈ w ∨ s.1 = 1001) ∧ ∀ x ∈ w.take k, last < x → s.1 ≤ x) ⟨by omega, rfl, h0, by omega, .inr rfl, by simp⟩ ?_
  rintro k ⟨n, _⟩ ⟨hk, rfl, h1, h2, h3, h4⟩
  dsimp only [ref22_Levels_l2] at *
  refine T.cond (fun g1 => ?_) fun g1 => ?_
  · have hk1 : k < w.length := by have := of_decide_eq_true g1; omega
    have htk : w.take (k + 1) = w.take k ++ [w[k]] := by rw [List.take_add_one, List.getElem?_eq_getElem hk1]; rfl
    rw [idxM_nat hk1, some_bind]
    refine T.cond (fun g2 => ?_) fun g2 => ?_
    · have hx := of_decide_eq_true g2
      rw [some_bind, letM_eq, iadd1 (by omega)]
      have hm : w[k] ∈ w := List.getElem_mem hk1
      obtain ⟨m1, m2, m3⟩ := imin3 n w[k]
      refine .ret ⟨hk1, by omega, rfl, ?_, by omega, ?_, fun x hx' => ?_⟩
      · rcases m3 with e | e <;> omega
      · rcases m3 with e | e
        · rw [e]; exact h3
        · rw [e]; exact .inl hm
      · rw [htk] at hx'
        rcases List.mem_append.1 hx' with h | h
        · intro hl; have := h4 x h hl; omega
        · rw [List.mem_singleton.1 h]; intro _; exact m2
    · have hx := of_decide_eq_false g2
      rw [letM_eq, iadd1 (by omega)]
      refine .ret ⟨hk1, by omega, rfl, h1, h2, h3, fun x hx' => ?_⟩
      rw [htk] at hx'
      rcases List.mem_append.1 hx' with h | h
      · exact h4 x h
      · rw [List.mem_singleton.1 h]; intro hl; omega
  · have e : k = w.length := by have := of_decide_eq_false g1; omega
    subst e
    rw [List.take_length] at h4
    exact .ret ⟨h1, h2, h3, h4⟩

theorem rLevels_val {r : List Int} (hr : BndOk w r) : ref22_Levels_m g w (node : Int) = some (r.map (labT N g w node), 0) := by
  have hwl := hw.l
  have hv := Validate_plain hg (by omega)
  unfold ref22_Levels_m
  rw [← val_eq (by omega), hv, some_bind, show ((0 : Int) != 0) = false from rfl, cond_false, rweights_plain (by omega), some_bind, wts_of hw, Bool.not_true, cond_false, decide_eq_false (by omega), cond_false, hn, decide_eq_false (by omega), cond_false]
  have hrl := hr.len
  have hle : ∀ x ∈ r, x ≤ 1001 := fun x hx => by
    rcases (hr.mem x).1 hx with h | h
    · have := hw.v x h; omega
    · omega
  have h0r : ∀ x ∈ r, 0 ≤ x := fun x hx => by
    rcases (hr.mem x).1 hx with h | h
    · exact (hw.v x h).1
    · omega
  have h1001 := (hr.mem 1001).2 (.inr rfl)
  have hasc := List.pairwise_iff_getElem.1 hr.asc
  have hloop : loopC (ref22_Levels_l1 g w (node : Int)) (-1, []) = some (r.map (labT N g w node), 0) := by
    refine T.eq (T.loopK r.length (fun k s => k < r.length ∧ s.2 = (r.take k).map (labT N g w node) ∧ s.1 < 1001 ∧ (∀ i (hi : i < r.length), r[i] ≤ s.1 ↔ i < k)) ⟨List.length_pos_of_mem h1001, by simp, by omega, fun i hi => ⟨fun h => by have := h0r _ (List.getElem_mem hi); simp only at h; omega, fun h => by omega⟩⟩ ?_)
    rintro k ⟨last, out⟩ ⟨hk, rfl, hlast, hcut⟩
    dsimp only [ref22_Levels_l1] at *
    refine T.bind (next_plain hg hn hl hw hnode hlast) fun n ⟨n1, n2, n3, n4⟩ => ?_
    have hnk : n = r[k] := by
      have hnr : n ∈ r := (hr.mem n).2 n3
      obtain ⟨j, hj, e⟩ := List.getElem_of_mem hnr
      have hjk : ¬ j < k := fun h => by have := (hcut j hj).2 h; omega
      by_cases e2 : j = k
      · subst e2; exact e.symm
      · have h1 := hasc k j hk hj (by omega)
        have h2 : ¬ r[k] ≤ last := fun h => by have := (hcut k hk).1 h; omega
        rcases (hr.mem r[k]).1 (List.getElem_mem hk) with h | h
        · have := n4 _ h (by omega); omega
        · omega
    rw [rCut_val hv (by omega) hw, some_bind]
    obtain ⟨hv2, hlen, h40⟩ := cut_v hg hn hl hw hnode (t := n)
    have hcg : cutG g w n = ⟨(N : Int), keepR (geB w n) g.L⟩ := by unfold cutG; rw [hn]
    rw [hcg]
    refine T.bind (lab_ref h40 hv2 hlen hnode) fun q hq => ?_
    have htk : (r.take (k + 1)).map (labT N g w node) = (r.take k).map (labT N g w node) ++ [labT N g w node n] := by
      rw [List.take_add_one, List.getElem?_eq_getElem hk, List.map_append, hnk]; rfl
    rw [hq, some_bind, appM_eq (by simp; omega), some_bind]
    refine T.cond (fun g2 => ?_) fun g2 => ?_
    · have h2 := of_decide_eq_true g2
      have hlast : k + 1 = r.length := by
        refine Classical.byContradiction fun hne => ?_
        have hk1 : k + 1 < r.length := by omega
        have h3 := hasc k (k + 1) hk hk1 (by omega)
        have h4 := hle _ (List.getElem_mem hk1)
        omega
      refine .ret ?_
      show (_, _) = (_, _)
      rw [show labL N (keepR (geB w n) g.L) node = labT N g w node n from rfl, ← htk, hlast, List.take_length]
    · have h2 := of_decide_eq_false g2
      have hk1 : k + 1 < r.length := by
        refine Classical.byContradiction fun hne => ?_
        obtain ⟨j, hj, e⟩ := List.getElem_of_mem h1001
        have : ¬ r[j] ≤ n := by omega
        by_cases e2 : j = k
        · subst e2; omega
        · have := hasc j k hj hk (by omega); omega
      refine .ret ⟨hk, hk1, htk.symm, by omega, fun i hi => ?_⟩
      constructor
      · intro h
        refine Classical.byContradiction fun hne => ?_
        have := hasc k i hk hi (by omega)
        omega
      · intro h
        by_cases e2 : i = k
        · subst e2; omega
        · have := hasc i k hi hk (by omega); omega
  rw [hloop]; rfl
end
end Go.Dc

set_option linter.unusedVariables false
set_option linter.unusedSimpArgs false
set_option linter.unusedSectionVars false
/-! The law DegreeAnswers, in plain words. -/
namespace Go.Dc

theorem Pairs_same {l : List Pr} (hl : l.length ≤ 100000) : net_Pairs_m l l = some true := by
  unfold net_Pairs_m
  rw [show ((l.length : Int) != (l.length : Int)) = false by simp, cond_false]
  have : loopC (net_Pairs_l1 l l) 0 = some (.inr ()) := by
    refine T.eq (T.loopK l.length (fun i s => s = (i : Int) ∧ i ≤ l.length) ⟨rfl, by omega⟩ ?_)
    rintro i _ ⟨rfl, hi⟩
    dsimp only [net_Pairs_l1]
    refine T.cond (fun g1 => ?_) fun g1 => .ret rfl
    have hi1 : i < l.length := by have := of_decide_eq_true g1; omega
    rw [idxM_nat hi1, some_bind, some_bind, iadd1 (by omega)]
    exact T.cond (fun g2 => by simp at g2) fun _ => .ret ⟨hi1, rfl, by omega⟩
  rw [this]; rfl
theorem Same_same {g : T_api_Graph} (hl : g.L.length ≤ 100000) : net_Same_m g g = some true := by
  unfold net_Same_m
  rw [show (g.N == g.N) = true by simp, cond_true, Pairs_same hl, some_bind]
theorem Ints_same {l : List Int} (hl : l.length ≤ 100000) : keep_Ints_m l l = some true := by
  unfold keep_Ints_m
  rw [show ((l.length : Int) != (l.length : Int)) = false by simp, cond_false]
  have : loopC (keep_Ints_l1 l l) 0 = some (.inr ()) := by
    refine T.eq (T.loopK l.length (fun i s => s = (i : Int) ∧ i ≤ l.length) ⟨rfl, by omega⟩ ?_)
    rintro i _ ⟨rfl, hi⟩
    dsimp only [keep_Ints_l1]
    refine T.cond (fun g1 => ?_) fun g1 => .ret rfl
    have hi1 : i < l.length := by have := of_decide_eq_true g1; omega
    rw [idxM_nat hi1, some_bind, some_bind, iadd1 (by omega)]
    exact T.cond (fun g2 => by simp at g2) fun _ => .ret ⟨hi1, rfl, by omega⟩
  rw [this]; rfl

section
variable {g : T_api_Graph} {w : List Int} (hl : g.L.length ≤ 5000) (hwl : w.length ≤ 5000)
include hl hwl

/-- what the checks ahead say -/
theorem checks : (∃ v, v ≠ 0 ∧ graph_Validate_m g = some v ∧ ref10_Validate_m g = some v) ∨ (graph_Validate_m g = some 0 ∧ ref10_Validate_m g = some 0 ∧ GVal g) := by
  obtain ⟨v, hv, hv2⟩ := gV_plain (g := g) (by omega)
  have hrv := val_eq (g := g) (by omega)
  rw [hv] at hrv
  by_cases h0 : v = 0
  · subst h0; exact .inr ⟨hv, hrv.symm, (hv2.1 rfl).val⟩
  · exact .inl ⟨v, h0, hv, hrv.symm⟩

theorem Budget_both {node : Int} : ∃ r, degree_Budget_m g w node = some r ∧ ref22_Budget_m g w node = some r ∧ r.1.Dropped.length ≤ 100 := by
  rcases checks hl hwl with ⟨v, h0, h1, h2⟩ | ⟨h1, h2, hg⟩
  · have hb : (v != 0) = true := by simpa using h0
    exact ⟨(⟨0, []⟩, v), by unfold degree_Budget_m; rw [h1, some_bind, hb, cond_true], by unfold ref22_Budget_m; rw [h2, some_bind, hb, cond_true], by simp⟩
  · have hz : ((0 : Int) != 0) = false := rfl
    cases c1 : decide ((g.L.length : Int) > 12) with
    | true => exact ⟨(⟨0, []⟩, 2), by unfold degree_Budget_m; rw [h1, some_bind, hz, cond_false, letM_eq, c1, cond_true], by unfold ref22_Budget_m; rw [h2, some_bind, hz, cond_false, c1, cond_true], by simp⟩
    | false =>
      cases c2 : wtsB g w with
      | false => exact ⟨(⟨0, []⟩, 1), by unfold degree_Budget_m; rw [h1, some_bind, hz, cond_false, letM_eq, c1, cond_false, weighs_plain (by omega), some_bind, c2]; rfl, by unfold ref22_Budget_m; rw [h2, some_bind, hz, cond_false, c1, cond_false, rweights_plain (by omega), some_bind, c2]; rfl, by simp⟩
      | true =>
        cases c3 : decide (node < 0) with
        | true => exact ⟨(⟨0, []⟩, 1), by unfold degree_Budget_m; rw [h1, some_bind, hz, cond_false, letM_eq, c1, cond_false, weighs_plain (by omega), some_bind, c2, Bool.not_true, cond_false, c3, cond_true], by unfold ref22_Budget_m; rw [h2, some_bind, hz, cond_false, c1, cond_false, rweights_plain (by omega), some_bind, c2, Bool.not_true, cond_false, c3, cond_true], by simp⟩
        | false =>
          cases c4 : decide (node ≥ g.N) with
          | true => exact ⟨(⟨0, []⟩, 1), by unfold degree_Budget_m; rw [h1, some_bind, hz, cond_false, letM_eq, c1, cond_false, weighs_plain (by omega), some_bind, c2, Bool.not_true, cond_false, c3, cond_false, letM_eq, c4, cond_true], by unfold ref22_Budget_m; rw [h2, some_bind, hz, cond_false, c1, cond_false, rweights_plain (by omega), some_bind, c2, Bool.not_true, cond_false, c3, cond_false, c4, cond_true], by simp⟩
          | false =>
            have d1 := of_decide_eq_false c1; have d3 := of_decide_eq_false c3; have d4 := of_decide_eq_false c4
            obtain ⟨N, hN⟩ := Int.eq_ofNat_of_zero_le hg.n0
            obtain ⟨n, rfl⟩ := Int.eq_ofNat_of_zero_le (show 0 ≤ node by omega)
            obtain ⟨m, _, _, _, e1, e2⟩ := Budget_val hg hN (by omega) (wts_ok c2) (show n < N by omega)
            have hbl := bitsL_len (s := m)
            exact ⟨_, e1, e2, by simp; omega⟩

theorem Levels_both {node : Int} : ∃ r, degree_Levels_m g w node = some r ∧ ref22_Levels_m g w node = some r ∧ r.1.length ≤ 6000 := by
  rcases checks hl hwl with ⟨v, h0, h1, h2⟩ | ⟨h1, h2, hg⟩
  · have hb : (v != 0) = true := by simpa using h0
    exact ⟨([], v), by unfold degree_Levels_m; rw [h1, some_bind, hb, cond_true], by unfold ref22_Levels_m; rw [h2, some_bind, hb, cond_true], by simp⟩
  · have hz : ((0 : Int) != 0) = false := rfl
    cases c2 : wtsB g w with
    | false => exact ⟨([], 1), by unfold degree_Levels_m; rw [h1, some_bind, hz, cond_false, weighs_plain (by omega), some_bind, c2]; rfl, by unfold ref22_Levels_m; rw [h2, some_bind, hz, cond_false, rweights_plain (by omega), some_bind, c2]; rfl, by simp⟩
    | true =>
      cases c3 : decide (node < 0) with
      | true => exact ⟨([], 1), by unfold degree_Levels_m; rw [h1, some_bind, hz, cond_false, weighs_plain (by omega), some_bind, c2, Bool.not_true, cond_false, c3, cond_true], by unfold ref22_Levels_m; rw [h2, some_bind, hz, cond_false, rweights_plain (by omega), some_bind, c2, Bool.not_true, cond_false, c3, cond_true], by simp⟩
      | false =>
        cases c4 : decide (node ≥ g.N) with
        | true => exact ⟨([], 1), by unfold degree_Levels_m; rw [h1, some_bind, hz, cond_false, weighs_plain (by omega), some_bind, c2, Bool.not_true, cond_false, c3, cond_false, c4, cond_true], by unfold ref22_Levels_m; rw [h2, some_bind, hz, cond_false, rweights_plain (by omega), some_bind, c2, Bool.not_true, cond_false, c3, cond_false, c4, cond_true], by simp⟩
        | false =>
          have d3 := of_decide_eq_false c3; have d4 := of_decide_eq_false c4
          obtain ⟨N, hN⟩ := Int.eq_ofNat_of_zero_le hg.n0
          obtain ⟨n, rfl⟩ := Int.eq_ofNat_of_zero_le (show 0 ≤ node by omega)
          have hw := wts_ok c2
          obtain ⟨r, hr, e1⟩ := Levels_val hg hN hl hw (show n < N by omega)
          have hrl := hr.len
          exact ⟨_, e1, rLevels_val hg hN hl hw (show n < N by omega) hr, by simp; omega⟩

theorem Cut_both {t : Int} : ∃ r, degree_Cut_m g w t = some r ∧ ref22_Cut_m g w t = some r ∧ r.1.L.length ≤ 5000 := by
  rcases checks hl hwl with ⟨v, h0, h1, h2⟩ | ⟨h1, h2, hg⟩
  · have hb : (v != 0) = true := by simpa using h0
    exact ⟨(⟨0, []⟩, v), by unfold degree_Cut_m; rw [h1, some_bind, hb, cond_true], by unfold ref22_Cut_m; rw [h2, some_bind, hb, cond_true], by simp⟩
  · have hz : ((0 : Int) != 0) = false := rfl
    cases c2 : wtsB g w with
    | false => exact ⟨(⟨0, []⟩, 1), by unfold degree_Cut_m; rw [h1, some_bind, hz, cond_false, weighs_plain (by omega), some_bind, c2]; rfl, by unfold ref22_Cut_m; rw [h2, some_bind, hz, cond_false, rweights_plain (by omega), some_bind, c2]; rfl, by simp⟩
    | true =>
      have hw := wts_ok c2
      refine ⟨_, Cut_val h1 hl hw, rCut_val h1 hl hw, ?_⟩
      have : (keepR (geB w t) g.L).length ≤ g.L.length := keepK_len
      show (keepR (geB w t) g.L).length ≤ 5000
      omega
end

theorem law22_DegreeAnswers_plain (raw : T_api_Graph) (weights l : List Int) (node t : Int) {p0 p1 p2 p3 p4 : Prop} (_ : p0) (_ : p1) (_ : p2) (_ : p3) (_ : p4) : law22_DegreeAnswers_m raw weights l node t = some true := by
  refine T.eq ?_
  have aw : T (Option.bind law22_awake_m fun t => some t) fun x => x = true := by rw [awake_plain, some_bind]; exact .ret rfl
  unfold law22_DegreeAnswers_m
  have hlight : net_Light_m raw = some (decide ((raw.L.length : Int) ≤ 300)) := rfl
  rw [hlight, some_bind]
  refine T.cond (fun _ => aw) fun g1 => T.cond (fun _ => aw) fun g2 => ?_
  have c1 : raw.L.length ≤ 300 := by simp at g1; omega
  have c2 : weights.length ≤ 310 := by have := of_decide_eq_false g2; omega
  refine T.bind New_plain fun s1 hs1 => ?_
  refine T.bind (weighted_plain hs1 (n := 6) (k := 9) (by omega) (by omega) (by omega)) ?_
  rintro ⟨g, w, s2⟩ ⟨hg, hn1, hn2, hgl, hw, hs2⟩
  simp only at *
  have hwl := hw.l
  obtain ⟨N, hN⟩ := Int.eq_ofNat_of_zero_le hg.n0
  rw [hN]
  refine T.bind (N_plain hs2 (n := (N : Int)) (by omega)) ?_
  rintro ⟨x, s3⟩ ⟨hs3, hx⟩
  simp only at *
  refine T.bind (P := fun o : Sum Bool Unit => o = .inr ()) ?_ fun o ho => by subst ho; rw [sumK_inr]; exact aw
  refine T.loopK 4 (fun k s => k ≤ 4 ∧ s.1 = (k : Int) ∧ SrcOk s.2) ⟨by omega, rfl, hs3⟩ ?_
  rintro k ⟨_, s⟩ ⟨hk, rfl, hs⟩
  dsimp only [law22_DegreeAnswers_l1] at *
  have key : ∀ q ∈ ([(T_anon57.mk raw weights node), (T_anon57.mk g w x), (T_anon57.mk g weights x), (T_anon57.mk g w node)] : List T_anon57), q.g.L.length ≤ 5000 ∧ q.w'.length ≤ 5000 := by
    intro q hq
    simp only [List.mem_cons, List.not_mem_nil, or_false] at hq
    rcases hq with rfl | rfl | rfl | rfl <;> (simp only; omega)
  refine T.cond (fun g1 => ?_) fun g1 => .ret rfl
  have hk4 : k < 4 := by have := of_decide_eq_true g1; simp at this; omega
  have hk' : k < ([(T_anon57.mk raw weights node), (T_anon57.mk g w x), (T_anon57.mk g weights x), (T_anon57.mk g w node)] : List T_anon57).length := hk4
  obtain ⟨t1, t2⟩ := key _ (List.getElem_mem hk')
  rw [idxM_nat hk', some_bind]
  generalize ([(T_anon57.mk raw weights node), (T_anon57.mk g w x), (T_anon57.mk g weights x), (T_anon57.mk g w node)] : List T_anon57)[k] = q at *
  obtain ⟨r1, e1, e2, h1⟩ := Budget_both t1 t2 (node := q.node)
  obtain ⟨r2, e3, e4, h2⟩ := Levels_both t1 t2 (node := q.node)
  rw [e1, some_bind, e2, some_bind, e3, some_bind, e4, some_bind, Ints_same (by omega), some_bind, Ints_same (by omega), some_bind]
  simp only [bne_self_eq_false, cond_false, Bool.not_true]
  refine T.bind (N_plain hs (n := 6) (by omega)) ?_
  rintro ⟨y, s4⟩ ⟨hs4, hy⟩
  have hin : loopC (law22_DegreeAnswers_l2 t q (y, s4)) 0 = some (.inr ()) := by
    refine T.eq (T.loopK 2 (fun i s => i ≤ 2 ∧ s = (i : Int)) ⟨by omega, rfl⟩ ?_)
    rintro i _ ⟨hi, rfl⟩
    dsimp only [law22_DegreeAnswers_l2]
    refine T.cond (fun g1 => ?_) fun g1 => .ret rfl
    have hi2 : i < 2 := by have := of_decide_eq_true g1; simp at this; omega
    have hi' : i < ([t, y] : List Int).length := hi2
    obtain ⟨r3, e5, e6, h3⟩ := Cut_both t1 t2 (t := ([t, y] : List Int)[i])
    rw [idxM_nat hi', some_bind, e5, some_bind, e6, some_bind, Same_same (by omega), some_bind, iadd1 (by omega)]
    simp only [bne_self_eq_false, cond_false, Bool.not_true]
    exact .ret ⟨hi2, by omega, rfl⟩
  rw [hin, some_bind, sumK_inr, iadd1 (by omega)]
  exact .ret ⟨hk4, by omega, rfl, hs4⟩
end Go.Dc
