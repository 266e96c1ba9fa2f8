/- Part P22A.Ord2 of a proof: lemmas. -/
import Derived.Test.YtmbflfngkcmfeaaDoorP22ABas
import Derived.Test.YtmbflfngkcmfeaaDoorP22AAri
set_option linter.unusedVariables false
set_option linter.unusedSimpArgs false
set_option linter.unusedSectionVars false
/-! The order in which attackers come first, in the program and in the reference. -/
namespace Go.Dc

def foldO {α β : Type} (g : β → α → Option β) : List α → β → Option β
  | [], b => some b
  | x :: l, b => (g b x).bind (foldO g l)

theorem foldM_loop {α β ρ ε : Type} {l : List α} {f : Int × β → Option (Sum (Sum ε ρ) (Int × β))} (g : β → α → Option β) (fin : β → ρ) (err : ε) (I : Nat → β → Prop) {b0 : β} (h0 : I 0 b0)
    (h : ∀ i (hi : i < l.length) b, I i b → (∃ b', g b l[i] = some b' ∧ f ((i : Int), b) = some (.inr (((i + 1 : Nat) : Int), b')) ∧ I (i + 1) b') ∨ (g b l[i] = none ∧ f ((i : Int), b) = some (.inl (.inl err))))
    (he : ∀ b, I l.length b → f ((l.length : Int), b) = some (.inl (.inr (fin b)))) :
    (∃ b, foldO g l b0 = some b ∧ loopC f (0, b0) = some (.inr (fin b)) ∧ I l.length b) ∨ (foldO g l b0 = none ∧ loopC f (0, b0) = some (.inl err)) := by
  suffices hh : ∀ m i b, l.length - i ≤ m → i ≤ l.length → I i b → (∃ b', foldO g (l.drop i) b = some b' ∧ loopC f ((i : Int), b) = some (.inr (fin b')) ∧ I l.length b') ∨ (foldO g (l.drop i) b = none ∧ loopC f ((i : Int), b) = some (.inl err)) by
    simpa using hh _ 0 b0 (Nat.le_refl _) (Nat.zero_le _) h0
  intro m
  induction m with
  | zero =>
    intro i b h1 h2 hb
    have e : i = l.length := by omega
    subst e
    rw [loopC_eq, he b hb, List.drop_length]; exact .inl ⟨b, rfl, rfl, hb⟩
  | succ m ih =>
    intro i b h1 h2 hb
    by_cases e : i = l.length
    · subst e; rw [loopC_eq, he b hb, List.drop_length]; exact .inl ⟨b, rfl, rfl, hb⟩
    · have hi : i < l.length := by omega
      rw [loopC_eq, List.drop_eq_getElem_cons hi]
      unfold foldO
      rcases h i hi b hb with ⟨b', h3, h4, h5⟩ | ⟨h3, h4⟩
      · rw [h3, h4]; exact ih (i + 1) b' (by omega) (by omega) h5
      · rw [h3, h4]; exact .inr ⟨rfl, rfl⟩

theorem asc_ext {l l' : List Nat} (h : l.Pairwise (· < ·)) (h' : l'.Pairwise (· < ·)) (hm : ∀ x, x ∈ l ↔ x ∈ l') : l = l' := by
  have nd : ∀ {l : List Nat}, l.Pairwise (· < ·) → l.Nodup := fun h => h.imp (fun h => Nat.ne_of_lt h)
  refine List.Perm.eq_of_pairwise (le := (· ≤ ·)) (fun a b _ _ h1 h2 => Nat.le_antisymm h1 h2) (h.imp Nat.le_of_lt) (h'.imp Nat.le_of_lt) ?_
  exact (List.perm_ext_iff_of_nodup (nd h) (nd h')).2 hm

theorem bitsL_asc (s : Nat) : (bitsL s).Pairwise (· < ·) := List.Pairwise.filter _ List.pairwise_lt_range
theorem range_asc (N : Nat) (p : Nat → Bool) : ((List.range N).filter p).Pairwise (· < ·) := List.Pairwise.filter _ List.pairwise_lt_range

/-- the attackers of a node, ascending -/
def attL (A : Nat → Nat → Bool) (N a : Nat) : List Nat := (List.range N).filter fun b => A b a
theorem mem_attL {A : Nat → Nat → Bool} {N a b : Nat} : b ∈ attL A N a ↔ b < N ∧ A b a = true := by simp [attL]

def passStep (A : Nat → Nat → Bool) (N : Nat) (out : List Nat) (a : Nat) : List Nat :=
  if a ∉ out ∧ ∀ b ∈ attL A N a, b ∈ out then out ++ [a] else out
def passF (A : Nat → Nat → Bool) (N : Nat) (out : List Nat) : List Nat := (List.range N).foldl (passStep A N) out

/-- what is kept: nodes, each once, behind their attackers -/
structure OrdOk (A : Nat → Nat → Bool) (N : Nat) (out : List Nat) : Prop where
  lt : ∀ a ∈ out, a < N
  nd : out.Nodup
  tp : ∀ k (hk : k < out.length), ∀ b ∈ attL A N out[k], b ∈ out.take k

theorem nodup_lt : ∀ {N : Nat} {l : List Nat}, l.Nodup → (∀ a ∈ l, a < N) → l.length ≤ N ∧ (l.length = N → ∀ a, a < N → a ∈ l)
  | 0, l, _, h => by
    have : l = [] := List.eq_nil_iff_forall_not_mem.2 fun a ha => by have := h a ha; omega
    subst this; exact ⟨by simp, fun _ a ha => by omega⟩
  | N + 1, l, hn, h => by
    have ih := nodup_lt (N := N) (l := l.erase N) (hn.erase N) (fun a ha => by
      have h1 := (hn.mem_erase_iff).1 ha
      have := h a h1.2; omega)
    by_cases hm : N ∈ l
    · have e := List.length_erase_of_mem hm
      have : 0 < l.length := List.length_pos_of_mem hm
      refine ⟨by omega, fun hl a ha => ?_⟩
      by_cases e2 : a = N
      · subst e2; exact hm
      · exact (hn.mem_erase_iff.1 (ih.2 (by omega) a (by omega))).2
    · rw [List.erase_of_not_mem hm] at ih
      exact ⟨by omega, fun hl => by omega⟩

theorem OrdOk.len {A : Nat → Nat → Bool} {N : Nat} {out : List Nat} (h : OrdOk A N out) : out.length ≤ N := (nodup_lt h.nd h.lt).1
theorem OrdOk.all {A : Nat → Nat → Bool} {N : Nat} {out : List Nat} (h : OrdOk A N out) (hl : out.length = N) : ∀ a, a < N → a ∈ out := (nodup_lt h.nd h.lt).2 hl

theorem OrdOk.step {A : Nat → Nat → Bool} {N : Nat} {out : List Nat} {a : Nat} (h : OrdOk A N out) (ha : a < N) : OrdOk A N (passStep A N out a) := by
  unfold passStep
  by_cases hc : a ∉ out ∧ ∀ b ∈ attL A N a, b ∈ out
  · rw [if_pos hc]
    refine ⟨fun x hx => ?_, ?_, fun k hk b hb => ?_⟩
    · rcases List.mem_append.1 hx with hx | hx
      · exact h.lt x hx
      · rw [List.mem_singleton.1 hx]; exact ha
    · rw [List.nodup_append]
      exact ⟨h.nd, by simp, fun x hx y hy => by rw [List.mem_singleton.1 hy]; intro e; exact hc.1 (e ▸ hx)⟩
    · by_cases e : k < out.length
      · rw [List.getElem_append_left e] at hb
        rw [List.take_append_of_le_length (by omega)]
        exact h.tp k e b hb
      · have e2 : k = out.length := by simp at hk; omega
        subst e2
        rw [List.getElem_append_right (by omega)] at hb
        simp at hb
        rw [List.take_append_of_le_length (by omega), List.take_length]
        exact hc.2 b hb
  · rw [if_neg hc]; exact h

theorem step_pre {A : Nat → Nat → Bool} {N : Nat} {out : List Nat} {a : Nat} : out <+: passStep A N out a := by
  unfold passStep
  by_cases hc : a ∉ out ∧ ∀ b ∈ attL A N a, b ∈ out
  · rw [if_pos hc]; exact List.prefix_append _ _
  · rw [if_neg hc]; exact List.prefix_rfl

theorem fold_ok {A : Nat → Nat → Bool} {N : Nat} : ∀ {l : List Nat} {out : List Nat}, (∀ a ∈ l, a < N) → OrdOk A N out → OrdOk A N (l.foldl (passStep A N) out) ∧ out <+: l.foldl (passStep A N) out
  | [], _, _, h => ⟨h, List.prefix_rfl⟩
  | a :: l, out, hl, h => by
    have := fold_ok (l := l) (fun x hx => hl x (List.mem_cons_of_mem _ hx)) (h.step (hl a (by simp)))
    exact ⟨this.1, step_pre.trans this.2⟩

theorem pass_ok {A : Nat → Nat → Bool} {N : Nat} {out : List Nat} (h : OrdOk A N out) : OrdOk A N (passF A N out) ∧ out <+: passF A N out :=
  fold_ok (fun a ha => List.mem_range.1 ha) h

/-- k passes -/
def passN (A : Nat → Nat → Bool) (N : Nat) : Nat → List Nat
  | 0 => []
  | k + 1 => passF A N (passN A N k)

theorem passN_ok {A : Nat → Nat → Bool} {N : Nat} : ∀ k, OrdOk A N (passN A N k)
  | 0 => ⟨by simp [passN], by simp [passN], fun k hk => by simp [passN] at hk⟩
  | k + 1 => (pass_ok (passN_ok k)).1

theorem passN_fix {A : Nat → Nat → Bool} {N k : Nat} (h : passN A N (k + 1) = passN A N k) : ∀ m, k ≤ m → passN A N m = passN A N k := by
  intro m hm
  obtain ⟨d, rfl⟩ : ∃ d, m = k + d := ⟨m - k, by omega⟩
  induction d with
  | zero => rfl
  | succ d ih => show passF A N (passN A N (k + d)) = _; rw [ih (by omega)]; exact h

theorem passN_full {A : Nat → Nat → Bool} {N k : Nat} (h : (passN A N k).length = N) : passN A N (k + 1) = passN A N k := by
  have h1 := pass_ok (passN_ok (A := A) (N := N) k)
  have h2 := h1.1.len
  have := h1.2.eq_of_length_le (by omega)
  exact this.symm

theorem passN_grow {A : Nat → Nat → Bool} {N : Nat} : ∀ k, (∀ j, j < k → passN A N (j + 1) ≠ passN A N j) → k ≤ (passN A N k).length
  | 0, _ => Nat.zero_le _
  | k + 1, h => by
    have ih := passN_grow k (fun j hj => h j (by omega))
    have h1 := pass_ok (passN_ok (A := A) (N := N) k)
    have h2 : (passN A N k).length ≠ (passN A N (k + 1)).length := fun e => h k (by omega) (h1.2.eq_of_length e).symm
    have h3 := h1.2.length_le
    have h4 : (passF A N (passN A N k)).length = (passN A N (k + 1)).length := rfl
    omega

/-- the order, if there is one -/
def orderF (A : Nat → Nat → Bool) (N : Nat) : Option (List Nat) := if (passN A N N).length = N then some (passN A N N) else none

theorem orderF_ok {A : Nat → Nat → Bool} {N : Nat} {l : List Nat} (h : orderF A N = some l) : OrdOk A N l ∧ l.length = N := by
  unfold orderF at h
  by_cases hl : (passN A N N).length = N
  · rw [if_pos hl] at h; cases h; exact ⟨passN_ok N, hl⟩
  · rw [if_neg hl] at h; cases h
end Go.Dc

set_option linter.unusedVariables false
set_option linter.unusedSimpArgs false
set_option linter.unusedSectionVars false
/-! The two orders are one. -/
namespace Go.Dc

theorem skip_fold {A : Nat → Nat → Bool} {N : Nat} {out0 : List Nat} : ∀ {l : List Nat} {out : List Nat}, (∀ x ∈ out0, x ∈ out) → (l.filter fun a => !decide (a ∈ out0)).foldl (passStep A N) out = l.foldl (passStep A N) out
  | [], _, _ => rfl
  | a :: l, out, h => by
    rw [List.foldl_cons]
    by_cases ha : a ∈ out0
    · rw [List.filter_cons_of_neg (by simp [ha]), skip_fold h, show passStep A N out a = out by unfold passStep; rw [if_neg (fun hc => hc.1 (h a ha))]]
    · rw [List.filter_cons_of_pos (by simp [ha]), List.foldl_cons, skip_fold (fun x hx => step_pre.subset (h x hx))]

section
variable {N : Nat} {n : Nt} (h : NtOk N n) (hall : ∀ i, n.all.testBit i = true ↔ i < N)
include h hall
def byA (n : Nt) (b a : Nat) : Bool := (n.by_.getD a 0).testBit b

theorem setOf_app {out : List Nat} {a : Nat} : setOf out ||| 2 ^ a = setOf (out ++ [a]) := by
  unfold setOf orL
  rw [List.foldl_append]; rfl

theorem by_mem {a b : Nat} : b ∈ attL (byA n) N a ↔ (n.by_.getD a 0).testBit b = true := by
  rw [mem_attL]
  exact ⟨fun x => x.2, fun x => ⟨h.al b (h.ab b a ((h.sy b a).1 x)).1, x⟩⟩

theorem order_l2 {out0 : List Nat} (ho : OrdOk (byA n) N out0) :
    loopC (degree_order_l2 n.t (il (bitsL (andn n.all (setOf out0))))) (((setOf out0 : Nat) : Int), 0, il out0) = some (il (passF (byA n) N out0), ((setOf (passF (byA n) N out0) : Nat) : Int)) := by
  have hN := h.hN
  have hL : bitsL (andn n.all (setOf out0)) = (List.range N).filter fun a => !decide (a ∈ out0) := by
    refine asc_ext (bitsL_asc _) (range_asc N _) fun x => ?_
    rw [mem_bitsL andn_lt, andn_bit h.allLt, Bool.and_eq_true, hall, List.mem_filter, List.mem_range]
    have : (setOf out0).testBit x = decide (x ∈ out0) := by rw [Bool.eq_iff_iff, setOf_bit, decide_eq_true_iff]
    rw [this]
  rw [hL]
  generalize hLL : ((List.range N).filter fun a => !decide (a ∈ out0)) = L
  have hLlt : ∀ a ∈ L, a < N ∧ a ∉ out0 := fun a ha => by rw [← hLL, List.mem_filter, List.mem_range] at ha; exact ⟨ha.1, by simpa using ha.2⟩
  have hLnd : L.Pairwise (· < ·) := by rw [← hLL]; exact range_asc N _
  have hLlen : L.length ≤ 40 := by rw [← hLL]; refine Nat.le_trans (List.length_filter_le _ _) ?_; simp; omega
  refine T.eq (T.loopK L.length (fun k s => k ≤ L.length ∧ ∃ out, s = (((setOf out : Nat) : Int), (k : Int), il out) ∧ out = (L.take k).foldl (passStep (byA n) N) out0 ∧ (∀ x ∈ out, x ∈ out0 ∨ x ∈ L.take k) ∧ OrdOk (byA n) N out)
    ⟨by omega, out0, rfl, rfl, fun x hx => .inl hx, ho⟩ ?_)
  rintro k _ ⟨hk, out, rfl, hout, hsub, hok⟩
  dsimp only [degree_order_l2]
  have hset : setOf out < 2 ^ 64 := lt64 (setOf_lt hok.lt) (by omega)
  have holen := hok.len
  refine T.cond (fun g1 => ?_) fun g1 => ?_
  · have hk1 : k < L.length := by simpa using g1
    obtain ⟨ha, ha0⟩ := hLlt _ (List.getElem_mem hk1)
    have hnin : L[k] ∉ out := fun hx => by
      rcases hsub _ hx with hx | hx
      · exact ha0 hx
      · obtain ⟨j, hj, e⟩ := List.getElem_of_mem hx
        rw [List.length_take] at hj
        rw [List.getElem_take] at e
        have := List.pairwise_iff_getElem.1 hLnd j k (by omega) hk1 (by omega)
        omega
    have htk : L.take (k + 1) = L.take k ++ [L[k]] := by rw [List.take_add_one, List.getElem?_eq_getElem hk1]; rfl
    have hfold : (L.take (k + 1)).foldl (passStep (byA n) N) out0 = passStep (byA n) N out L[k] := by rw [htk, List.foldl_append, ← hout]; rfl
    rw [il_idx hk1, some_bind, show L.getD k 0 = L[k] by simp [List.getD, hk1], show n.t.By = il n.by_ from rfl, il_idx (by rw [h.lb]; exact ha), some_bind, iandn_u]
    have hby := h.byLt L[k]
    have key : andn (n.by_.getD L[k] 0) (setOf out) = 0 ↔ ∀ b ∈ attL (byA n) N L[k], b ∈ out := by
      rw [zero_bits]
      constructor
      · intro hz b hb
        have h1 := (by_mem h hall).1 hb
        have h2 := hz b
        rw [andn_bit hby, h1] at h2
        exact setOf_bit.1 (by simpa using h2)
      · intro hx b
        rw [andn_bit hby]
        cases hb : (n.by_.getD L[k] 0).testBit b with
        | false => rfl
        | true => rw [setOf_bit.2 (hx b ((by_mem h hall).2 hb))]; rfl
    refine T.cond (fun g2 => ?_) fun g2 => ?_
    · have hz : ∀ b ∈ attL (byA n) N L[k], b ∈ out := key.1 (by simpa using g2)
      have hp : passStep (byA n) N out L[k] = out ++ [L[k]] := by unfold passStep; rw [if_pos ⟨hnin, hz⟩]
      rw [appM_eq (by simp; omega), some_bind, With_plain hset (by omega), some_bind, iadd1 (by omega)]
      refine .ret ⟨hk1, by omega, out ++ [L[k]], by rw [setOf_app h hall]; simp, by rw [hfold, hp], fun x hx => ?_, hp ▸ hok.step ha⟩
      rw [htk]
      rcases List.mem_append.1 hx with hx | hx
      · exact (hsub x hx).imp id (fun hx => List.mem_append_left _ hx)
      · exact .inr (List.mem_append_right _ hx)
    · have hz : ¬ ∀ b ∈ attL (byA n) N L[k], b ∈ out := fun hx => by rw [key.2 hx] at g2; simp at g2
      have hp : passStep (byA n) N out L[k] = out := by unfold passStep; rw [if_neg (fun hc => hz hc.2)]
      rw [iadd1 (by omega)]
      refine .ret ⟨hk1, by omega, out, rfl, by rw [hfold, hp], fun x hx => ?_, hok⟩
      rw [htk]
      exact (hsub x hx).imp id (fun hx => List.mem_append_left _ hx)
  · have hk1 : k = L.length := by have := of_decide_eq_false g1; simp at this; omega
    subst hk1
    rw [List.take_length] at hout
    have : passF (byA n) N out0 = out := by unfold passF; rw [hout, ← hLL]; exact (skip_fold fun x hx => hx).symm
    rw [this]
    exact .ret rfl

theorem order_plain : degree_order_m n.t = some (match orderF (byA n) N with | some l => (il l, true) | none => ([], false)) := by
  have hN := h.hN
  unfold degree_order_m
  refine T.eq (T.bind (P := fun o => sumK (fun a : List Int × Bool => some a) (fun q : List Int => some (q, true)) o = some (match orderF (byA n) N with | some l => (il l, true) | none => ([], false))) ?_ fun o ho => ⟨_, ho, rfl⟩)
  refine T.loopK (N + 1) (fun k s => k ≤ N ∧ s = (((setOf (passN (byA n) N k) : Nat) : Int), il (passN (byA n) N k)) ∧ ∀ j, j < k → passN (byA n) N (j + 1) ≠ passN (byA n) N j) ⟨by omega, rfl, fun j hj => by omega⟩ ?_
  rintro k _ ⟨hk, rfl, hgr⟩
  have hok := passN_ok (A := byA n) (N := N) k
  have hlen := hok.len
  have hset : (setOf (passN (byA n) N k) = n.all) ↔ (passN (byA n) N k).length = N := by
    constructor
    · intro e
      refine Nat.le_antisymm hlen ?_
      have : ∀ a, a < N → a ∈ passN (byA n) N k := fun a ha => setOf_bit.1 (by rw [e]; exact (hall a).2 ha)
      have hp : (List.range N).Perm (passN (byA n) N k) := (List.perm_ext_iff_of_nodup List.nodup_range hok.nd).2 fun a => ⟨fun ha => this a (List.mem_range.1 ha), fun ha => List.mem_range.2 (hok.lt a ha)⟩
      have := hp.length_eq
      simp at this; omega
    · intro e
      exact eq_of_bits fun i => by rw [Bool.eq_iff_iff, setOf_bit, hall]; exact ⟨hok.lt i, fun hi => hok.all e i hi⟩
  dsimp only [degree_order_l1]
  refine T.cond (fun g1 => ?_) fun g1 => ?_
  · have hne : (passN (byA n) N k).length ≠ N := fun e => by rw [hset.2 e] at g1; simp [Nt.t] at g1
    have hkl := passN_grow k hgr
    have e77 : iandn .u64 n.t.All ((setOf (passN (byA n) N k) : Nat) : Int) = ((andn n.all (setOf (passN (byA n) N k)) : Nat) : Int) := iandn_u
    rw [letM_eq, e77, List_plain andn_lt, some_bind, order_l2 h hall hok, some_bind]
    simp only
    refine T.cond (fun g2 => ?_) fun g2 => ?_
    · have e : passN (byA n) N (k + 1) = passN (byA n) N k := ((pass_ok hok).2.eq_of_length (by have := (beq_iff_eq.1 g2).symm; simp at this; omega)).symm
      have : orderF (byA n) N = none := by unfold orderF; rw [passN_fix e N hk, if_neg hne]
      refine .ret ?_
      show sumK _ _ _ = _
      rw [this]; rfl
    · refine .ret ⟨by omega, by omega, rfl, fun j hj => ?_⟩
      by_cases e : j = k
      · subst e
        intro e2
        have : passF (byA n) N (passN (byA n) N j) = passN (byA n) N j := e2
        rw [this] at g2; simp at g2
      · exact hgr j (by omega)
  · have he : setOf (passN (byA n) N k) = n.all := by
      have : ((setOf (passN (byA n) N k) : Nat) : Int) = (n.all : Int) := by simpa [Nt.t] using g1
      omega
    have hl := hset.1 he
    have e := passN_full (A := byA n) (N := N) hl
    have : orderF (byA n) N = some (passN (byA n) N k) := by unfold orderF; rw [passN_fix e N hk, if_pos hl]
    refine .ret ?_
    show sumK _ _ _ = _
    rw [this]; rfl
end

/-! ### the reference -/
section
variable {N : Nat} {g : T_api_Graph} (hN : N ≤ 40) (hn : g.N = (N : Int)) (hl : g.L.length ≤ 1000000)
include hN hn hl
def hasA (g : T_api_Graph) (b a : Nat) : Bool := g.L.any fun p => p.From == (b : Int) && p.To == (a : Int)

theorem il_memN {out : List Nat} {a : Nat} : decide ((a : Int) ∈ il out) = decide (a ∈ out) := by
  rw [Bool.eq_iff_iff, decide_eq_true_iff, decide_eq_true_iff, il_mem]
  exact ⟨fun ⟨m, hm, e⟩ => by have : a = m := by omega
                              rw [this]; exact hm, fun hm => ⟨a, hm, rfl⟩⟩

end
end Go.Dc
