/- Part P23A.Joint of a proof: lemmas. -/
import Derived.Test.YtkcaadcoagimdaaDoorP23AChance
set_option linter.unusedVariables false
set_option linter.unusedSimpArgs false
set_option linter.unusedSectionVars false
/-! Joint, Given and Extension. -/
namespace Go.Dc

theorem Concat_plain {a b : List Fr} (h : a.length + b.length ≤ 100000) : slices_Concat_api_Fraction_api_Fraction_m [a, b] = some (a ++ b) := by
  unfold slices_Concat_api_Fraction_api_Fraction_m
  have h1 : loopC (slices_Concat_api_Fraction_api_Fraction_l1 [a, b]) (0, 0) = some ((a.length + b.length : Nat) : Int) := by
    rw [loopC_eq]
    have e1 : slices_Concat_api_Fraction_api_Fraction_l1 [a, b] (0, 0) = some (.inr ((a.length : Int), 1)) := by
      unfold slices_Concat_api_Fraction_api_Fraction_l1
      rw [show decide ((0 : Int) < (([a, b] : List (List Fr)).length : Int)) = true from rfl, cond_true]
      rw [show idxM [a, b] 0 = some a from rfl, some_bind, iadd64 (by omega) (by omega), letM_eq, decide_eq_false (by omega), cond_false]
      simp; rfl
    rw [e1]
    show loopC _ ((a.length : Int), 1) = _
    rw [loopC_eq]
    have e2 : slices_Concat_api_Fraction_api_Fraction_l1 [a, b] ((a.length : Int), 1) = some (.inr (((a.length + b.length : Nat) : Int), 2)) := by
      unfold slices_Concat_api_Fraction_api_Fraction_l1
      rw [show decide ((1 : Int) < (([a, b] : List (List Fr)).length : Int)) = true from rfl, cond_true]
      rw [show idxM [a, b] 1 = some b from rfl, some_bind, iadd64 (by simp only; omega) (by simp only; omega), letM_eq, decide_eq_false (by simp only; omega), cond_false]
      simp; rfl
    rw [e2]
    show loopC _ (((a.length + b.length : Nat) : Int), 2) = _
    rw [loopC_eq]
    rfl
  rw [h1, some_bind]
  have h2 : slices_Grow_api_Fraction_api_Fraction_m ((a.length + b.length : Nat) : Int) = some [] := by
    unfold slices_Grow_api_Fraction_api_Fraction_m
    rw [decide_eq_false (by omega), cond_false, show isub .i64 0 0 = 0 from rfl, isub64 (by omega) (by omega), letM_eq]
    by_cases h0 : a.length + b.length = 0
    · rw [h0]; rfl
    · rw [decide_eq_true (by omega), cond_true, mkM_eq (by omega) (by omega), some_bind, slM_eq (by omega) (by omega) (by simp; omega)]
      rfl
  rw [h2, some_bind]
  have h3 : loopC (slices_Concat_api_Fraction_api_Fraction_l2 [a, b]) (0, []) = some (a ++ b) := by
    rw [loopC_eq]
    have e1 : slices_Concat_api_Fraction_api_Fraction_l2 [a, b] (0, []) = some (.inr (1, a)) := by
      unfold slices_Concat_api_Fraction_api_Fraction_l2
      rw [show decide ((0 : Int) < (([a, b] : List (List Fr)).length : Int)) = true from rfl, cond_true]
      rw [show idxM [a, b] 0 = some a from rfl, some_bind, appM_eq (by simp; omega), some_bind]; rfl
    rw [e1]
    show loopC _ (1, a) = _
    rw [loopC_eq]
    have e2 : slices_Concat_api_Fraction_api_Fraction_l2 [a, b] (1, a) = some (.inr (2, a ++ b)) := by
      unfold slices_Concat_api_Fraction_api_Fraction_l2
      rw [show decide ((1 : Int) < (([a, b] : List (List Fr)).length : Int)) = true from rfl, cond_true]
      rw [show idxM [a, b] 1 = some b from rfl, some_bind, appM_eq (by simp only; omega), some_bind]; rfl
    rw [e2]
    show loopC _ (2, a ++ b) = _
    rw [loopC_eq]
    rfl
  rw [h3, some_bind]

/-- the least power that bounds the denominators -/
theorem dn_bound {l : List Fr} (h : ∀ f ∈ l, FrOk f) : dn l ≤ 12 ^ (l.filter fun f => !cert f).length := by
  induction l with
  | nil => decide
  | cons f r ih =>
    have hf := h f (by simp)
    have := ih fun g hg => h g (by simp [hg])
    rw [dn_cons hf]
    cases hc : cert f with
    | true => rw [if_pos rfl, List.filter_cons_of_neg (by simp [hc])]; exact this
    | false =>
      rw [if_neg (by simp), List.filter_cons_of_pos (by simp [hc]), List.length_cons, Nat.pow_succ, Nat.mul_comm]
      exact Nat.mul_le_mul this (by have := hf.d2; have := hf.d1; omega)

structure OOk (N : Nat) (g : T_api_Graph) (o : T_api_Odds) : Prop where
  gg : GOk N g
  s : g.L.Pairwise plt
  ln : o.Nodes.length = N
  la : o.Attacks.length = g.L.length
  fr : ∀ f ∈ o.Nodes ++ o.Attacks, FrOk f
  un : ((o.Nodes ++ o.Attacks).filter fun f => !cert f).length ≤ 10

abbrev frs (o : T_api_Odds) : List Fr := o.Nodes ++ o.Attacks

section
variable {N : Nat} {g : T_api_Graph} {o : T_api_Odds} (h : OOk N g o)
include h
theorem OOk.dnB : dn (frs o) ≤ 100000000000 := Nat.le_trans (dn_bound h.fr) (Nat.le_trans (Nat.pow_le_pow_right (by decide) h.un) (by decide))
theorem OOk.len : (frs o).length = N + g.L.length := by simp [h.ln, h.la]
theorem OOk.len2 : (frs o).length ≤ 10010 := by rw [h.len]; have := h.gg.hN; have := h.gg.l; omega

theorem total_plain {f : Int × Int → Option (Sum Int (Int × Int))} (hf : f = chance_worlds_l1 (frs o)) : loopC f (1, 0) = some ((dn (frs o) : Nat) : Int) := by
  have hlen := h.len2
  have hB := h.dnB
  have key : ∀ (k : Nat) (hk : k ≤ (frs o).length), ∃ t : Nat, t * dn ((frs o).drop k) = dn (frs o) ∧ (∀ f ∈ (frs o).drop k, FrOk f) ∧ loopC f (1, 0) = loopC f ((t : Int), (k : Int)) := by
    intro k
    induction k with
    | zero => intro _; exact ⟨1, by simp, by simpa using h.fr, rfl⟩
    | succ k ih =>
      intro hk
      obtain ⟨t, ht, hfr, he⟩ := ih (by omega)
      have hk' : k < (frs o).length := by omega
      rw [List.drop_eq_getElem_cons hk'] at ht hfr
      have hfk : FrOk (frs o)[k] := hfr _ List.mem_cons_self
      have hpos : 0 < dn ((frs o).drop (k + 1)) := dn_pos fun x hx => hfr x (List.mem_cons_of_mem _ hx)
      rw [dn_cons hfk] at ht
      have hbody : f ((t : Int), (k : Int)) = some (.inr (((if cert (frs o)[k] then t else t * (frs o)[k].Den.toNat : Nat) : Int), ((k + 1 : Nat) : Int))) := by
        have e1 : decide ((k : Int) < ((frs o).length : Int)) = true := decide_eq_true (by omega)
        subst hf
        unfold chance_worlds_l1
        simp only
        rw [e1, cond_true, idxM_nat hk', some_bind, certain_plain, some_bind, iadd1 (by omega)]
        cases hc : cert (frs o)[k] with
        | true => simp
        | false =>
          rw [hc] at ht
          simp only [Bool.false_eq_true, if_false] at ht
          have h1 : t * (frs o)[k].Den.toNat ≤ dn (frs o) := by
            rw [← ht, ← Nat.mul_assoc]; exact Nat.le_mul_of_pos_right _ hpos
          have h2 : (frs o)[k].Den = (((frs o)[k].Den.toNat : Nat) : Int) := by have := hfk.d1; omega
          rw [Bool.not_false, cond_true, h2, imul_n (by omega), letM_eq]
          simp
      refine ⟨if cert (frs o)[k] then t else t * (frs o)[k].Den.toNat, ?_, fun x hx => hfr x (List.mem_cons_of_mem _ hx), ?_⟩
      · rw [← ht]
        split
        · rfl
        · rw [Nat.mul_assoc]
      · rw [he, loopC_eq, hbody]; rfl
  obtain ⟨t, ht, _, he⟩ := key _ (Nat.le_refl _)
  rw [List.drop_length, show dn [] = 1 from rfl, Nat.mul_one] at ht
  rw [he, loopC_eq, ht]
  have e1 : decide (((frs o).length : Int) < ((frs o).length : Int)) = false := decide_eq_false (by omega)
  subst hf
  unfold chance_worlds_l1; simp only; rw [e1]; rfl
end

theorem WOk.cast {M N : Nat} {l : List Pr} {has : List Bool} {n : Nt} (h : WOk M l has n) (e : M = N) : WOk N l has n := e ▸ h
open Classical in
/-- the net of a world -/
noncomputable def wn (g : T_api_Graph) (has : List Bool) : Nt := if h : ∃ n : Nt, chance_world_m g has = some n.t ∧ WOk g.N.toNat g.L has n then h.choose else ⟨0, [], []⟩
theorem wn_spec {N : Nat} {g : T_api_Graph} (hg : GOk N g) {has : List Bool} (hh : has.length = N + g.L.length) : chance_world_m g has = some (wn g has).t ∧ WOk N g.L has (wn g has) := by
  obtain ⟨_, h1, n, rfl, h2⟩ := world_plain hg hh
  have hN : g.N.toNat = N := by rw [hg.n]; simp
  have hx : ∃ n : Nt, chance_world_m g has = some n.t ∧ WOk g.N.toNat g.L has n := ⟨n, h1, by rw [hN]; exact h2⟩
  unfold wn
  rw [dif_pos hx]
  have := hx.choose_spec
  exact ⟨this.1, this.2.cast hN⟩

open Classical in
/-- all nodes of S are there, and accepted -/
noncomputable def jc (g : T_api_Graph) (S : Nat) (q : Int) (has : List Bool) : Bool := decide (SubB S (wn g has).all ∧ ∀ x, S.testBit x = true → ansP (wn g has) q x)
noncomputable def ec (g : T_api_Graph) (S : Nat) (has : List Bool) : Bool := decide (grd (wn g has) = S)

section
variable {N : Nat} {n : Nt} (h : NtOk N n)
include h
open Classical in
theorem joint1_plain {S : Nat} {q : Int} {w sum : Nat} (hS : S < 2 ^ 64) (hb : sum + w ≤ BIG) :
    chance_joint_1_m n.t (w : Int) (S : Int) q (sum : Int) = some ((sum + (if SubB S n.all ∧ ∀ x, S.testBit x = true → ansP n q x then w else 0) : Nat) : Int) := by
  have hB : BIG = 4611686018427387904 := rfl
  unfold chance_joint_1_m
  rw [show n.t.All = (n.all : Int) from rfl, iandn_u]
  have hz : andn S n.all = 0 ↔ SubB S n.all := by
    rw [zero_bits]
    constructor
    · intro h0 i hi
      have := h0 i
      rw [andn_bit hS, hi] at this
      simpa using this
    · intro hs i
      rw [andn_bit hS]
      cases hi : S.testBit i
      · rfl
      · rw [hs i hi]; rfl
  by_cases hs : SubB S n.all
  · rw [hz.2 hs, show (((0 : Nat) : Int) != 0) = false from rfl, cond_false, List_plain hS, some_bind]
    have hb2 := bitsL_len (s := S)
    have hf1 : ∀ i (hi : i < (bitsL S).length), chance_joint_1_l1 n.t q (sum : Int) (il (bitsL S)) (i : Int) = some (bif (fun x => !decide (ansP n q x)) (bitsL S)[i] then .inl (.inl (sum : Int)) else .inr ((i : Int) + 1)) := fun i hi => by
      unfold chance_joint_1_l1
      rw [show decide ((i : Int) < ((il (bitsL S)).length : Int)) = true from decide_eq_true (by simp; omega), cond_true, il_idx hi, some_bind, show (bitsL S).getD i 0 = (bitsL S)[i] by simp [List.getD, hi]]
      have hx : (bitsL S)[i] < 64 := bit_lt hS ((mem_bitsL hS).1 (List.getElem_mem hi))
      rw [Answer_plain h hx, some_bind, iadd1 (by omega)]
      by_cases ha : ansP n q (bitsL S)[i]
      · simp [ha]
      · simp [ha]
    have hf2 : chance_joint_1_l1 n.t q (sum : Int) (il (bitsL S)) ((bitsL S).length : Int) = some (.inl (.inr ())) := by
      unfold chance_joint_1_l1
      rw [show decide (((bitsL S).length : Int) < ((il (bitsL S)).length : Int)) = false from decide_eq_false (by simp)]; rfl
    have hfind := any_loop (l := bitsL S) (fun x => !decide (ansP n q x)) (sum : Int) hf1 hf2
    rw [hfind, some_bind]
    by_cases hall : ∀ x, S.testBit x = true → ansP n q x
    · have : (bitsL S).any (fun x => !decide (ansP n q x)) = false := by
        rw [List.any_eq_false]
        intro x hx
        simp [hall x ((mem_bitsL hS).1 hx)]
      rw [this, cond_false, if_pos ⟨hs, hall⟩, sumK_inr, iadd_n (by omega)]
    · rw [if_neg fun hc => hall hc.2]
      simp only [Classical.not_forall] at hall
      obtain ⟨x, hx, hna⟩ := hall
      have : (bitsL S).any (fun x => !decide (ansP n q x)) = true := by
        rw [List.any_eq_true]
        exact ⟨x, (mem_bitsL hS).2 hx, by simp [hna]⟩
      rw [this, cond_true, sumK_inl]; simp
  · have : andn S n.all ≠ 0 := fun e => hs (hz.1 e)
    rw [show (((andn S n.all : Nat) : Int) != 0) = true from by simpa using this, cond_true, if_neg fun hc => hs hc.1]; simp

theorem Ext1_plain {l : List Nat} {w sum : Nat} (hl : ∀ x ∈ l, x < 64) (hl2 : l.length ≤ 1000000) (hb : sum + w ≤ BIG) :
    chance_Extension_1_m n.t (w : Int) (il l) (sum : Int) = some ((sum + (if grd n = setOf l then w else 0) : Nat) : Int) := by
  have hB : BIG = 4611686018427387904 := rfl
  unfold chance_Extension_1_m
  rw [(In_plain2 h).1, some_bind, Of_plain hl hl2, some_bind]
  by_cases e : grd n = setOf l
  · rw [if_pos e, e, show (((setOf l : Nat) : Int) == ((setOf l : Nat) : Int)) = true by simp, cond_true, iadd_n (by omega)]
  · rw [if_neg e, show (((grd n : Nat) : Int) == ((setOf l : Nat) : Int)) = false by simp; omega]; rfl
end

section
variable {N : Nat} {g : T_api_Graph} {o : T_api_Odds} (h : OOk N g o)
include h
open Classical in
theorem joint_plain {S : Nat} {q : Int} (hS : S < 2 ^ 64) : chance_joint_m g o (S : Int) q = some (((J (frs o) (jc g S q) : Nat) : Int), ((dn (frs o) : Nat) : Int)) := by
  have hl2 : (o.Nodes ++ o.Attacks).length ≤ 10010 := h.len2
  have hB := h.dnB
  unfold chance_joint_m chance_worlds_m
  rw [Concat_plain (by have := h.len2; simpa using Nat.le_trans this (by decide)), some_bind, total_plain h rfl, some_bind, some_bind, mkM_T (by omega), some_bind]
  have hv : ∃ t' : List Bool, t'.length = (frs o).length ∧ visN (chance_world_m g) (fun t w s => chance_joint_1_m t w (S : Int) q s) (frs o) ((frs o).length + 1) (([] : List Fr).length : Int) ((1 : Nat) : Int) ((0 : Nat) : Int) ([] ++ List.replicate (frs o).length false) = some (((0 + 1 * J (frs o) (fun h => jc g S q ([] ++ h)) : Nat) : Int), [] ++ t') := by
    refine vis_plain h.fr (by omega) (c := jc g S q) (fun has w sum hh hb => ?_) (frs o) [] [] _ 1 0 rfl rfl (by simp) ?_
    · obtain ⟨e1, e2⟩ := wn_spec h.gg (has := has) (by rw [hh, h.len])
      refine ⟨_, e1, ?_⟩
      rw [joint1_plain e2.ok hS hb]
      unfold jc
      simp only [decide_eq_true_eq]
    · have : BIG = 4611686018427387904 := rfl
      omega
  obtain ⟨t', _, hv⟩ := hv
  rw [← vis1_eq] at hv
  simp only [List.nil_append, List.length_nil, Nat.zero_add, Nat.one_mul, Int.natCast_zero, Int.natCast_one] at hv
  have hm : chance_worlds_1_m 0 1 (frs o) (S : Int) q 0 g (List.replicate (frs o).length false) = _ := recC_of (fun n => chance_worlds_1_n_le n _ _ _ _ _ _ _ _) hv
  rw [hm, some_bind, some_bind]

theorem ext_plain {l : List Nat} (hl : ∀ x ∈ l, x < 64) (hl2 : l.length ≤ 1000000) : chance_worlds_s1_m g o (il l) 0 = some (((dn (frs o) : Nat) : Int), ((J (frs o) (ec g (setOf l)) : Nat) : Int)) := by
  have hl2' : (o.Nodes ++ o.Attacks).length ≤ 10010 := h.len2
  have hB := h.dnB
  unfold chance_worlds_s1_m
  rw [Concat_plain (by have := h.len2; simpa using Nat.le_trans this (by decide)), some_bind, total_plain h (f := chance_worlds_s1_l1 (frs o)) rfl, some_bind, some_bind, mkM_T (by omega), some_bind]
  have hv : ∃ t' : List Bool, t'.length = (frs o).length ∧ visN (chance_world_m g) (fun t w s => chance_Extension_1_m t w (il l) s) (frs o) ((frs o).length + 1) (([] : List Fr).length : Int) ((1 : Nat) : Int) ((0 : Nat) : Int) ([] ++ List.replicate (frs o).length false) = some (((0 + 1 * J (frs o) (fun h => ec g (setOf l) ([] ++ h)) : Nat) : Int), [] ++ t') := by
    refine vis_plain h.fr (by omega) (c := ec g (setOf l)) (fun has w sum hh hb => ?_) (frs o) [] [] _ 1 0 rfl rfl (by simp) ?_
    · obtain ⟨e1, e2⟩ := wn_spec h.gg (has := has) (by rw [hh, h.len])
      refine ⟨_, e1, ?_⟩
      rw [Ext1_plain e2.ok hl hl2 hb]
      unfold ec
      simp only [decide_eq_true_eq]
    · have : BIG = 4611686018427387904 := rfl
      omega
  obtain ⟨t', _, hv⟩ := hv
  rw [← vis2_eq] at hv
  simp only [List.nil_append, List.length_nil, Nat.zero_add, Nat.one_mul, Int.natCast_zero, Int.natCast_one] at hv
  have hm : chance_worlds_1_1_m 0 1 (frs o) (il l) 0 g (List.replicate (frs o).length false) = _ := recC_of (fun n => chance_worlds_1_1_n_le n _ _ _ _ _ _ _) hv
  rw [hm, some_bind]
end
end Go.Dc
