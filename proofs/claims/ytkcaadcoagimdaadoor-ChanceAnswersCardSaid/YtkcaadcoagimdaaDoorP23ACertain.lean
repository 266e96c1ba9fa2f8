/- Part P23A.Certain of a proof: lemmas. -/
import Derived.Test.YtkcaadcoagimdaaDoorLAW23AF
import Derived.Test.YtkcaadcoagimdaaDoorP23AAcc
namespace Go.Dc
theorem awake_plain : law23_awake_m = some true := law23_awake_f_le (k_ := 100) _ (by decide +kernel)
end Go.Dc

set_option linter.unusedVariables false
set_option linter.unusedSimpArgs false
set_option linter.unusedSectionVars false
/-! Certain, and the law ChanceCertain in plain words. -/
namespace Go.Dc

def sure (f : Fr) : Bool := f.Num == f.Den
/-- node i is there certainly -/
def sureN (o : T_api_Odds) (i : Nat) : Prop := ∃ f, o.Nodes[i]? = some f ∧ sure f = true
def sureA (o : T_api_Odds) (i : Nat) : Prop := ∃ f, o.Attacks[i]? = some f ∧ sure f = true

structure CertR (N : Nat) (g : T_api_Graph) (o : T_api_Odds) (r : T_api_Graph × List Int × Int) : Prop where
  e : r.2.2 = 0
  n : r.1.N = (N : Int)
  l : r.1.L.length ≤ g.L.length
  nodes : ∀ x : Int, x ∈ r.2.1 ↔ ∃ i : Nat, x = i ∧ sureN o i
  nl : r.2.1.length ≤ N
  v : ∀ p ∈ r.1.L, 0 ≤ p.From ∧ p.From < N ∧ 0 ≤ p.To ∧ p.To < N
  at_ : ∀ i j : Nat, att r.1 i j ↔ sureN o i ∧ sureN o j ∧ ∃ k, k < g.L.length ∧ sureA o k ∧ (g.L.getD k default).From = (i : Int) ∧ (g.L.getD k default).To = (j : Int)

theorem Cert1_plain {f : Fr} : chance_Certain_1_m f = some (sure f) := rfl

theorem Certain_plain {N : Nat} {g : T_api_Graph} {o : T_api_Odds} (hg : GVal g) (hn : g.N = (N : Int)) (hl : g.L.length ≤ 10000) (hln : o.Nodes.length = N) (hla : o.Attacks.length = g.L.length) (hfit : chance_fits_m g o = some true) :
    T (chance_Certain_m g o) (CertR N g o) := by
  have hN := hg.n1
  unfold chance_Certain_m
  rw [Validate_plain hg (by omega), some_bind, show ((0 : Int) != 0) = false from rfl, cond_false, hfit, some_bind, Bool.not_true, cond_false]
  refine T.bind (P := fun q : List Int => q.length ≤ N ∧ ∀ x : Int, x ∈ q ↔ ∃ i : Nat, x = i ∧ sureN o i) ?_ fun q hq => ?_
  · refine T.loopK N (fun k s => k ≤ N ∧ s.1 = (k : Int) ∧ s.2.length ≤ k ∧ ∀ x : Int, x ∈ s.2 ↔ ∃ i : Nat, x = i ∧ i < k ∧ sureN o i) ⟨by omega, rfl, by simp, by simp⟩ ?_
    rintro k ⟨_, l⟩ ⟨hk, rfl, hlen, hm⟩
    dsimp only [chance_Certain_l1] at *
    refine T.cond (fun g1 => ?_) fun g1 => ?_
    · simp at g1
      rw [idxM_nat g1, some_bind, Cert1_plain, some_bind, iadd1 (by omega)]
      have hs : sureN o k ↔ sure o.Nodes[k] = true := by
        unfold sureN
        rw [List.getElem?_eq_getElem g1]
        exact ⟨fun ⟨f, h1, h2⟩ => by cases h1; exact h2, fun h => ⟨_, rfl, h⟩⟩
      refine T.cond (fun g2 => ?_) fun g2 => ?_
      · rw [appM_eq (by simp; omega), some_bind]
        refine .ret ⟨by omega, by omega, rfl, by simp; omega, fun x => ?_⟩
        rw [List.mem_append, hm, List.mem_singleton]
        constructor
        · rintro (⟨i, h1, h2, h3⟩ | rfl)
          · exact ⟨i, h1, by omega, h3⟩
          · exact ⟨k, rfl, by omega, hs.2 g2⟩
        · rintro ⟨i, h1, h2, h3⟩
          by_cases e : i = k
          · subst e; exact .inr h1
          · exact .inl ⟨i, h1, by omega, h3⟩
      · refine .ret ⟨by omega, by omega, rfl, by simp only; omega, fun x => ?_⟩
        rw [hm]
        constructor
        · rintro ⟨i, h1, h2, h3⟩; exact ⟨i, h1, by omega, h3⟩
        · rintro ⟨i, h1, h2, h3⟩
          by_cases e : i = k
          · subst e; rw [hs.1 h3] at g2; cases g2
          · exact ⟨i, h1, by omega, h3⟩
    · simp at g1
      refine .ret ⟨by omega, fun x => ?_⟩
      rw [hm]
      constructor
      · rintro ⟨i, h1, _, h3⟩; exact ⟨i, h1, h3⟩
      · rintro ⟨i, h1, h3⟩
        have h3' := h3
        obtain ⟨f, h4, _⟩ := h3'
        have := (List.getElem?_eq_some_iff.1 h4).1
        exact ⟨i, h1, by omega, h3⟩
  · obtain ⟨hq1, hq2⟩ := hq
    have hsure : ∀ p ∈ g.L, ∃ F U : Nat, p.From = (F : Int) ∧ p.To = (U : Int) ∧ F < N ∧ U < N := fun p hp => by
      have := hg.v p hp
      exact ⟨p.From.toNat, p.To.toNat, by omega, by omega, by omega, by omega⟩
    refine T.bind (P := fun q : List Pr => q.length ≤ g.L.length ∧ ∀ p, p ∈ q ↔ ∃ k, k < g.L.length ∧ g.L.getD k default = p ∧ sureA o k ∧ ∀ F U : Nat, p.From = (F : Int) → p.To = (U : Int) → sureN o F ∧ sureN o U) ?_ ?_
    · refine T.loopK g.L.length (fun k s => k ≤ g.L.length ∧ s.1 = (k : Int) ∧ s.2.length ≤ k ∧ ∀ p, p ∈ s.2 ↔ ∃ i, i < k ∧ g.L.getD i default = p ∧ sureA o i ∧ ∀ F U : Nat, p.From = (F : Int) → p.To = (U : Int) → sureN o F ∧ sureN o U) ⟨by omega, rfl, by simp, fun p => by simp⟩ ?_
      rintro k ⟨_, l⟩ ⟨hk, rfl, hlen, hm⟩
      dsimp only [chance_Certain_l2] at *
      refine T.cond (fun g1 => ?_) fun g1 => ?_
      · simp at g1
        have hgd : g.L.getD k default = g.L[k] := by simp [List.getD, g1]
        obtain ⟨F, U, hF, hU, hFN, hUN⟩ := hsure _ (List.getElem_mem g1)
        rw [idxM_nat g1, some_bind]
        have hka : k < o.Attacks.length := by omega
        have hsA : sureA o k ↔ sure o.Attacks[k] = true := by
          unfold sureA
          rw [List.getElem?_eq_getElem hka]
          exact ⟨fun ⟨f, h1, h2⟩ => by cases h1; exact h2, fun h => ⟨_, rfl, h⟩⟩
        have hsN : ∀ i (hi : i < o.Nodes.length), sureN o i ↔ sure o.Nodes[i] = true := fun i hi => by
          unfold sureN
          rw [List.getElem?_eq_getElem hi]
          exact ⟨fun ⟨f, h1, h2⟩ => by cases h1; exact h2, fun h => ⟨_, rfl, h⟩⟩
        have hprop : (∀ F' U' : Nat, g.L[k].From = (F' : Int) → g.L[k].To = (U' : Int) → sureN o F' ∧ sureN o U') ↔ sureN o F ∧ sureN o U := by
          constructor
          · intro h; exact h F U hF hU
          · intro h F' U' h1 h2
            have e1 : F' = F := by omega
            have e2 : U' = U := by omega
            rw [e1, e2]; exact h
        have fin : ∀ b : Bool, (b = true ↔ sureA o k ∧ sureN o F ∧ sureN o U) → T ((fun j100 : Bool =>
            bif j100 then
              Option.bind (appM 16 l [g.L[k]]) fun t104 =>
              some (Sum.inr (iadd .i64 (k : Int) 1, t104))
            else
              some (Sum.inr (iadd .i64 (k : Int) 1, l))) b : Option (Sum (List Pr) (Int × List Pr))) (onO (fun q : List Pr => q.length ≤ g.L.length ∧ ∀ p, p ∈ q ↔ ∃ k, k < g.L.length ∧ g.L.getD k default = p ∧ sureA o k ∧ ∀ F U : Nat, p.From = (F : Int) → p.To = (U : Int) → sureN o F ∧ sureN o U) fun s => k < g.L.length ∧ k + 1 ≤ g.L.length ∧ s.1 = ((k + 1 : Nat) : Int) ∧ s.2.length ≤ k + 1 ∧ ∀ p, p ∈ s.2 ↔ ∃ i, i < k + 1 ∧ g.L.getD i default = p ∧ sureA o i ∧ ∀ F U : Nat, p.From = (F : Int) → p.To = (U : Int) → sureN o F ∧ sureN o U) := by
          intro b hb
          dsimp only
          rw [iadd1 (by omega)]
          refine T.cond (fun g2 => ?_) fun g2 => ?_
          · rw [appM_eq (by simp; omega), some_bind]
            refine .ret ⟨g1, by omega, rfl, by simp; omega, fun p => ?_⟩
            rw [List.mem_append, hm, List.mem_singleton]
            have hb' := hb.1 g2
            constructor
            · rintro (⟨i, h1, h2⟩ | rfl)
              · exact ⟨i, by omega, h2⟩
              · exact ⟨k, by omega, hgd, hb'.1, hprop.2 hb'.2⟩
            · rintro ⟨i, h1, h2, h3⟩
              by_cases e : i = k
              · subst e; exact .inr (h2.symm.trans hgd)
              · exact .inl ⟨i, by omega, h2, h3⟩
          · refine .ret ⟨g1, by omega, rfl, by simp only; omega, fun p => ?_⟩
            rw [hm]
            constructor
            · rintro ⟨i, h1, h2⟩; exact ⟨i, by omega, h2⟩
            · rintro ⟨i, h1, h2, h3, h4⟩
              by_cases e : i = k
              · subst e
                rw [← h2, hgd] at h4
                rw [hb.2 ⟨h3, hprop.1 h4⟩] at g2; cases g2
              · exact ⟨i, by omega, h2, h3, h4⟩
        refine T.join ?_
        rw [idxM_nat hka, some_bind, Cert1_plain, some_bind, hF, hU]
        refine T.cond (fun g2 => ?_) fun g2 => fin false ?_
        · rw [idxM_nat (by omega), some_bind, Cert1_plain, some_bind]
          refine T.cond (fun g3 => ?_) fun g3 => fin false ?_
          · rw [idxM_nat (by omega), some_bind, Cert1_plain, some_bind]
            refine fin _ ?_
            rw [hsA, hsN F (by omega), hsN U (by omega), g2, g3]; simp
          · rw [hsN F (by omega), g3]; simp
        · rw [hsA, g2]; simp
      · simp at g1
        have e : k = g.L.length := by omega
        refine .ret ⟨by omega, fun p => ?_⟩
        rw [hm, e]
    · rintro q' ⟨h1, h2⟩
      refine .ret ⟨rfl, hn, h1, hq2, hq1, fun p hp => ?_, fun i j => ?_⟩
      · obtain ⟨k, hk, rfl, _⟩ := (h2 p).1 hp
        have hmem : g.L.getD k default ∈ g.L := by simp [List.getD, hk]
        have := hg.v _ hmem; rw [hn] at this; exact this
      · unfold att
        constructor
        · rintro ⟨p, hp, h3, h4⟩
          obtain ⟨k, hk, h5, h6, h7⟩ := (h2 p).1 hp
          have := h7 i j h3 h4
          exact ⟨this.1, this.2, k, hk, h6, by rw [h5]; exact h3, by rw [h5]; exact h4⟩
        · rintro ⟨h3, h4, k, hk, h5, h6, h7⟩
          refine ⟨_, (h2 _).2 ⟨k, hk, rfl, h5, fun F U h8 h9 => ?_⟩, h6, h7⟩
          have e1 : F = i := by omega
          have e2 : U = j := by omega
          rw [e1, e2]; exact ⟨h3, h4⟩

/-! ### one world -/
theorem J_cert {l : List Fr} : ∀ {c : List Bool → Bool}, (∀ f ∈ l, cert f = true) → J l c = if c (l.map fun f => f.Num != 0) then 1 else 0 := by
  induction l with
  | nil => intro c _; rfl
  | cons f r ih =>
    intro c h
    rw [J, if_pos (h f (by simp)), ih fun g hg => h g (by simp [hg])]
    rfl
theorem cert_of_dn {l : List Fr} (h : ∀ f ∈ l, FrOk f) (hd : dn l ≤ 1) : ∀ f ∈ l, cert f = true := by
  induction l with
  | nil => simp
  | cons f r ih =>
    have hf := h f (by simp)
    have hr : ∀ g ∈ r, FrOk g := fun g hg => h g (by simp [hg])
    have hpos := dn_pos hr
    rw [dn_cons hf] at hd
    cases hc : cert f with
    | true =>
      rw [if_pos hc] at hd
      intro g hg
      rcases List.mem_cons.1 hg with e | e
      · rw [e]; exact hc
      · exact ih hr hd g e
    | false =>
      rw [if_neg (by rw [hc]; simp)] at hd
      unfold cert at hc
      rw [Bool.or_eq_false_iff] at hc
      have h1 : f.Num ≠ 0 := by simpa using hc.1
      have h2 : f.Num ≠ f.Den := by simpa using hc.2
      have h3 := hf.n0; have h4 := hf.n1
      have : 2 ≤ f.Den.toNat := by omega
      have : 2 * 1 ≤ f.Den.toNat * dn r := Nat.mul_le_mul this hpos
      omega
theorem sure_of {f : Fr} (h : FrOk f) (hc : cert f = true) : (f.Num != 0) = sure f := by
  unfold sure
  unfold cert at hc
  have h1 := h.d1
  rw [Bool.or_eq_true, beq_iff_eq, beq_iff_eq] at hc
  rw [Bool.eq_iff_iff, bne_iff_ne, beq_iff_eq]
  omega

open Classical in
theorem jc_one {g : T_api_Graph} {a : Nat} {q : Int} {has : List Bool} : decide ((wn g has).all.testBit a = true ∧ ansP (wn g has) q a) = jc g (setOf [a]) q has := by
  rw [Bool.eq_iff_iff, decide_eq_true_eq]
  unfold jc
  rw [decide_eq_true_eq]
  constructor
  · rintro ⟨h1, h2⟩
    refine ⟨fun i hi => ?_, fun x hx => ?_⟩
    · have : i = a := by simpa using setOf_bit.1 hi
      rw [this]; exact h1
    · have : x = a := by simpa using setOf_bit.1 hx
      rw [this]; exact h2
  · rintro ⟨h1, h2⟩
    have ha1 : (setOf [a]).testBit a = true := setOf_bit.2 (by simp)
    exact ⟨h1 a ha1, h2 a ha1⟩

end Go.Dc
