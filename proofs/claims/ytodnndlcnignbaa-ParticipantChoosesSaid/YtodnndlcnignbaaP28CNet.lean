/- Part P28C.Net of a proof: lemmas. -/
import Derived.Test.YtodnndlcnignbaaP28CKeep
import Derived.Test.YtodnndlcnignbaaP28CApply
set_option linter.unusedVariables false
set_option linter.unusedSimpArgs false
/-! Graphs that are drawn; New. -/
namespace Go.Dc

theorem Range_plain {s : T_deliberationkeep_Src} (h : SrcOk s) {lo hi : Int} (h0 : -1000000 ≤ lo) (h1 : lo ≤ hi) (h2 : hi ≤ 1000000) : T (keep_Src_Range_m s lo hi) fun r => SrcOk r.2 ∧ lo ≤ r.1 ∧ r.1 ≤ hi := by
  unfold keep_Src_Range_m
  rw [isub64 (by omega) (by omega), iadd64 (by omega) (by omega)]
  refine T.bind (N_plain h (by omega)) fun t ⟨ht, hb⟩ => ?_
  have := hb (by omega)
  rw [iadd64 (by omega) (by omega)]
  exact .letM (.ret ⟨ht, by simp only; omega, by simp only; omega⟩)

def plt (p q : T_api_Pair) : Prop := p.From < q.From ∨ p.From = q.From ∧ p.To < q.To

structure GVal (g : T_api_Graph) : Prop where
  n0 : 0 ≤ g.N
  n1 : g.N ≤ 40
  v : ∀ p ∈ g.L, 0 ≤ p.From ∧ p.From < g.N ∧ 0 ≤ p.To ∧ p.To < g.N
  s : g.L.Pairwise plt

/-- ahead of (a, b) -/
def Ahead (n : Int) (a b : Nat) (l : List T_api_Pair) : Prop :=
  l.length ≤ a * n.toNat + b ∧ (∀ p ∈ l, 0 ≤ p.From ∧ p.From < n ∧ 0 ≤ p.To ∧ p.To < n ∧ (p.From < a ∨ p.From = a ∧ p.To < b)) ∧ l.Pairwise plt

theorem Graph_plain {s : T_deliberationkeep_Src} (h : SrcOk s) {n : Int} (h1 : 1 ≤ n) (h2 : n ≤ 40) : T (net_Graph_m s n) fun r => GVal r.1 ∧ 1 ≤ r.1.N ∧ r.1.N ≤ n ∧ r.1.L.length ≤ 1640 ∧ SrcOk r.2 := by
  unfold net_Graph_m
  refine T.bind (Range_plain h (by omega) h1 (by omega)) fun t ⟨ht, hlo, hhi⟩ => ?_
  refine T.bind (Range_plain ht (by omega) (by omega) (by omega)) fun dn ⟨hdn, hd1, hd2⟩ => ?_
  obtain ⟨N, hN⟩ : ∃ N : Nat, t.1 = (N : Int) := ⟨t.1.toNat, by omega⟩
  refine T.bind (P := fun q : T_deliberationkeep_Src × List T_api_Pair => SrcOk q.1 ∧ Ahead t.1 N 0 q.2) ?_ fun q ⟨hq1, hq2, hq3, hq4⟩ => .ret ⟨⟨by simp only; omega, by simp only; omega, fun p hp => ?_, hq4⟩, hlo, hhi, ?_, hq1⟩
  · refine T.loopK N (fun a s => s.1 = (a : Int) ∧ a ≤ N ∧ SrcOk s.2.1 ∧ Ahead t.1 a 0 s.2.2) ⟨rfl, by omega, hdn, by simp [Ahead]⟩ ?_
    rintro a ⟨_, sr, l⟩ ⟨rfl, ha, hsr, hl⟩
    dsimp only [net_Graph_l1] at *
    refine T.cond (fun g => ?_) fun g => ?_
    · simp at g
      refine T.bind (P := fun q : T_deliberationkeep_Src × List T_api_Pair => SrcOk q.1 ∧ Ahead t.1 a N q.2) ?_ fun q ⟨hq1, hq2, hq3, hq4⟩ => ?_
      · refine T.loopK N (fun b s => s.1 = (b : Int) ∧ b ≤ N ∧ SrcOk s.2.1 ∧ Ahead t.1 a b s.2.2) ⟨rfl, by omega, hsr, hl⟩ ?_
        rintro b ⟨_, sr, l⟩ ⟨rfl, hb, hsr, hl⟩
        dsimp only [net_Graph_l2] at *
        refine T.cond (fun g2 => ?_) fun g2 => ?_
        · simp at g2
          have key : ∀ k : Int, k ≤ 1000 → T ((fun j190 : Int => Option.bind (keep_Src_N_m sr j190) fun t193 =>
              bif t193.1 == 1 then
                Option.bind (appM 16 l [(T_api_Pair.mk (a : Int) (b : Int))]) fun t195 =>
                letM (iadd .i64 (b : Int) 1) fun b197 => some (Sum.inr (b197, t193.2, t195))
              else letM (iadd .i64 (b : Int) 1) fun b198 => some (Sum.inr (b198, t193.2, l))) k : Option (Sum (T_deliberationkeep_Src × List T_api_Pair) (Int × T_deliberationkeep_Src × List T_api_Pair))) (onO (fun r => SrcOk r.1 ∧ Ahead t.1 a N r.2) fun s' => b < N ∧ s'.1 = ((b + 1 : Nat) : Int) ∧ b + 1 ≤ N ∧ SrcOk s'.2.1 ∧ Ahead t.1 a (b + 1) s'.2.2) := by
            intro k hk
            dsimp only
            obtain ⟨l1, l2, l3⟩ := hl
            have hmul : a * t.1.toNat ≤ 40 * 40 := Nat.mul_le_mul (by omega) (by omega)
            refine T.bind (N_plain hsr (by omega)) fun t' ⟨ht', _⟩ => ?_
            rw [iadd1 (by omega)]
            refine T.cond (fun g3 => ?_) fun g3 => ?_
            · rw [appM_eq (by simp; omega), some_bind]
              refine .letM (.ret ⟨by omega, rfl, by omega, ht', by simp; omega, fun p hp => ?_, ?_⟩)
              · rcases List.mem_append.1 hp with hp | hp
                · have := l2 p hp; exact ⟨this.1, this.2.1, this.2.2.1, this.2.2.2.1, by omega⟩
                · rw [List.mem_singleton.1 hp]
                  exact ⟨Int.natCast_nonneg _, (by omega : (a : Int) < t.1), Int.natCast_nonneg _, (by omega : (b : Int) < t.1), .inr ⟨rfl, (by omega : (b : Int) < ((b + 1 : Nat) : Int))⟩⟩
              · refine List.pairwise_append.2 ⟨l3, List.pairwise_singleton _ _, fun p hp q hq => ?_⟩
                rw [List.mem_singleton.1 hq]
                have := (l2 p hp).2.2.2.2
                unfold plt; simp only; omega
            · refine .letM (.ret ⟨by omega, rfl, by omega, ht', by simp only; omega, fun p hp => ?_, l3⟩)
              have := l2 p hp; exact ⟨this.1, this.2.1, this.2.2.1, this.2.2.2.1, by omega⟩
          refine T.join ?_
          exact T.cond (fun _ => key 9 (by omega)) fun _ => key _ (by omega)
        · simp at g2
          have e : b = N := by omega
          exact .ret ⟨hsr, e ▸ hl⟩
      · rw [iadd1 (by omega)]
        refine .letM (.ret ⟨by omega, rfl, by omega, hq1, ?_, fun p hp => ?_, hq4⟩)
        · have e : t.1.toNat = N := by omega
          rw [e] at hq2 ⊢
          rw [Nat.succ_mul]; simpa using hq2
        · have := hq3 p hp; exact ⟨this.1, this.2.1, this.2.2.1, this.2.2.2.1, by omega⟩
    · simp at g
      have e : a = N := by omega
      exact .ret ⟨hsr, e ▸ hl⟩
  · have := hq3 p hp; exact ⟨this.1, this.2.1, this.2.2.1, this.2.2.2.1⟩
  · have : N * t.1.toNat ≤ 40 * 40 := Nat.mul_le_mul (by omega) (by omega)
    simp only; omega

theorem pw {l : List T_api_Pair} (h : l.Pairwise plt) {i : Nat} (h0 : 1 ≤ i) (hi : i < l.length) : plt (l[i - 1]'(by omega)) l[i] :=
  List.pairwise_iff_getElem.1 h (i - 1) i (by omega) hi (by omega)

theorem rValidate_plain {g : T_api_Graph} (h : GVal g) (hl : g.L.length ≤ 1000000) : ref10_Validate_m g = some 0 := by
  have h0 := h.n0; have h1 := h.n1
  unfold ref10_Validate_m
  rw [decide_eq_false (by omega : ¬ g.N < 0), decide_eq_false (by omega : ¬ g.N > 40)]
  simp only [cond_false]
  have : loopC (ref10_Validate_l1 g) 0 = some (.inr ()) := by
    refine T.eq (T.loopK g.L.length (fun i s => s = (i : Int) ∧ i ≤ g.L.length) ⟨rfl, by omega⟩ ?_)
    rintro i _ ⟨rfl, hi⟩
    dsimp only [ref10_Validate_l1]
    refine T.cond (fun g1 => ?_) fun g1 => .ret rfl
    simp at g1
    have hv := h.v _ (List.getElem_mem g1)
    rw [idxM_nat g1, some_bind, iadd1 (by omega)]
    refine T.cond (fun g2 => by simp at g2; omega) fun _ => T.cond (fun g2 => by simp at g2; omega) fun _ => T.cond (fun g2 => by simp at g2; omega) fun _ => T.cond (fun g2 => by simp at g2; omega) fun _ => ?_
    refine T.cond (fun g3 => ?_) fun g3 => .letM (.ret ⟨g1, rfl, by omega⟩)
    simp at g3
    have hp := pw h.s g3 g1
    rw [isub1 (by omega), show (i : Int) - 1 = ((i - 1 : Nat) : Int) from by omega, idxM_nat (by omega), some_bind]
    unfold plt at hp
    refine T.cond (fun g4 => by simp at g4; omega) fun _ => ?_
    rw [some_bind]
    refine T.cond (fun g5 => ?_) fun _ => .letM (.ret ⟨g1, rfl, by omega⟩)
    simp at g5
    rw [some_bind]
    refine T.cond (fun g6 => by simp at g6; omega) fun _ => .letM (.ret ⟨g1, rfl, by omega⟩)
  rw [this]; rfl

theorem cmp_plain {x y : Int} : cmp_Compare_int_m x y = some (if x < y then -1 else if y < x then 1 else 0) := by
  unfold cmp_Compare_int_m cmp_isNaN_int_m
  simp only [some_bind, bne_self_eq_false, cond_false]
  by_cases h : x < y
  · simp [h]
  · by_cases h2 : y < x <;> simp [h, h2]

theorem or_plain {a b : Int} : cmp_Or_int_m [a, b] = some (if a = 0 then b else a) := by
  have h0 : cmp_Or_int_l1 [a, b] 0 = some (bif a != 0 then .inl (.inl a) else .inr 1) := by
    unfold cmp_Or_int_l1
    rw [show decide ((0 : Int) < (([a, b] : List Int).length : Int)) = true from rfl, show idxM [a, b] 0 = some a from rfl, iadd64 (by omega) (by omega)]
    simp only [cond_true, some_bind]
    cases a != 0 <;> rfl
  have h1 : cmp_Or_int_l1 [a, b] 1 = some (bif b != 0 then .inl (.inl b) else .inr 2) := by
    unfold cmp_Or_int_l1
    rw [show decide ((1 : Int) < (([a, b] : List Int).length : Int)) = true from rfl, show idxM [a, b] 1 = some b from rfl, iadd64 (by omega) (by omega)]
    simp only [cond_true, some_bind]
    cases b != 0 <;> rfl
  have h2 : cmp_Or_int_l1 [a, b] 2 = some (.inl (.inr ())) := by
    unfold cmp_Or_int_l1
    rw [show decide ((2 : Int) < (([a, b] : List Int).length : Int)) = false from rfl]; rfl
  unfold cmp_Or_int_m
  rw [loopC_eq, h0]
  by_cases ha : a = 0
  · subst ha
    rw [if_pos rfl, show ((0 : Int) != 0) = false from rfl]
    simp only [cond_false, Option.bind_some]
    rw [loopC_eq, h1]
    by_cases hb : b = 0
    · subst hb
      rw [show ((0 : Int) != 0) = false from rfl]
      simp only [cond_false, Option.bind_some]
      rw [loopC_eq, h2]; rfl
    · rw [show (b != 0) = true from by simp [hb]]; rfl
  · rw [if_neg ha, show (a != 0) = true from by simp [ha]]; rfl

theorem pcmp_plain {p q : T_api_Pair} (h : plt p q) : graph_compare_m p q = some (-1) := by
  unfold graph_compare_m
  rw [cmp_plain, some_bind, cmp_plain, some_bind, or_plain, some_bind]
  unfold plt at h
  congr 1
  rcases h with h | ⟨h1, h2⟩
  · simp [h]
  · rw [h1]; simp [h2]

theorem Validate_plain {g : T_api_Graph} (h : GVal g) (hl : g.L.length ≤ 1000000) : graph_Validate_m g = some 0 := by
  have h0 := h.n0; have h1 := h.n1
  unfold graph_Validate_m
  rw [decide_eq_false (by omega : ¬ g.N < 0), decide_eq_false (by omega : ¬ g.N > 40)]
  simp only [cond_false]
  have : loopC (graph_Validate_l1 g) 0 = some (.inr ()) := by
    refine T.eq (T.loopK g.L.length (fun i s => s = (i : Int) ∧ i ≤ g.L.length) ⟨rfl, by omega⟩ ?_)
    rintro i _ ⟨rfl, hi⟩
    dsimp only [graph_Validate_l1]
    refine T.cond (fun g1 => ?_) fun g1 => .ret rfl
    simp at g1
    have hv := h.v _ (List.getElem_mem g1)
    rw [idxM_nat g1, some_bind, iadd1 (by omega)]
    have m1 : 0 ≤ imin g.L[i].From g.L[i].To := by unfold imin; split <;> omega
    have m2 : imax g.L[i].From g.L[i].To < g.N := by unfold imax; split <;> omega
    refine T.cond (fun g2 => by simp at g2; omega) fun _ => T.cond (fun g2 => by simp at g2; omega) fun _ => ?_
    refine T.cond (fun g3 => ?_) fun g3 => .ret ⟨g1, rfl, by omega⟩
    simp at g3
    have hp := pw h.s g3 g1
    rw [isub1 (by omega), show (i : Int) - 1 = ((i - 1 : Nat) : Int) from by omega, idxM_nat (by omega), some_bind, pcmp_plain hp, some_bind]
    exact T.cond (fun g4 => by simp at g4) fun _ => .ret ⟨g1, rfl, by omega⟩
  rw [this]; rfl

theorem GVal.ok {g : T_api_Graph} (h : GVal g) : GOk g := ⟨h.v⟩

def begin (g : T_api_Graph) (root : Int) (lim : T_arr2_3) : Dg := ⟨g, root, lim, [⟨1, 1, root, 0⟩]⟩

theorem begin_dlg {g : T_api_Graph} (h : GVal g) (hl : g.L.length ≤ 10000) {root : Int} (h0 : 0 ≤ root) (h1 : root < g.N) {lim : T_arr2_3} (hlim : 1 ≤ lim.i0 ∧ lim.i0 ≤ 200 ∧ 0 ≤ lim.i1 ∧ lim.i1 ≤ 200) : Dlg (begin g root lim) where
  n1 := by simp [begin]
  n2 := by simp [begin]
  N1 := h.n1
  Ln := hl
  root0 := h0
  root1 := h1
  lim := hlim
  hd := rfl
  mo := fun i h1 h2 => by simp [begin] at h2; omega

theorem rNew_plain {g : T_api_Graph} (h : GVal g) (hl : g.L.length ≤ 10000) {root : Int} (h0 : 0 ≤ root) (h1 : root < g.N) {lim : T_arr2_3} (hlim : 1 ≤ lim.i0 ∧ lim.i0 ≤ 200 ∧ 0 ≤ lim.i1 ∧ lim.i1 ≤ 200) :
    ref27_New_m g root lim = some (begin g root lim, 0) := by
  unfold ref27_New_m
  rw [rValidate_plain h (by omega), some_bind, decide_eq_false (by omega : ¬ root < 0), decide_eq_false (by omega : ¬ root ≥ g.N), decide_eq_false (by omega : ¬ lim.i0 < 1), decide_eq_false (by omega : ¬ lim.i0 > 200),
    decide_eq_false (by omega : ¬ lim.i1 < 0), decide_eq_false (by omega : ¬ lim.i1 > 200)]
  rfl
end Go.Dc
