/- Part P22A.Keep of a proof: lemmas. -/
import Derived.Test.YtmbflfngkcmfeaaDoorLAW22AA2
import Derived.Test.YtmbflfngkcmfeaaDoorDcCut4
set_option linter.unusedVariables false
set_option linter.unusedSimpArgs false
set_option linter.unusedSectionVars false
/-! The source of numbers, in plain words. -/
namespace Go.Dc

theorem Mod_plain {x n : Int} (hn : n ≤ 4611686018427387904) : T (keep_Mod_m x n) fun r => 1 ≤ n → 0 ≤ r ∧ r < n := by
  unfold keep_Mod_m
  refine T.cond (fun h => .ret fun h1 => ?_) fun h => ?_
  · simp at h; omega
  · simp at h
    have h1 : iremM .i64 x n = some (x.tmod n) := by unfold iremM; rw [if_neg (by omega)]; rfl
    have h2 := Int.tmod_lt_of_pos x (show 0 < n by omega)
    have h3 := Int.lt_tmod_of_pos x (show 0 < n by omega)
    rw [h1]
    refine T.bind (T.ret rfl) fun a ha => ?_
    subst ha
    refine T.cond (fun h => .letM (.ret fun _ => ?_)) fun h => .ret fun _ => ?_
    · simp at h; rw [iadd64 (by omega) (by omega)]; omega
    · simp at h; omega

def SrcOk (s : T_deliberationkeep_Src) : Prop := 0 ≤ s.At ∧ s.L.length ≤ 2000

theorem Raw_plain {s : T_deliberationkeep_Src} (h : SrcOk s) : T (keep_Src_Raw_m s) fun r => SrcOk r.2 := by
  unfold keep_Src_Raw_m
  obtain ⟨h1, h2⟩ := h
  refine T.cond (fun h => .ret ⟨h1, h2⟩) fun h => ?_
  simp at h
  rw [iadd64 (by omega) (by omega), isub64 (by omega) (by omega), idxM_eq (by omega) (by omega)]
  exact T.bind (T.ret rfl) fun a _ => .ret ⟨by simp only; omega, h2⟩

theorem N_plain {s : T_deliberationkeep_Src} (h : SrcOk s) {n : Int} (hn : n ≤ 4611686018427387904) : T (keep_Src_N_m s n) fun r => SrcOk r.2 ∧ (1 ≤ n → 0 ≤ r.1 ∧ r.1 < n) := by
  unfold keep_Src_N_m
  exact T.bind (Raw_plain h) fun t ht => T.bind (Mod_plain hn) fun a ha => .ret ⟨ht, ha⟩

theorem New_plain {l : List Int} : T (keep_New_m l) SrcOk := by
  unfold keep_New_m
  have h : imin (l.length : Int) 2000 = (l.length : Int) ∨ imin (l.length : Int) 2000 = 2000 := by unfold imin; split <;> simp
  have h2 : 0 ≤ imin (l.length : Int) 2000 ∧ imin (l.length : Int) 2000 ≤ l.length ∧ imin (l.length : Int) 2000 ≤ 2000 := by unfold imin; split <;> omega
  rw [slM_eq (by omega) (by omega) (by omega)]
  exact T.bind (T.ret rfl) fun a ha => .ret ⟨by simp, by subst ha; simp; omega⟩
theorem Range_plain {s : T_deliberationkeep_Src} (h : SrcOk s) {lo hi : Int} (h0 : -1000000 ≤ lo) (h1 : lo ≤ hi) (h2 : hi ≤ 1000000) : T (keep_Src_Range_m s lo hi) fun r => SrcOk r.2 ∧ lo ≤ r.1 ∧ r.1 ≤ hi := by
  unfold keep_Src_Range_m
  rw [isub64 (by omega) (by omega), iadd64 (by omega) (by omega)]
  refine T.bind (N_plain h (by omega)) fun t ⟨ht, hb⟩ => ?_
  have := hb (by omega)
  rw [iadd64 (by omega) (by omega)]
  exact .letM (.ret ⟨ht, by simp only; omega, by simp only; omega⟩)

def plt (p q : T_api_Pair) : Prop := p.From < q.From ∨ p.From = q.From ∧ p.To < q.To

structure GVal (g : T_api_Graph) : Prop where
  n0 : 0 ≤ g.N
  n1 : g.N ≤ 40
  v : ∀ p ∈ g.L, 0 ≤ p.From ∧ p.From < g.N ∧ 0 ≤ p.To ∧ p.To < g.N
  s : g.L.Pairwise plt

/-- ahead of (a, b) -/
def Ahead (n : Int) (a b : Nat) (l : List T_api_Pair) : Prop :=
  l.length ≤ a * n.toNat + b ∧ (∀ p ∈ l, 0 ≤ p.From ∧ p.From < n ∧ 0 ≤ p.To ∧ p.To < n ∧ (p.From < a ∨ p.From = a ∧ p.To < b)) ∧ l.Pairwise plt

theorem Graph_plain {s : T_deliberationkeep_Src} (h : SrcOk s) {n : Int} (h1 : 1 ≤ n) (h2 : n ≤ 40) : T (net_Graph_m s n) fun r => GVal r.1 ∧ 1 ≤ r.1.N ∧ r.1.N ≤ n ∧ r.1.L.length ≤ 1640 ∧ SrcOk r.2 := by
  unfold net_Graph_m
  refine T.bind (Range_plain h (by omega) h1 (by omega)) fun t ⟨ht, hlo, hhi⟩ => ?_
  refine T.bind (Range_plain ht (by omega) (by omega) (by omega)) fun dn ⟨hdn, hd1, hd2⟩ => ?_
  obtain ⟨N, hN⟩ : ∃ N : Nat, t.1 = (N : Int) := ⟨t.1.toNat, by omega⟩
  refine T.bind (P := fun q : T_deliberationkeep_Src × List T_api_Pair => SrcOk q.1 ∧ Ahead t.1 N 0 q.2) ?_ fun q ⟨hq1, hq2, hq3, hq4⟩ => .ret ⟨⟨by simp only; omega, by simp only; omega, fun p hp => ?_, hq4⟩, hlo, hhi, ?_, hq1⟩
  · refine T.loopK N (fun a s => s.1 = (a : Int) ∧ a ≤ N ∧ SrcOk s.2.1 ∧ Ahead t.1 a 0 s.2.2) ⟨rfl, by omega, hdn, by simp [Ahead]⟩ ?_
    rintro a ⟨_, sr, l⟩ ⟨rfl, ha, hsr, hl⟩
    dsimp only [net_Graph_l1] at *
    refine T.cond (fun g => ?_) fun g => ?_
    · simp at g
      refine T.bind (P := fun q : T_deliberationkeep_Src × List T_api_Pair => SrcOk q.1 ∧ Ahead t.1 a N q.2) ?_ fun q ⟨hq1, hq2, hq3, hq4⟩ => ?_
      · refine T.loopK N (fun b s => s.1 = (b : Int) ∧ b ≤ N ∧ SrcOk s.2.1 ∧ Ahead t.1 a b s.2.2) ⟨rfl, by omega, hsr, hl⟩ ?_
        rintro b ⟨_, sr, l⟩ ⟨rfl, hb, hsr, hl⟩
        dsimp only [net_Graph_l2] at *
        refine T.cond (fun g2 => ?_) fun g2 => ?_
        · simp at g2
          have key : ∀ k : Int, k ≤ 1000 → T ((fun j190 : Int => Option.bind (keep_Src_N_m sr j190) fun t193 =>
              bif t193.1 == 1 then
                Option.bind (appM 16 l [(T_api_Pair.mk (a : Int) (b : Int))]) fun t195 =>
                letM (iadd .i64 (b : Int) 1) fun b197 => some (Sum.inr (b197, t193.2, t195))
              else letM (iadd .i64 (b : Int) 1) fun b198 => some (Sum.inr (b198, t193.2, l))) k : Option (Sum (T_deliberationkeep_Src × List T_api_Pair) (Int × T_deliberationkeep_Src × List T_api_Pair))) (onO (fun r => SrcOk r.1 ∧ Ahead t.1 a N r.2) fun s' => b < N ∧ s'.1 = ((b + 1 : Nat) : Int) ∧ b + 1 ≤ N ∧ SrcOk s'.2.1 ∧ Ahead t.1 a (b + 1) s'.2.2) := by
            intro k hk
            dsimp only
            obtain ⟨l1, l2, l3⟩ := hl
            have hmul : a * t.1.toNat ≤ 40 * 40 := Nat.mul_le_mul (by omega) (by omega)
            refine T.bind (N_plain hsr (by omega)) fun t' ⟨ht', _⟩ => ?_
            rw [iadd1 (by omega)]
            refine T.cond (fun g3 => ?_) fun g3 => ?_
            · rw [appM_eq (by simp; omega), some_bind]
              refine .letM (.ret ⟨by omega, rfl, by omega, ht', by simp; omega, fun p hp => ?_, ?_⟩)
              · rcases List.mem_append.1 hp with hp | hp
                · have := l2 p hp; exact ⟨this.1, this.2.1, this.2.2.1, this.2.2.2.1, by omega⟩
                · rw [List.mem_singleton.1 hp]
                  exact ⟨Int.natCast_nonneg _, (by omega : (a : Int) < t.1), Int.natCast_nonneg _, (by omega : (b : Int) < t.1), .inr ⟨rfl, (by omega : (b : Int) < ((b + 1 : Nat) : Int))⟩⟩
              · refine List.pairwise_append.2 ⟨l3, List.pairwise_singleton _ _, fun p hp q hq => ?_⟩
                rw [List.mem_singleton.1 hq]
                have := (l2 p hp).2.2.2.2
                unfold plt; simp only; omega
            · refine .letM (.ret ⟨by omega, rfl, by omega, ht', by simp only; omega, fun p hp => ?_, l3⟩)
              have := l2 p hp; exact ⟨this.1, this.2.1, this.2.2.1, this.2.2.2.1, by omega⟩
          refine T.join ?_
          exact T.cond (fun _ => key 9 (by omega)) fun _ => key _ (by omega)
        · simp at g2
          have e : b = N := by omega
          exact .ret ⟨hsr, e ▸ hl⟩
      · rw [iadd1 (by omega)]
        refine .letM (.ret ⟨by omega, rfl, by omega, hq1, ?_, fun p hp => ?_, hq4⟩)
        · have e : t.1.toNat = N := by omega
          rw [e] at hq2 ⊢
          rw [Nat.succ_mul]; simpa using hq2
        · have := hq3 p hp; exact ⟨this.1, this.2.1, this.2.2.1, this.2.2.2.1, by omega⟩
    · simp at g
      have e : a = N := by omega
      exact .ret ⟨hsr, e ▸ hl⟩
  · have := hq3 p hp; exact ⟨this.1, this.2.1, this.2.2.1, this.2.2.2.1⟩
  · have : N * t.1.toNat ≤ 40 * 40 := Nat.mul_le_mul (by omega) (by omega)
    simp only; omega


/-! ### graphs and lists that are drawn -/
/-- strictly ascending, below n -/
def Asc (n : Int) (l : List Int) : Prop := l.Pairwise (· < ·) ∧ ∀ x ∈ l, 0 ≤ x ∧ x < n

theorem Asc.snoc {n x : Int} {l : List Int} {i : Int} (h : Asc i l) (h0 : 0 ≤ i) : Asc (i + 1) (l ++ [i]) :=
  ⟨List.pairwise_append.2 ⟨h.1, List.pairwise_singleton _ _, fun a ha b hb => by rw [List.mem_singleton.1 hb]; exact (h.2 a ha).2⟩,
   fun y hy => by
    rcases List.mem_append.1 hy with h1 | h1
    · have := h.2 y h1; omega
    · rw [List.mem_singleton.1 h1]; omega⟩
theorem Asc.up {n m : Int} {l : List Int} (h : Asc n l) (hm : n ≤ m) : Asc m l := ⟨h.1, fun y hy => by have := h.2 y hy; omega⟩

theorem asc_bound {l : List Int} : ∀ {lo n : Int}, lo ≤ n → l.Pairwise (· < ·) → (∀ x ∈ l, lo ≤ x ∧ x < n) → (l.length : Int) ≤ n - lo := by
  induction l with
  | nil => intro lo n h _ _; simp; omega
  | cons x l ih =>
    intro lo n h hp hx
    have h1 := hx x (by simp)
    obtain ⟨h2, h3⟩ := List.pairwise_cons.1 hp
    have := ih (lo := x + 1) (n := n) (by omega) h3 fun y hy => ⟨by have := h2 y hy; omega, (hx y (by simp [hy])).2⟩
    simp; omega
theorem Asc.len {n : Nat} {l : List Int} (h : Asc n l) : l.length ≤ n := by
  have := asc_bound (lo := 0) (n := n) (by omega) h.1 h.2; omega

end Go.Dc
