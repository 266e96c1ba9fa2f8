/- Part P08T.Built of a proof: lemmas. -/
import Derived.Test.YtofcoilhjmkejaaP08TBuild
set_option linter.unusedVariables false
set_option linter.unusedSimpArgs false
set_option linter.unusedSectionVars false
/-! The arguments that the document builds: the list itself. -/
namespace Go.Dc
variable {b : T_api_Base} {L : List T_api_Argument}

theorem Has_plain {l : List T_api_Literal} {x : T_api_Literal} (h : l.length ≤ 4000000000000000) : T (ref01_Has_m l x) fun _ => True := by
  unfold ref01_Has_m
  refine T.bind (P := fun _ => True) (T.count l.length fun k hk => ?_) fun o _ => ?_
  · dsimp only [ref01_Has_l1]
    refine T.cond (fun g => ?_) fun g => .ret trivial
    have hk2 : k < l.length := by have := of_decide_eq_true g; omega
    rw [idxM_nat hk2, some_bind, iadd1 (by omega)]
    exact T.cond (fun _ => .ret trivial) fun _ => .ret ⟨hk2, rfl⟩
  · rcases o with r | u <;> exact .ret trivial

theorem Run_n (h : AsOk b L) : ∀ (n : Nat) (i : Int), 0 ≤ i → i < n → i < L.length → T (ref07_Run_n n b L i) fun r => r.length + 1 ≤ 2 ^ (i.toNat + 1) := by
  intro n
  induction n with
  | zero => intro i h0 h1; exact absurd h1 (by omega)
  | succ n ih =>
    intro i h0 h1 h2
    obtain ⟨hs2, hsi⟩ := (h.2 i h0 h2).subs
    have hr := (h.2 i h0 h2).rule
    have hl40 := h.1
    have pe : 2 ^ (i.toNat + 1) = 2 * 2 ^ i.toNat := by rw [Nat.pow_succ]; omega
    have p1 : 1 ≤ 2 ^ i.toNat := Nat.one_le_two_pow
    have pm : 2 ^ i.toNat ≤ 2 ^ 40 := Nat.pow_le_pow_right (by omega) (by omega)
    rw [pe]
    generalize hM : 2 ^ i.toNat = M at p1 pm
    show T (ref07_Run_b (ref07_Run_n n) b L i) _
    unfold ref07_Run_b
    rw [idx_arg h0 h2, some_bind]
    refine T.joinP (fun _ => True) (fun j _ => ?_) fun kk hkk => ?_
    · refine T.cond (fun _ => ?_) fun _ => .ret (by simp; omega)
      refine T.bind (P := fun q => q.length + 1 ≤ 2 * M) ?_ fun q hq => .ret hq
      refine T.loopK (agt L i).Subs.length (fun k s => k ≤ (agt L i).Subs.length ∧ s.1 = (k : Int) ∧ s.2.length + k ≤ 1 + k * M) ⟨by omega, rfl, by simp⟩ ?_
      rintro k ⟨_, s⟩ ⟨hk, rfl, hl⟩
      dsimp only [ref07_Run_l1] at hl ⊢
      have hk3 : k * M ≤ 2 * M := Nat.mul_le_mul_right _ (by omega)
      rw [idx_arg h0 h2, some_bind]
      refine T.cond (fun g => ?_) fun g => ?_
      · have hk2 : k < (agt L i).Subs.length := by have := of_decide_eq_true g; omega
        obtain ⟨s0, s1⟩ := hsi _ (List.getElem_mem hk2)
        rw [some_bind, idxM_nat hk2, some_bind]
        refine T.bind (ih _ s0 (by omega) (by omega)) fun r hr => ?_
        have hr2 : r.length + 1 ≤ M := Nat.le_trans hr (by rw [← hM]; exact Nat.pow_le_pow_right (by omega) (by omega))
        rw [appM_eq (by omega), some_bind, iadd1 (by omega)]
        exact .ret ⟨hk2, hk2, rfl, by simp only [List.length_append, Nat.succ_mul]; omega⟩
      · have e : k = (agt L i).Subs.length := by have := of_decide_eq_false g; omega
        refine .ret ?_
        show s.length + 1 ≤ 2 * M
        rcases Nat.lt_or_ge k 1 with hh | hh
        · have : k = 0 := by omega
          subst this; simp at hl; omega
        · obtain rfl | rfl : k = 1 ∨ k = 2 := by omega
          · omega
          · omega
    · rw [some_bind]
      refine T.cond (fun g => ?_) fun g => hkk _ trivial
      have := of_decide_eq_true g
      rw [some_bind, idx_rul (by omega) hr, some_bind]
      exact hkk _ trivial
theorem Run_plain (h : AsOk b L) {i : Int} (h0 : 0 ≤ i) (h1 : i < L.length) : T (ref07_Run_m b L i) fun r => r.length ≤ 4000000000000000 := by
  unfold ref07_Run_m
  refine T.recC (fun n => ref07_Run_n_le n _ _ _) (n := i.toNat + 1) ?_
  refine (Run_n h (i.toNat + 1) i h0 (by omega) h1).mono fun r hr => ?_
  have := h.1
  have : 2 ^ (i.toNat + 1) ≤ 2 ^ 40 := Nat.pow_le_pow_right (by omega) (by omega)
  omega
theorem Within_plain (h : AsOk b L) {r : Int} (r0 : 0 ≤ r) (r1 : r < b.Rules.length) {S : List Int} (hS : S.length ≤ 2) (hx : ∀ x ∈ S, 0 ≤ x ∧ x < L.length) : T (ref07_Within_m b L r S) fun _ => True := by
  unfold ref07_Within_m
  rw [idx_rul r0 r1, some_bind]
  refine T.bind (P := fun _ => True) (T.count S.length fun k hk => ?_) fun o _ => ?_
  · dsimp only [ref07_Within_l1]
    refine T.cond (fun g => ?_) fun g => .ret trivial
    have hk2 : k < S.length := by have := of_decide_eq_true g; omega
    obtain ⟨x0, x1⟩ := hx _ (List.getElem_mem hk2)
    rw [idxM_nat hk2]
    simp only [some_bind, letM_eq]
    rw [iadd1 (by omega)]
    have nxt : T (some (Sum.inr (((k + 1 : Nat) : Int))) : Option (Sum (Sum Bool Unit) Int)) (onO (fun _ => True) fun s' => k < S.length ∧ s' = ((k + 1 : Nat) : Int)) := .ret ⟨hk2, rfl⟩
    have D : T (Option.bind (ref07_Defeasible_m b L S[k]) fun t27 => Option.bind (ref07_in_m t27 r) fun t28 => bif t28 then (some (Sum.inl (Sum.inl false)) : Option (Sum (Sum Bool Unit) Int)) else some (Sum.inr (((k + 1 : Nat) : Int)))) (onO (fun _ => True) fun s' => k < S.length ∧ s' = ((k + 1 : Nat) : Int)) := by
      rw [(Defeasible_plain h S[k]).1, some_bind, in_plain (by have := defL_len h S[k]; omega), some_bind]
      exact T.cond (fun _ => .ret trivial) fun _ => nxt
    refine T.cond (fun _ => ?_) fun _ => T.cond (fun _ => D) fun _ => nxt
    refine T.bind (Run_plain h x0 x1) fun q hq => ?_
    refine T.bind (Has_plain hq) fun t _ => T.cond (fun _ => .ret trivial) fun _ => T.cond (fun _ => D) fun _ => nxt
  · rcases o with r | u <;> exact .ret trivial
theorem recent_plain {S : List Int} {n : Int} (hS : S.length ≤ 2) : T (ref07_recent_m S n) fun _ => True := by
  unfold ref07_recent_m
  refine T.bind (P := fun _ => True) (T.count S.length fun k hk => ?_) fun o _ => ?_
  · dsimp only [ref07_recent_l1]
    refine T.cond (fun g => ?_) fun g => .ret trivial
    have hk2 : k < S.length := by have := of_decide_eq_true g; omega
    rw [idxM_nat hk2, some_bind, iadd1 (by omega)]
    exact T.cond (fun _ => .ret trivial) fun _ => .ret ⟨hk2, rfl⟩
  · rcases o with r | u <;> exact .ret trivial

theorem agt_app_lt {a : T_api_Argument} {i : Int} (h0 : 0 ≤ i) (h : i < L.length) : agt (L ++ [a]) i = agt L i := by
  unfold agt
  rw [List.getD_eq_getElem?_getD, List.getD_eq_getElem?_getD, List.getElem?_append_left (by omega)]
theorem agt_app_eq {a : T_api_Argument} : agt (L ++ [a]) (L.length : Int) = a := by
  unfold agt
  rw [List.getD_eq_getElem?_getD]; simp
theorem AsOk.app (h : AsOk b L) {a : T_api_Argument} (ha : AOk b (L.length : Int) a) (hl : L.length + 1 ≤ 40) : AsOk b (L ++ [a]) := by
  refine ⟨by simp; omega, fun i h0 h1 => ?_⟩
  rw [List.length_append, List.length_singleton] at h1
  by_cases e : i = (L.length : Int)
  · subst e; rw [agt_app_eq]; exact ha
  · rw [agt_app_lt h0 (by omega)]; exact h.2 i h0 (by omega)
theorem AsOk.nil : AsOk b [] := ⟨by simp, fun i h0 h1 => by simp at h1; omega⟩

theorem Build_plain (hb : BaseOk b) : T (ref07_Build_m b) fun q => AsOk b q.1 := by
  have h1 := hb.prem; have h2 := hb.rules
  unfold ref07_Build_m
  refine T.bind (Validate_plain hb) fun e _ => T.cond (fun _ => .ret AsOk.nil) fun _ => ?_
  refine T.bind (P := fun q => AsOk b q) ?_ fun L0 hL0 => ?_
  · refine T.loopK b.Premises.length (fun k s => k ≤ b.Premises.length ∧ s.1 = (k : Int) ∧ s.2.length = k ∧ AsOk b s.2) ⟨by omega, rfl, rfl, AsOk.nil⟩ ?_
    rintro k ⟨_, s⟩ ⟨hk, rfl, hl, hs⟩
    dsimp only [ref07_Build_l1] at hl hs ⊢
    refine T.cond (fun g => ?_) fun g => .ret hs
    have hk2 : k < b.Premises.length := by have := of_decide_eq_true g; omega
    rw [idxM_nat hk2, some_bind, appM_eq (by simp; omega), some_bind, letM_eq, iadd1 (by omega)]
    exact .ret ⟨hk2, hk2, rfl, by simp; omega, hs.app (.inl ⟨by rw [hl], by omega, rfl, rfl⟩) (by omega)⟩
  refine T.bind (P := fun o : Sum (List T_api_Argument × Int) (List T_api_Argument) => match o with | .inl r => AsOk b r.1 | .inr l => AsOk b l) ?_ fun o ho => ?_
  rotate_left
  · rcases o with r | l <;> exact .ret ho
  refine T.loopK 50 (fun k s => s.2.1 = ((k + 1 : Nat) : Int) ∧ 0 ≤ s.1 ∧ (k : Int) ≤ s.1 + 1 ∧ s.1 ≤ s.2.2.length ∧ AsOk b s.2.2) ⟨rfl, by simp, by simp, by simp, hL0⟩ ?_
  rintro k ⟨n0, _, L1⟩ ⟨rfl, hn0, hkn, hnl, hL1⟩
  dsimp only [ref07_Build_l2] at hn0 hkn hnl hL1 ⊢
  have hl1 := hL1.1
  refine T.joinP (fun _ => k = 0 ∨ n0 < L1.length) (fun _ hgo => ?_) fun kk hkk => ?_
  rotate_left
  · refine T.cond (fun g => hkk _ (.inl (by have := eq_of_beq g; omega))) fun g => T.cond (fun g2 => hkk _ (.inr (of_decide_eq_true g2))) fun g2 => .ret hL1
  rw [letM_eq]
  refine T.bind (P := fun o : Sum (List T_api_Argument × Int) (List T_api_Argument) => match o with | .inl r => AsOk b r.1 | .inr l => AsOk b l ∧ L1.length ≤ l.length) ?_ fun o ho => ?_
  rotate_left
  · rcases o with r | l
    · exact .ret ho
    · rw [sumK_inr, letM_eq, iadd1 (by omega)]
      refine .ret ⟨by omega, rfl, by simp, ?_, by simp only; omega, ho.1⟩
      show ((k + 1 : Nat) : Int) ≤ (L1.length : Int) + 1
      rcases hgo with hgo | hgo <;> omega
  refine T.loopK b.Rules.length (fun j s => j ≤ b.Rules.length ∧ s.1 = (j : Int) ∧ AsOk b s.2 ∧ L1.length ≤ s.2.length) ⟨by omega, rfl, hL1, Nat.le_refl _⟩ ?_
  rintro j ⟨_, L2⟩ ⟨hj, rfl, hL2, hlen⟩
  dsimp only [ref07_Build_l3] at hL2 hlen ⊢
  refine T.cond (fun g => ?_) fun g => .ret ⟨hL2, hlen⟩
  have hj2 : j < b.Rules.length := by have := of_decide_eq_true g; omega
  rw [idxM_nat hj2, some_bind]
  refine T.bind (choices_plain hlen (by omega) (hb.body _ (List.getElem_mem hj2))) ?_
  rintro R ⟨hR1, hR2⟩
  refine T.bind (P := fun o : Sum (List T_api_Argument × Int) (List T_api_Argument) => match o with | .inl r => AsOk b r.1 | .inr l => AsOk b l ∧ L1.length ≤ l.length) ?_ fun o ho => ?_
  rotate_left
  · rcases o with r | l
    · exact .ret ho
    · rw [sumK_inr, letM_eq, iadd1 (by omega)]
      exact .ret ⟨hj2, hj2, rfl, ho⟩
  refine T.loopK R.length (fun i s => i ≤ R.length ∧ s.1 = (i : Int) ∧ AsOk b s.2 ∧ L1.length ≤ s.2.length) ⟨by omega, rfl, hL2, hlen⟩ ?_
  rintro i ⟨_, L3⟩ ⟨hi, rfl, hL3, hlen3⟩
  dsimp only [ref07_Build_l4] at hL3 hlen3 ⊢
  have hl3 := hL3.1
  refine T.cond (fun g => ?_) fun g => .ret ⟨hL3, hlen3⟩
  have hi2 : i < R.length := by have := of_decide_eq_true g; omega
  obtain ⟨r1, r2⟩ := hR2 _ (List.getElem_mem hi2)
  rw [idxM_nat hi2, some_bind, iadd1 (by omega)]
  have skip : T (some (Sum.inr (((i + 1 : Nat) : Int), L3)) : Option (Sum (Sum (List T_api_Argument × Int) (List T_api_Argument)) (Int × List T_api_Argument))) (onO (fun o : Sum (List T_api_Argument × Int) (List T_api_Argument) => match o with | .inl r => AsOk b r.1 | .inr l => AsOk b l ∧ L1.length ≤ l.length) fun s' => i < R.length ∧ i + 1 ≤ R.length ∧ s'.1 = ((i + 1 : Nat) : Int) ∧ AsOk b s'.2 ∧ L1.length ≤ s'.2.length) := .ret ⟨hi2, hi2, rfl, hL3, hlen3⟩
  have W := Within_plain hL3 (r := (j : Int)) (by omega) (by omega) (S := R[i]) r1 fun x hx => by have := r2 x hx; omega
  refine T.joinP (fun _ => True) (fun _ _ => ?_) fun kk hkk => ?_
  · rw [idxM_nat hj2, some_bind, appM_eq (by simp; omega), some_bind]
    refine T.cond (fun _ => .ret AsOk.nil) fun g2 => ?_
    have := of_decide_eq_false g2
    rw [List.length_append, List.length_singleton] at this
    exact .ret ⟨hi2, hi2, rfl, hL3.app (.inr ⟨rfl, by simp, by simp; omega, r1, fun x hx => by have := r2 x hx; omega⟩) (by omega), by simp; omega⟩
  · refine T.bind (recent_plain r1) fun t _ => T.cond (fun _ => T.cond (fun _ => skip) fun _ => T.cond (fun _ => skip) fun _ => ?_) fun _ => ?_
    · exact T.bind W fun t _ => T.cond (fun _ => skip) fun _ => hkk _ trivial
    · exact T.bind W fun t _ => T.cond (fun _ => skip) fun _ => hkk _ trivial

theorem built_plain {s : T_deliberationkeep_Src} (h : SrcOk s) {n p r : Int} (hn : 1 ≤ n) (hn2 : n ≤ 26) (hp : 0 ≤ p) (hp2 : p ≤ 16) (hr : 1 ≤ r) (hr2 : r ≤ 24) : T (law08_built_m s n p r) fun q => BaseOk q.1 ∧ AsOk q.1 q.2.1 ∧ SrcOk q.2.2 := by
  unfold law08_built_m
  refine T.bind (Base_plain h hn hn2 hp hp2 hr hr2) ?_
  rintro ⟨b, s'⟩ ⟨hb, hs⟩
  refine T.bind (Build_plain hb) fun q hq => T.cond (fun _ => ?_) fun _ => .ret ⟨hb, hq, hs⟩
  have e : ∃ l, slM b.Rules 0 (imin (b.Rules.length : Int) 2) = some l ∧ l.length ≤ 24 ∧ ∀ r ∈ l, r ∈ b.Rules := by
    have h2 : b.Rules.length ≤ 24 := hb.rules
    unfold slM
    rw [if_pos (by unfold imin; split <;> omega)]
    exact ⟨_, rfl, by simp; omega, fun r hr => List.mem_of_mem_take (List.mem_of_mem_drop hr)⟩
  obtain ⟨l, e1, e2, e3⟩ := e
  have hb2 : BaseOk ⟨b.Premises, l, []⟩ := ⟨hb.prem, e2, by simp, fun r hr => hb.body r (e3 r hr)⟩
  rw [e1, some_bind]
  refine T.bind (Build_plain hb2) fun q2 hq2 => .ret ⟨hb2, hq2, hs⟩
end Go.Dc
