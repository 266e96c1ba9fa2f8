/- Part P08R.LawR of a proof: lemmas. -/
import Derived.Test.YtofcoilhjmkejaaP08RBuilt
import Derived.Test.YtofcoilhjmkejaaP08RRanks
import Derived.Test.YtofcoilhjmkejaaP08RAwake
set_option linter.unusedVariables false
set_option linter.unusedSimpArgs false
set_option linter.unusedSectionVars false
/-! The law LiftRanks. -/
namespace Go.Dc
theorem law08_LiftRanks_plain (l : List Int) (at_ : Int) {p0 p1 : Prop} (_ : p0) (_ : p1) : law08_LiftRanks_m l at_ = some true := by
  refine T.eq ?_
  unfold law08_LiftRanks_m
  refine T.bind New_plain fun s hs => ?_
  refine T.bind (built_plain hs (n := 4) (p := 6) (r := 8) (by omega) (by omega) (by omega) (by omega) (by omega) (by omega)) ?_
  rintro ⟨b, L, s'⟩ ⟨hb, hL, _⟩
  dsimp only at hb hL
  have hR := hb.rules
  have hl := hL.1
  refine T.bind (P := fun o => o = Sum.inr ()) ?_ fun o ho => by subst ho; rw [sumK_inr, awake_plain, some_bind]; exact .ret rfl
  refine T.loopK (L.length + 3) (fun k s => s = (k : Int) - 1 ∧ k ≤ L.length + 3) ⟨by simp, by omega⟩ ?_
  rintro k _ ⟨rfl, hk⟩
  dsimp only [law08_LiftRanks_l1]
  rw [iadd64 (x := (L.length : Int)) (y := 1) (by omega) (by omega)]
  refine T.cond (fun g => ?_) fun g => .ret rfl
  have hk2 : k < L.length + 3 := by have := of_decide_eq_true g; omega
  refine T.joinP (fun _ => True) (fun j _ => ?_) fun kk hkk => T.cond (fun _ => hkk _ trivial) fun _ => hkk _ trivial
  rw [(PremiseRanks_plain hL j).1, (PremiseRanks_plain hL j).2, (RuleRanks_plain hL j).1, (RuleRanks_plain hL j).2, (LastRanks_plain hL hR j).1, (LastRanks_plain hL hR j).2, (Assumes_plain hL j).1, (Assumes_plain hL j).2]
  simp only [some_bind, Ints_refl (pr_len hL j), Ints_refl (rl_len hL j), Ints_refl (lt_len hL hR j), Bool.not_true, cond_false, letM_eq, beq_self_eq_true]
  exact .ret ⟨hk2, by rw [iadd64 (by omega) (by omega)]; omega, by omega⟩
end Go.Dc
