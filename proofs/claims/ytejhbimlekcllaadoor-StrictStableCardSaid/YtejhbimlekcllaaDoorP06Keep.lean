/- Part P06.Keep of a proof: lemmas. -/
import Derived.Test.YtejhbimlekcllaaDoorLAW06DA2
import Derived.Test.YtejhbimlekcllaaDoorDcCut4
set_option linter.unusedVariables false
set_option linter.unusedSimpArgs false
set_option linter.unusedSectionVars false
/-! The source of numbers, in plain words. -/
namespace Go.Dc

theorem Mod_plain {x n : Int} (hn : n ≤ 4611686018427387904) : T (keep_Mod_m x n) fun r => 1 ≤ n → 0 ≤ r ∧ r < n := by
  unfold keep_Mod_m
  refine T.cond (fun h => .ret fun h1 => ?_) fun h => ?_
  · simp at h; omega
  · simp at h
    have h1 : iremM .i64 x n = some (x.tmod n) := by unfold iremM; rw [if_neg (by omega)]; rfl
    have h2 := Int.tmod_lt_of_pos x (show 0 < n by omega)
    have h3 := Int.lt_tmod_of_pos x (show 0 < n by omega)
    rw [h1]
    refine T.bind (T.ret rfl) fun a ha => ?_
    subst ha
    refine T.cond (fun h => .letM (.ret fun _ => ?_)) fun h => .ret fun _ => ?_
    · simp at h; rw [iadd64 (by omega) (by omega)]; omega
    · simp at h; omega

def SrcOk (s : T_deliberationkeep_Src) : Prop := 0 ≤ s.At ∧ s.L.length ≤ 2000

theorem Raw_plain {s : T_deliberationkeep_Src} (h : SrcOk s) : T (keep_Src_Raw_m s) fun r => SrcOk r.2 := by
  unfold keep_Src_Raw_m
  obtain ⟨h1, h2⟩ := h
  refine T.cond (fun h => .ret ⟨h1, h2⟩) fun h => ?_
  simp at h
  rw [iadd64 (by omega) (by omega), isub64 (by omega) (by omega), idxM_eq (by omega) (by omega)]
  exact T.bind (T.ret rfl) fun a _ => .ret ⟨by simp only; omega, h2⟩

theorem N_plain {s : T_deliberationkeep_Src} (h : SrcOk s) {n : Int} (hn : n ≤ 4611686018427387904) : T (keep_Src_N_m s n) fun r => SrcOk r.2 ∧ (1 ≤ n → 0 ≤ r.1 ∧ r.1 < n) := by
  unfold keep_Src_N_m
  exact T.bind (Raw_plain h) fun t ht => T.bind (Mod_plain hn) fun a ha => .ret ⟨ht, ha⟩

theorem New_plain {l : List Int} : T (keep_New_m l) SrcOk := by
  unfold keep_New_m
  have h : imin (l.length : Int) 2000 = (l.length : Int) ∨ imin (l.length : Int) 2000 = 2000 := by unfold imin; split <;> simp
  have h2 : 0 ≤ imin (l.length : Int) 2000 ∧ imin (l.length : Int) 2000 ≤ l.length ∧ imin (l.length : Int) 2000 ≤ 2000 := by unfold imin; split <;> omega
  rw [slM_eq (by omega) (by omega) (by omega)]
  exact T.bind (T.ret rfl) fun a ha => .ret ⟨by simp, by subst ha; simp; omega⟩
end Go.Dc
