/- Part Dc.Conv of a proof: lemmas. -/
import Derived.Test.YtcpkdjlfgfikcaaGreatDoorDcMem7
/-! Slices that stand in structs and in variables become common. -/
namespace Go.Dc
variable {R : Type} {P : Program} {E : Env} {N : Nat} {Γ Γ' : List (Nat × RP)} {Ω Ω' : List OB} {K : KT R} {m : Option R}

def UpL (hv : Value) (χ : RP) : List RP → List RP → Prop
  | [], [] => True
  | φ :: φs, ψ :: ψs => (φ = ψ ∨ (φ = pv hv ∧ ψ = χ)) ∧ UpL hv χ φs ψs
  | _, _ => False
def Up (hv : Value) (χ : RP) (φ ψ : RP) : Prop := (φ = pv hv ∧ ψ = χ) ∨ ∃ φs ψs, φ = ag φs ∧ ψ = ag ψs ∧ UpL hv χ φs ψs

theorem UpL.all {hv : Value} {χ : RP} {F F' : FP} {w : World} (hF : ∀ b, b < w.heap.size → F b → F' b) (hχ : χ.h F' w hv) : ∀ {φs ψs : List RP} {vs : List Value}, UpL hv χ φs ψs → AllP F w φs vs → AllP F' w ψs vs
  | [], [], _, _, h => by match h with | h => exact AllP.mono (.refl hF) h
  | φ :: φs, ψ :: ψs, v :: vs, ⟨h1, h2⟩, ⟨h3, h4⟩ => by
    refine ⟨?_, UpL.all hF hχ h2 h4⟩
    rcases h1 with rfl | ⟨rfl, rfl⟩
    · exact φ.mono (.refl hF) h3
    · rw [show v = hv from h3]; exact hχ
  | _ :: _, _ :: _, [], _, h => h.elim
  | [], _ :: _, _, h, _ => h.elim
  | _ :: _, [], _, h, _ => h.elim

theorem Up.to {hv : Value} {χ φ ψ : RP} {F F' : FP} {w : World} (hF : ∀ b, b < w.heap.size → F b → F' b) (hχ : χ.h F' w hv) {v : Value} (h : Up hv χ φ ψ) (hv' : φ.h F w v) : ψ.h F' w v := by
  rcases h with ⟨rfl, rfl⟩ | ⟨φs, ψs, rfl, rfl, h⟩
  · rw [show v = hv from hv']; exact hχ
  · obtain ⟨cs, rfl, h1⟩ := hv'
    exact ⟨cs, rfl, h.all hF hχ h1⟩

/-- slots that are turned -/
def OkS (hv : Value) (χ : RP) (Γ : List (Nat × RP)) : List (Nat × RP) → Prop
  | [] => True
  | (t, ψ) :: l => (∃ φ, lk Γ t = some φ ∧ Up hv χ φ ψ) ∧ OkS hv χ Γ l

theorem lk_app {l Γ : List (Nat × RP)} {t : Nat} {φ : RP} (h : lk (l ++ Γ) t = some φ) : (t, φ) ∈ l ∨ lk Γ t = some φ := by
  induction l with
  | nil => exact .inr h
  | cons x l ih =>
    obtain ⟨s, ψ⟩ := x
    by_cases e : s = t
    · subst e
      rw [List.cons_append, lk_cons_eq] at h; cases h
      exact .inl (by simp)
    · rw [List.cons_append, lk_cons_ne e] at h
      exact (ih h).imp (fun h => List.mem_cons_of_mem _ h) id

theorem OkS.mem {hv : Value} {χ : RP} : ∀ {l : List (Nat × RP)}, OkS hv χ Γ l → ∀ t ψ, (t, ψ) ∈ l → ∃ φ, lk Γ t = some φ ∧ Up hv χ φ ψ
  | [], _, t, ψ, h => by simp at h
  | (s, χ') :: l, ⟨h1, h2⟩, t, ψ, h => by
    rcases List.mem_cons.1 h with e | e
    · cases e; exact h1
    · exact OkS.mem h2 t ψ e

theorem cvS {hv : Value} {χ : RP} {a : Act} {w : World} {l : List (Nat × RP)} (hs : Sat E N Γ Ω a w) (hχ : χ.h (fr E Ω) w hv) (hl : OkS hv χ Γ l) : Sat E N (l ++ Γ) Ω a w :=
  ⟨hs.sz, hs.df, fun t φ h => by
    rcases lk_app h with h1 | h1
    · obtain ⟨φ', h2, h3⟩ := hl.mem t φ h1
      exact h3.to (fun _ _ h => h) hχ (hs.sl t φ' h2)
    · exact hs.sl t φ h1, hs.ob, hs.nd, hs.bd, hs.kp, hs.fs⟩

/-- variables that are turned -/
def setO (Ω : List OB) : List (Nat × Nat × List RP) → List OB
  | [] => Ω
  | (k, b, ψs) :: l => setO (Ω.set k (oc b ψs)) l
def OkO (hv : Value) (χ : RP) (Ω : List OB) : List (Nat × Nat × List RP) → Prop
  | [] => True
  | (k, b, ψs) :: l => (∃ φs, Ω[k]? = some (oc b φs) ∧ UpL hv χ φs ψs) ∧ OkO hv χ (Ω.set k (oc b ψs)) l

theorem ow_set_same {j : Nat} {o o' : OB} (hj : Ω[j]? = some o) (h : o'.S = o.S) : ow (Ω.set j o') = ow Ω := by
  obtain ⟨A, B, rfl, rfl⟩ := ow_split hj
  rw [set_split, ow_mid, ow_mid, h]

theorem cvO {hv : Value} {χ : RP} {a : Act} {w : World} : ∀ {l : List (Nat × Nat × List RP)} {Ω : List OB}, Sat E N Γ Ω a w → χ.h (fr E Ω) w hv → OkO hv χ Ω l → Sat E N Γ (setO Ω l) a w
  | [], _, hs, _, _ => hs
  | (k, b, ψs) :: l, Ω, hs, hχ, ⟨⟨φs, h1, h2⟩, h3⟩ => by
    have e : ow (Ω.set k (oc b ψs)) = ow Ω := ow_set_same h1 rfl
    have ef : fr E (Ω.set k (oc b ψs)) = fr E Ω := by funext x; simp only [fr, e]
    refine cvO (l := l) (Ω := Ω.set k (oc b ψs)) ?_ (by rw [ef]; exact hχ) h3
    refine ⟨hs.sz, hs.df, by rw [ef]; exact hs.sl, ?_, by rw [e]; exact hs.nd, by rw [e]; exact hs.bd, hs.kp, hs.fs⟩
    rw [ef]
    intro o ho
    rcases List.mem_or_eq_of_mem_set ho with h | rfl
    · exact hs.ob o h
    · obtain ⟨cells, ty, hc, hall⟩ := hs.objAt h1
      exact ⟨cells, ty, hc, h2.all (fun _ _ h => h) hχ hall⟩

section
variable {α : Type} {ρ : Rep α} {j : Nat} {hv : Value} {S : List Nat} {d : List α}
theorem frz_chi (hj : Ω[j]? = some (oa ρ hv S d)) {a : Act} {w : World} (hs : Sat E N Γ Ω a w) (hF : ∀ b ∈ S, E.Fr b) : (slv ρ d).h (fr E (Ω.set j dead)) w hv := by
  refine oa_sl (hs.objAt hj) (fun b hb ⟨h1, h2⟩ => ⟨h1, fun hm => h2 ?_⟩) (fun b hb => ⟨hF b hb, mem_ow_set hj hs.nd hb (by simp [dead])⟩)
  obtain ⟨A, B, rfl, rfl⟩ := ow_split hj
  rw [set_split] at hm
  rw [ow_mid] at hm ⊢
  simp [dead] at hm
  simp only [List.mem_append]
  exact hm.imp id .inr

theorem frzGL (l : List (Nat × RP)) (lo : List (Nat × Nat × List RP)) (hj : Ω[j]? = some (oa ρ hv S d)) (hl : OkS hv (slv ρ d) Γ l) (ho : OkO hv (slv ρ d) (Ω.set j dead) lo) :
    ∀ a w, Sat E N Γ Ω a w → Sat E N (l ++ Γ) (setO (Ω.set j dead) lo) a w := by
  intro a w hs
  have hχ := frz_chi hj hs fun b hb => hs.mine (Sat.notin hj hb)
  exact cvO (cvS (hs.freeze hj) hχ hl) hχ ho

end

/-! ### operations whose guard was not carried out itself -/
section
variable {ops : Array Oper} {rest : List Oper}
theorem yielded_un {a : Act} {w : World} (hs : Sat E N Γ Ω a w) {i t : Nat} (hi : (ops[i]?).bind (·.dst) = some t) (ht : lk Γ t = some (pv undef)) : yielded ops a.tmps i = none := by
  have hv := id (hs.sl t _ ht)
  unfold yielded
  rw [hi]
  simp only [Option.bind_some]
  cases h : a.tmps[t]? with
  | none => rfl
  | some v =>
    have : a.tmps.getD t undef = v := by simp [Array.getD_eq_getD_getElem?, h]
    rw [this] at hv
    rw [show v = undef from hv]
    rfl

theorem s_offU {op : Op} {ty : TypeId} {d : Nat} {pos : String} {aft : Array Edge} {i t : Nat} {b : Bool} (hi : (ops[i]?).bind (·.dst) = some t)
    (ht : lk Γ t = some (pv undef)) (hd : Nat.blt d N = true)
    (h : RefL P E N m ops rest ((d, pv undef) :: Γ) Ω K) : RefL P E N m ops (⟨some d, op, ty, pos, aft, some (i, b)⟩ :: rest) Γ Ω K := by
  intro r hm a w hs
  have hlt : d < N := by simpa [Nat.blt_eq] using hd
  have h1 := h r hm _ _ (hs.put (v := undef) hlt rfl)
  have hw : Region.wanted ⟨some d, op, ty, pos, aft, some (i, b)⟩ (yielded ops a.tmps) = false := by simp [Region.wanted, yielded_un hs hi ht]
  unfold wpList
  rw [if_neg (by simp [hw])]
  exact h1

variable {fl : List Nat} (hok : okDraw ops fl = true) {l : Array Bool} {pend : List (Nat × List Nat)}
include hok
theorem a_offU {i : Nat} {op : Op} {ty : TypeId} {pos : String} {aft : Array Edge} {d g t : Nat} {b : Bool} (hi : ops[i]? = some ⟨some d, op, ty, pos, aft, some (g, b)⟩)
    (hg : (ops[g]?).bind (·.dst) = some t) (ht : lk Γ t = some (pv undef)) (hrd : hasN (Region.ready .any ops l) i = true) (hf : hasN fl i = true)
    (hd : Nat.blt d N = true) (h : RefA P E N m ops fl (l.setIfInBounds i true) ((i, []) :: pend) ((d, pv undef) :: Γ) Ω K) : RefA P E N m ops fl l pend Γ Ω K := by
  intro r hm aV w hs lA aA hc
  obtain ⟨hil, o, ho, hpre⟩ := (ready_iff hc.s1).1 (hasN_iff.1 hrd)
  rw [hi] at ho; cases ho
  have hlt : d < N := by simpa [Nat.blt_eq] using hd
  have hlk : ∀ t, t ∈ (⟨some d, op, ty, pos, aft, some (g, b)⟩ : Oper).looksAt ops → (aV.put (some d) undef).tmps.getD t undef = aV.tmps.getD t undef := fun t ht => put_other fun e => okDraw_self hok hi hf (e ▸ rfl) ht
  have hw : Region.wanted ⟨some d, op, ty, pos, aft, some (g, b)⟩ (yielded ops aV.tmps) = false := by simp [Region.wanted, yielded_un hs hg ht]
  refine h r hm _ w (hs.put (v := undef) hlt rfl) lA aA (hc.take hok hi hf rfl hpre hil ⟨_, d, hi, rfl, .inl ⟨?_, ?_⟩⟩)
  · rw [yield_same (ops := ops) put_size hlk]; exact hw
  · rw [put_self (by rw [hs.sz]; exact hlt)]

end
end Go.Dc
