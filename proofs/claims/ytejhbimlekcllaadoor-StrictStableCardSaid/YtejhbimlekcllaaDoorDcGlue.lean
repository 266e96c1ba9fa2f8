/- Part Dc.Glue of a proof: lemmas. -/
import Derived.Test.YtejhbimlekcllaaDoorDcCall
/-! What the printed proofs use. -/
namespace Go.Dc

variable {R S : Type} {P : Program} {E : Env} {N : Nat} {Γ Γ' : List (Nat × RP)} {Ω Ω' : List OB} {K : KT R} {m : Option R} {ops : Array Oper}

theorem pnone {Φ : R → Prop} : RefG (none : Option R) Φ := fun _ h => by cases h

theorem Sat.pick {a : Act} {w : World} {is : List Nat} (hs : Sat E N Γ Ω a w) (h : Picks Ω is Ω') : Sat E N Γ Ω' a w := by
  have hperm := h.perm
  have hmem : ∀ b, b ∈ ow Ω' → b ∈ ow Ω := fun b hb => hperm.mem_iff.2 (List.mem_append_right _ hb)
  have hnd := (List.nodup_append.1 ((hperm.nodup_iff).1 hs.nd)).2.1
  have hf : ∀ b, b < w.heap.size → fr E Ω b → fr E Ω' b := fun _ _ ⟨h1, h2⟩ => ⟨h1, fun hb => h2 (hmem _ hb)⟩
  refine ⟨hs.sz, hs.df, fun t φ ht => φ.mono (.refl hf) (hs.sl t φ ht), fun o ho => ?_, hnd, fun b hb => hs.bd b (hmem b hb), hs.kp, hs.fs⟩
  rcases h.os o ho with h1 | h1
  · exact o.mono (.refl hf) (fun _ _ => rfl) (hs.ob o h1)
  · rw [h1]; trivial

/-- what is known is weakened to Γ', and the objects `is` are kept -/
theorem weak (is : List Nat) (hΓ : SubΓ Γ Γ') (hΩ : Picks Ω is Ω') : ∀ a w, Sat E N Γ Ω a w → Sat E N Γ' Ω' a w := fun _ _ hs => (hs.weak hΓ.lk).pick hΩ

/-! ### joins -/
theorem ref_join {X : Type} {c : Code} {f : S → Option R} {g : (S → Option R) → Option R} (Γj : S → X → List (Nat × RP)) (Ωj : S → X → List OB)
    (h : ∀ k : S → Option R, (∀ s x, RefE E N .normal (k s) (Γj s x) (Ωj s x) K) → Ref P E N (g k) c Γ Ω K)
    (hB : ∀ s x, RefE E N .normal (f s) (Γj s x) (Ωj s x) K) : Ref P E N (joinM f g) c Γ Ω K := h f hB

/-! ### loops in a block -/
section
variable {σ A B X Y : Type}
def loopBK (E : Env) (N : Nat) (id : Nat) (Γl : σ → X → List (Nat × RP)) (Ωl : σ → X → List OB) (Γb : B → Y → List (Nat × RP)) (Ωb : B → Y → List OB) : KT (Sum B σ) :=
  fun o e a w => match o with
    | .inr s' => e = .normal ∧ ∃ x', Sat E N (Γl s' x') (Ωl s' x') a w
    | .inl q => e = .exit id ∧ ∃ y, Sat E N (Γb q y) (Ωb q y) a w

def sumK (kr : A → Option R) (kb : B → Option R) : Sum A B → Option R
  | .inl a => kr a
  | .inr b => kb b

def loopXK (E : Env) (N : Nat) (id : Nat) (Γl : σ → X → List (Nat × RP)) (Ωl : σ → X → List OB) (Γb : B → Y → List (Nat × RP)) (Ωb : B → Y → List OB) (kr : A → Option R) (K : KT R) : KT (Sum (Sum A B) σ) :=
  fun o e a w => match o with
    | .inr s' => e = .normal ∧ ∃ x', Sat E N (Γl s' x') (Ωl s' x') a w
    | .inl (.inr q) => e = .exit id ∧ ∃ y, Sat E N (Γb q y) (Ωb q y) a w
    | .inl (.inl q) => e ≠ .normal ∧ ∀ r, kr q = some r → blockK id K r e a w

variable {id : Nat} {body : Code} {Γl : σ → X → List (Nat × RP)} {Ωl : σ → X → List OB} {Γb : B → Y → List (Nat × RP)} {Ωb : B → Y → List OB} {k : B → Option R} {kr : A → Option R}

theorem ref_loopX {f : σ → Option (Sum (Sum A B) σ)} (s0 : σ) (x0 : X) (h0 : ∀ a w, Sat E N Γ Ω a w → Sat E N (Γl s0 x0) (Ωl s0 x0) a w)
    (round : ∀ s x, Ref P E N (f s) body (Γl s x) (Ωl s x) (loopXK E N id Γl Ωl Γb Ωb kr K))
    (hB : ∀ q y, RefE E N .normal (k q) (Γb q y) (Ωb q y) K) : Ref P E N ((loopC f s0).bind (sumK kr k)) (.block id (.loop body)) Γ Ω K := by
  refine ref_block (ref_loop (Γl := Γl) (Ωl := Ωl) s0 x0 h0 fun s x r hr a w hs => wp_mono (round s x r hr a w hs) ?_)
  intro e a w h
  match r, h with
  | .inr s', h => exact h
  | .inl (.inl q), h => exact h
  | .inl (.inr q), ⟨h1, y, h2⟩ =>
    subst h1
    refine ⟨by simp, fun r hr => ?_⟩
    show (if id = id then _ else _)
    rw [if_pos rfl]
    exact hB q y r hr a w h2

theorem ref_loopB {f : σ → Option (Sum B σ)} (s0 : σ) (x0 : X) (h0 : ∀ a w, Sat E N Γ Ω a w → Sat E N (Γl s0 x0) (Ωl s0 x0) a w)
    (round : ∀ s x, Ref P E N (f s) body (Γl s x) (Ωl s x) (loopBK E N id Γl Ωl Γb Ωb))
    (hB : ∀ q y, RefE E N .normal (k q) (Γb q y) (Ωb q y) K) : Ref P E N ((loopC f s0).bind k) (.block id (.loop body)) Γ Ω K := by
  refine ref_block (ref_loop (Γl := Γl) (Ωl := Ωl) s0 x0 h0 fun s x r hr a w hs => wp_mono (round s x r hr a w hs) ?_)
  intro e a w h
  match r, h with
  | .inr s', h => exact h
  | .inl q, ⟨h1, y, h2⟩ =>
    subst h1
    refine ⟨by simp, fun r hr => ?_⟩
    show (if id = id then _ else _)
    rw [if_pos rfl]
    exact hB q y r hr a w h2

theorem brkB {q : B} (y : Y) (h : ∀ a w, Sat E N Γ Ω a w → Sat E N (Γb q y) (Ωb q y) a w) : RefE E N (.exit id) (some (Sum.inl q)) Γ Ω (loopBK E N id Γl Ωl Γb Ωb) := by
  intro r hr a w hs; cases hr; exact ⟨rfl, y, h a w hs⟩
theorem goB {s' : σ} (x' : X) (h : ∀ a w, Sat E N Γ Ω a w → Sat E N (Γl s' x') (Ωl s' x') a w) : RefE E N .normal (some (Sum.inr s')) Γ Ω (loopBK E N id Γl Ωl Γb Ωb) := by
  intro r hr a w hs; cases hr; exact ⟨rfl, x', h a w hs⟩
theorem brkX {q : B} (y : Y) (h : ∀ a w, Sat E N Γ Ω a w → Sat E N (Γb q y) (Ωb q y) a w) : RefE E N (.exit id) (some (Sum.inl (Sum.inr q))) Γ Ω (loopXK E N id Γl Ωl Γb Ωb kr K) := by
  intro r hr a w hs; cases hr; exact ⟨rfl, y, h a w hs⟩
theorem goX {s' : σ} (x' : X) (h : ∀ a w, Sat E N Γ Ω a w → Sat E N (Γl s' x') (Ωl s' x') a w) : RefE E N .normal (some (Sum.inr s')) Γ Ω (loopXK E N id Γl Ωl Γb Ωb kr K) := by
  intro r hr a w hs; cases hr; exact ⟨rfl, x', h a w hs⟩
theorem retX {q : A} (h : RefE E N .ret (kr q) Γ Ω (blockK id K)) : RefE E N .ret (some (Sum.inl (Sum.inl q))) Γ Ω (loopXK E N id Γl Ωl Γb Ωb kr K) := by
  intro r hr a w hs; cases hr; exact ⟨by simp, fun r hr => h r hr a w hs⟩
end

/-! ### results -/
section
variable {X : Type} {fn : Func} {res : R → X → List RP} {Ω1 : R → X → List OB} {r : R} {e : Exit}
theorem finN (he : e = .ret ∨ e = .normal) (x : X) (is : List Nat) {φs : List RP} (hsub : Picks Ω is (Ω1 r x)) (hres : res r x = φs)
    (h : ∀ a w, Sat E N Γ Ω a w → ∃ v, (results fn a.tmps).run P w = .ok v w ∧ resH (fr E Ω) w φs v) : RefE E N e (some r) Γ Ω (fnK P fn E N res Ω1) := by
  intro r' hr a w hs; cases hr
  obtain ⟨v, hv, hφ⟩ := h a w hs
  have hmem : ∀ b, b ∈ ow (Ω1 r x) → b ∈ ow Ω := fun b hb => hsub.perm.mem_iff.2 (List.mem_append_right _ hb)
  have hag : Ag (fr E Ω) (fr E (Ω1 r x)) w w := .refl fun _ _ ⟨h1, h2⟩ => ⟨h1, fun hb => h2 (hmem _ hb)⟩
  refine ⟨he, x, (hs.pick hsub).weak (fun t φ h => by simp [lk] at h), v, hv, ?_⟩
  rw [hres]
  match φs, hφ with
  | [φ], hφ => exact φ.mono hag hφ
  | [], ⟨vs, e, h⟩ => exact ⟨vs, e, h.mono hag⟩
  | _ :: _ :: _, ⟨vs, e, h⟩ => exact ⟨vs, e, h.mono hag⟩

theorem fin1 (he : e = .ret ∨ e = .normal) (x : X) (is : List Nat) {a1 : ResultVar} {φ : RP} (hrs : fn.results = #[a1]) (hsub : Picks Ω is (Ω1 r x)) (hres : res r x = [φ]) (h1 : RvOk P E N Γ Ω a1 φ) :
    RefE E N e (some r) Γ Ω (fnK P fn E N res Ω1) := finN he x is hsub hres fun a w hs => let ⟨v, hv, hφ⟩ := h1 a w hs; ⟨v, results1 hrs hv, hφ⟩
theorem fin2 (he : e = .ret ∨ e = .normal) (x : X) (is : List Nat) {a1 a2 : ResultVar} {φ ψ : RP} (hrs : fn.results = #[a1, a2]) (hsub : Picks Ω is (Ω1 r x)) (hres : res r x = [φ, ψ])
    (h1 : RvOk P E N Γ Ω a1 φ) (h2 : RvOk P E N Γ Ω a2 ψ) : RefE E N e (some r) Γ Ω (fnK P fn E N res Ω1) := finN he x is hsub hres fun a w hs =>
  let ⟨_, hv, hφ⟩ := h1 a w hs; let ⟨_, hu, hψ⟩ := h2 a w hs; ⟨_, results2 hrs hv hu, _, rfl, hφ, hψ, trivial⟩
/-- a result that lies in a variable -/
theorem rv_cell {t e n b j off : Nat} {φs ψs : List RP} (ht : lk Γ t = some (pv (ptr b off))) (hj : Ω[j]? = some (oc b φs)) (hg : ∀ w, (isAgg e).run P w = .ok true w) (hn : ∀ w, (Go.sizeOf e).run P w = .ok n w)
    (hψ : (φs.drop off).take n = ψs) (hl : Nat.beq ψs.length n = true) : RvOk P E N Γ Ω (.cell t e) (ag ψs) := fun a w hs => by
  have h1 : a.tmps.getD t undef = ptr b off := hs.sl t _ ht
  obtain ⟨v, B, hv, _, hrun⟩ := r_cloadS (P := P) (ty := 0) (x := .tmp t) hg hn ht hj hψ hl a w hs
  have := hrun w (fun _ _ => rfl) ⟨none, .load e (.tmp t), 0, "", #[], none⟩ rfl rfl
  refine ⟨v, ?_, hv⟩
  have h2 : a.eval (.tmp t) = ptr b off := h1
  simp only [execOp, Instr.loadAt, h2, ptr, Instr.sureAddr] at this
  simp only [rvSem, h1, ptr, asAddr]
  simp at this ⊢
  cases hr : (loadVar e ⟨b, off, none⟩).run P w with
  | ok u w' => rw [hr] at this; simp at this; rw [this.1, this.2]
  | halt hh w' => rw [hr] at this; simp at this
end

/-! ### owned slices become common -/
def AllT (Γ : List (Nat × RP)) (φ : RP) : List Nat → Prop
  | [] => True
  | t :: ts => lk Γ t = some φ ∧ AllT Γ φ ts

theorem AllT.mem {φ : RP} : ∀ {ts : List Nat}, AllT Γ φ ts → ∀ t ∈ ts, lk Γ t = some φ
  | [], _, t, h => by simp at h
  | s :: ts, ⟨h1, h2⟩, t, h => by
    rcases List.mem_cons.1 h with e | e
    · rw [e]; exact h1
    · exact AllT.mem h2 t e

def giveΓ (φ : RP) (Γ : List (Nat × RP)) : List Nat → List (Nat × RP)
  | [] => Γ
  | t :: ts => (t, φ) :: giveΓ φ Γ ts

theorem lk_give {φ ψ : RP} : ∀ {ts : List Nat} {t : Nat}, lk (giveΓ φ Γ ts) t = some ψ → (t ∈ ts ∧ ψ = φ) ∨ lk Γ t = some ψ
  | [], t, h => .inr h
  | s :: ts, t, h => by
    by_cases e : s = t
    · subst e; simp only [giveΓ] at h; rw [lk_cons_eq] at h; cases h; exact .inl ⟨by simp, rfl⟩
    · simp only [giveΓ] at h; rw [lk_cons_ne e] at h
      exact (lk_give h).imp (fun ⟨h1, h2⟩ => ⟨List.mem_cons_of_mem _ h1, h2⟩) (fun h => h)

theorem frzL {α : Type} {ρ : Rep α} (ts : List Nat) {j : Nat} {hv : Value} {S : List Nat} {d : List α} (hj : Ω[j]? = some (oa ρ hv S d)) (ht : AllT Γ (pv hv) ts) :
    ∀ a w, Sat E N Γ Ω a w → Sat E N (giveΓ (slv ρ d) Γ ts) (Ω.set j dead) a w := by
  intro a w hs
  have h1 := hs.freeze hj
  refine ⟨h1.sz, h1.df, fun s φ h => ?_, h1.ob, h1.nd, h1.bd, h1.kp, h1.fs⟩
  rcases lk_give h with ⟨h2, rfl⟩ | h2
  · have hv' : a.tmps.getD s undef = hv := hs.sl s _ (ht.mem s h2)
    rw [hv']
    have hob := hs.objAt hj
    refine oa_sl hob (fun b hb ⟨h1, h2⟩ => ⟨h1, fun hm => h2 ?_⟩) (fun b hb => ⟨?_, mem_ow_set hj hs.nd hb (by simp [dead])⟩)
    · obtain ⟨A, B, rfl, rfl⟩ := ow_split hj
      rw [set_split] at hm
      rw [ow_mid] at hm ⊢
      simp [dead] at hm
      simp only [List.mem_append]
      exact hm.imp id .inr
    · exact hs.mine (Sat.notin hj hb)
  · exact h1.sl s φ h2

/-! ### the same between two operations of a region that draws its order -/
theorem a_of {ops : Array Oper} {fl : List Nat} {l : Array Bool} {pend : List (Nat × List Nat)} (hw : ∀ a w, Sat E N Γ Ω a w → Sat E N Γ' Ω' a w)
    (hΩ : (ow Ω).Nodup → ∀ (b : Nat) (J : List Nat), (b ∉ ow Ω ∨ ∃ j ∈ J, ∃ ob, Ω[j]? = some ob ∧ b ∈ ob.S) → (b ∉ ow Ω' ∨ ∃ j ∈ J, ∃ ob, Ω'[j]? = some ob ∧ b ∈ ob.S))
    (h : RefA P E N m ops fl l pend Γ' Ω' K) : RefA P E N m ops fl l pend Γ Ω K := by
  intro r hr a w hs lA aA hc
  refine h r hr a w (hw a w hs) lA aA ⟨hc.s1, hc.s2, hc.sub, fun i hi => ?_, hc.dc, hc.ts, hc.ag, hc.df⟩
  rcases hc.pd i hi with h1 | ⟨h1, J, hJ, o, d, ho, hd, h2⟩
  · exact .inl h1
  · refine .inr ⟨h1, J, hJ, o, d, ho, hd, ?_⟩
    rcases h2 with h2 | ⟨h2, B, hB, h3⟩
    · exact .inl h2
    · exact .inr ⟨h2, B, fun b hb => ⟨(hB b hb).1, hΩ hs.nd b J (hB b hb).2⟩, h3⟩

theorem dead_keeps {j : Nat} {o : OB} (hj : Ω[j]? = some o) : (ow Ω).Nodup → ∀ (b : Nat) (J : List Nat), (b ∉ ow Ω ∨ ∃ k ∈ J, ∃ ob, Ω[k]? = some ob ∧ b ∈ ob.S) →
    (b ∉ ow (Ω.set j dead) ∨ ∃ k ∈ J, ∃ ob, (Ω.set j dead)[k]? = some ob ∧ b ∈ ob.S) := by
  intro hnd b J h
  have hsub : b ∈ ow (Ω.set j dead) → b ∈ ow Ω ∧ b ∉ o.S := fun hm => by
    refine ⟨?_, fun hb => mem_ow_set hj hnd hb (by simp [dead]) hm⟩
    obtain ⟨A, B, rfl, rfl⟩ := ow_split hj
    rw [set_split] at hm
    rw [ow_mid] at hm ⊢
    simp [dead] at hm
    simp only [List.mem_append]
    exact hm.imp id .inr
  rcases h with h | ⟨k, hk, ob, h1, h2⟩
  · exact .inl fun hm => h (hsub hm).1
  · by_cases e : k = j
    · subst e
      rw [hj] at h1; cases h1
      exact .inl fun hm => (hsub hm).2 h2
    · exact .inr ⟨k, hk, ob, by rw [List.getElem?_set_ne (fun h => e h.symm)]; exact h1, h2⟩

end Go.Dc
