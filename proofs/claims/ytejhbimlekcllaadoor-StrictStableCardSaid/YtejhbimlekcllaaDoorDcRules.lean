/- Part Dc.Rules of a proof: lemmas. -/
import Derived.Test.YtejhbimlekcllaaDoorDcCore
/-! Rules: a plain function is refined by code. -/
namespace Go.Dc

/-- whatever the plain function gives, Φ holds of it -/
abbrev RefG {R : Type} (m : Option R) (Φ : R → Prop) : Prop := ∀ r, m = some r → Φ r

abbrev KT (R : Type) := R → Exit → Act → World → Prop

abbrev RefB {R : Type} (E : Env) (N : Nat) (m : Option R) (Γ : List (Nat × RP)) (Ω : List OB) (B : R → Act → World → Prop) : Prop :=
  RefG m fun r => ∀ a w, Sat E N Γ Ω a w → B r a w

abbrev Ref {R : Type} (P : Program) (E : Env) (N : Nat) (m : Option R) (c : Code) (Γ : List (Nat × RP)) (Ω : List OB) (K : KT R) : Prop :=
  RefB E N m Γ Ω fun r a w => c.wp P (K r) a w

abbrev RefL {R : Type} (P : Program) (E : Env) (N : Nat) (m : Option R) (ops : Array Oper) (l : List Oper) (Γ : List (Nat × RP)) (Ω : List OB) (K : KT R) : Prop :=
  RefB E N m Γ Ω fun r a w => wpList P ops (K r) l a w

abbrev RefE {R : Type} (E : Env) (N : Nat) (e : Exit) (m : Option R) (Γ : List (Nat × RP)) (Ω : List OB) (K : KT R) : Prop :=
  RefB E N m Γ Ω fun r a w => K r e a w

/-! ### the plain side -/
section plainSide
variable {R S : Type} {Φ : R → Prop}
theorem pull {x : Option S} {k : S → Option R} (h : ∀ d, x = some d → RefG (k d) Φ) : RefG (x.bind k) Φ := by
  intro r hr
  cases hx : x with
  | none => rw [hx] at hr; cases hr
  | some d => rw [hx] at hr; exact h d hx r hr

/-- a point where ways meet -/
def joinM (f : S → Option R) (g : (S → Option R) → Option R) : Option R := g f
end plainSide

variable {R S : Type} {P : Program} {E : Env} {N : Nat} {Γ Γ' : List (Nat × RP)} {Ω Ω' : List OB} {K : KT R} {m : Option R} {ops : Array Oper} {rest : List Oper}

/-! ### code -/
def thenK (P : Program) (y : Code) (K : KT R) : KT R := fun r => Exit.then (fun a w => y.wp P (K r) a w) (K r)
def blockK (id : Nat) (K : KT R) : KT R := fun r => Exit.inBlock id (K r)
def loopK (E : Env) (N : Nat) {σ ρ X : Type} (Γl : σ → X → List (Nat × RP)) (Ωl : σ → X → List OB) (k : ρ → Option R) (K : KT R) : KT (Sum ρ σ) :=
  fun o e a w => match o with
    | .inr s' => e = .normal ∧ ∃ x', Sat E N (Γl s' x') (Ωl s' x') a w
    | .inl q => e ≠ .normal ∧ ∀ r, k q = some r → K r e a w

theorem ref_seq {x y : Code} (h : Ref P E N m x Γ Ω (thenK P y K)) : Ref P E N m (.seq x y) Γ Ω K :=
  fun r hr a w hs => wp_seq (h r hr a w hs)
theorem ref_skip (h : RefE E N .normal m Γ Ω K) : Ref P E N m .skip Γ Ω K := fun r hr a w hs => wp_skip (h r hr a w hs)
theorem ref_exit {i : Nat} (h : RefE E N (.exit i) m Γ Ω K) : Ref P E N m (.exit i) Γ Ω K := fun r hr a w hs => wp_exit (h r hr a w hs)
theorem ref_ret (h : RefE E N .ret m Γ Ω K) : Ref P E N m .ret Γ Ω K := fun r hr a w hs => wp_ret (h r hr a w hs)
theorem ref_block {id : Nat} {c : Code} (h : Ref P E N m c Γ Ω (blockK id K)) : Ref P E N m (.block id c) Γ Ω K :=
  fun r hr a w hs => wp_block (h r hr a w hs)
theorem ref_region {id : Nat} {l : List Oper} (h : RefL P E N m l.toArray l Γ Ω K) : Ref P E N m (.region id l.toArray false) Γ Ω K :=
  fun r hr a w hs => wp_region_lit (h r hr a w hs)

theorem ref_cond {c : Operand} {thn els : Code} {b : Bool} {m1 m2 : Option R} (hc : lkO Γ c = some (bv b))
    (h1 : b = true → Ref P E N m1 thn Γ Ω K) (h2 : b = false → Ref P E N m2 els Γ Ω K) : Ref P E N (bif b then m1 else m2) (.cond c thn els) Γ Ω K := by
  intro r hr a w hs
  have hv := id (hs.op hc)
  cases b with
  | true => exact wp_cond hv (h1 rfl r hr a w hs)
  | false => exact wp_cond hv (h2 rfl r hr a w hs)

/-- a test of which the outcome is known -/
theorem ref_condT {c : Operand} {thn els : Code} {b : Bool} (hc : lkO Γ c = some (bv b)) (hb : b = true) (h : Ref P E N m thn Γ Ω K) :
    Ref P E N m (.cond c thn els) Γ Ω K := fun r hr a w hs => wp_cond (id (hs.op hc)) (by subst hb; exact h r hr a w hs)
theorem ref_condF {c : Operand} {thn els : Code} {b : Bool} (hc : lkO Γ c = some (bv b)) (hb : b = false) (h : Ref P E N m els Γ Ω K) :
    Ref P E N m (.cond c thn els) Γ Ω K := fun r hr a w hs => wp_cond (id (hs.op hc)) (by subst hb; exact h r hr a w hs)

/-! exits -/
theorem n_then {y : Code} (h : Ref P E N m y Γ Ω K) : RefE E N .normal m Γ Ω (thenK P y K) := h
theorem n_block {id : Nat} (h : RefE E N .normal m Γ Ω K) : RefE E N .normal m Γ Ω (blockK id K) := h
theorem x_then {y : Code} {i : Nat} (h : RefE E N (.exit i) m Γ Ω K) : RefE E N (.exit i) m Γ Ω (thenK P y K) := h
theorem x_eq {id : Nat} (h : RefE E N .normal m Γ Ω K) : RefE E N (.exit id) m Γ Ω (blockK id K) := by
  intro r hr a w hs
  show (if id = id then _ else _)
  rw [if_pos rfl]
  exact h r hr a w hs
theorem r_then {y : Code} (h : RefE E N .ret m Γ Ω K) : RefE E N .ret m Γ Ω (thenK P y K) := h
theorem r_block {id : Nat} (h : RefE E N .ret m Γ Ω K) : RefE E N .ret m Γ Ω (blockK id K) := h

section
variable {σ ρ X : Type} {Γl : σ → X → List (Nat × RP)} {Ωl : σ → X → List OB} {k : ρ → Option R} {q : ρ}
theorem r_loop (h : RefE E N .ret (k q) Γ Ω K) : RefE E N .ret (some (Sum.inl q)) Γ Ω (loopK E N Γl Ωl k K) := by
  intro r hr a w hs; cases hr
  exact ⟨by simp, fun r hr => h r hr a w hs⟩
theorem n_loop {s' : σ} (x' : X) (h : ∀ a w, Sat E N Γ Ω a w → Sat E N (Γl s' x') (Ωl s' x') a w) :
    RefE E N .normal (some (Sum.inr s')) Γ Ω (loopK E N Γl Ωl k K) := by
  intro r hr a w hs; cases hr
  exact ⟨rfl, x', h a w hs⟩

theorem exists_least {p : Nat → Prop} (h : ∃ n, p n) : ∃ n, p n ∧ ∀ m, p m → n ≤ m := by
  obtain ⟨n, hn⟩ := h
  induction n using Nat.strongRecOn with
  | _ n ih =>
    by_cases hx : ∃ m, m < n ∧ p m
    · obtain ⟨m, hm, hp⟩ := hx; exact ih m hm hp
    · exact ⟨n, hn, fun m hp => Nat.le_of_not_lt fun hlt => hx ⟨m, hlt, hp⟩⟩

open Classical in
theorem wp_loop_ind {c : Code} {Q : Exit → Act → World → Prop} (Φ : Nat → Act → World → Prop)
    (round : ∀ n a w, Φ n a w → c.wp P (Exit.then (fun a' w' => ∃ m, m < n ∧ Φ m a' w') Q) a w) {n : Nat} {a : Act} {w : World} (h : Φ n a w) :
    (Code.loop c).wp P Q a w := by
  let μ : Act → World → Nat := fun a w => if h : ∃ n, Φ n a w then (exists_least h).choose else 0
  have hμ : ∀ a w, (∃ n, Φ n a w) → Φ (μ a w) a w ∧ ∀ m, Φ m a w → μ a w ≤ m := fun a w hx => by
    simp only [μ, dif_pos hx]; exact (exists_least hx).choose_spec
  refine wp_loop (fun a w => ∃ n, Φ n a w) μ ⟨n, h⟩ fun a w hI => ?_
  refine wp_mono (round (μ a w) a w (hμ a w hI).1) ?_
  intro e a' w' he
  cases e with
  | normal => obtain ⟨m, hm, hp⟩ := he; exact ⟨⟨m, hp⟩, Nat.lt_of_le_of_lt ((hμ a' w' ⟨m, hp⟩).2 m hp) hm⟩
  | exit i => exact he
  | goto l => exact he
  | ret => exact he
  | panic c => exact he
  | outgrown => exact he

theorem ref_loop {body : Code} {f : σ → Option (Sum ρ σ)} (s0 : σ) (x0 : X)
    (h0 : ∀ a w, Sat E N Γ Ω a w → Sat E N (Γl s0 x0) (Ωl s0 x0) a w)
    (round : ∀ s x, Ref P E N (f s) body (Γl s x) (Ωl s x) (loopK E N Γl Ωl k K)) : Ref P E N ((loopC f s0).bind k) (.loop body) Γ Ω K := by
  intro r hr a w hs
  cases hl : loopC f s0 with
  | none => rw [hl] at hr; cases hr
  | some q =>
    rw [hl] at hr
    have hk : k q = some r := hr
    obtain ⟨n, hn⟩ := loopC_iff.1 hl
    refine wp_loop_ind (fun n a w => ∃ s x, loopN f n s = some q ∧ Sat E N (Γl s x) (Ωl s x) a w) ?_ (n := n) ⟨s0, x0, hn, h0 a w hs⟩
    rintro n a w ⟨s, x, hn, hs⟩
    cases n with
    | zero => simp [loopN] at hn
    | succ n =>
      simp only [loopN] at hn
      cases hf : f s with
      | none => rw [hf] at hn; cases hn
      | some o =>
        rw [hf] at hn
        refine wp_mono (round s x o hf a w hs) ?_
        intro e a' w' he
        cases o with
        | inl q' =>
          have hq : q' = q := by simpa using hn
          subst hq
          obtain ⟨hne, hK⟩ := he
          have := hK r hk
          cases e with
          | normal => exact absurd rfl hne
          | exit i => exact this
          | goto l => exact this
          | ret => exact this
          | panic c => exact this
          | outgrown => exact this
        | inr s' =>
          obtain ⟨rfl, x', hs'⟩ := he
          exact ⟨n, Nat.lt_succ_self n, s', x', hn, hs'⟩
end

/-! ### operations in their order -/
theorem l_nil (h : RefE E N .normal m Γ Ω K) : RefL P E N m ops [] Γ Ω K := fun r hr a w hs => wpList_nil (h r hr a w hs)

/-- what an operation comes to -/
def resW (P : Program) (k : Value → World → Prop) : Result Next → Prop
  | .ok (.value v) w' => k v w'
  | .ok .skip w' => k undef w'
  | .ok (.enter f args) w' => Calls P f args w' fun e w'' => ∃ v, e = .returned v ∧ k v w''
  | _ => False

/-- an operation is carried out: what it yields, and the world behind it -/
def opwp (P : Program) (op : Op) (ty : TypeId) (ρ : Operand → Value) (w : World) (k : Value → World → Prop) : Prop :=
  ∀ (o : Oper), o.op = op → o.type = ty → resW P k ((execOp ρ o).run P w)

theorem resW.upon {o : Oper} {a : Act} {next : Act → World → Prop} {Q : Exit → Act → World → Prop} {k : Value → World → Prop} (hn : ∀ v w', k v w' → next (a.put o.dst v) w') :
    ∀ {res : Result Next}, resW P k res → o.upon P a next Q res := by
  intro res h
  unfold resW at h
  split at h
  · exact hn _ _ h
  · exact hn _ _ h
  · refine h.mono ?_
    rintro e w'' ⟨v, rfl, hk⟩
    exact hn _ _ hk
  · exact h.elim

/-- which blocks an operation touches: those of the objects js, and new ones -/
structure Eff (Ω Ω' : List OB) (js : List Nat) (w w' : World) : Prop where
  size : w.heap.size ≤ w'.heap.size
  keep : ∀ b, b < w.heap.size → (∀ j ∈ js, ∀ ob, Ω[j]? = some ob → b ∉ ob.S) → w'.heap[b]? = w.heap[b]?
  own : ∀ b, b < w.heap.size → b ∈ ow Ω' → b ∈ ow Ω

/-- an operation that only looks: at the blocks B -/
def Rd (P : Program) (E : Env) (N : Nat) (op : Op) (ty : TypeId) (Γ : List (Nat × RP)) (Ω : List OB) (J : List Nat) (φ : RP) : Prop :=
  ∀ a w, Sat E N Γ Ω a w → ∃ v, ∃ B : List Nat, φ.h (fr E Ω) w v ∧
    (∀ b ∈ B, b < w.heap.size ∧ (b ∉ ow Ω ∨ ∃ j ∈ J, ∃ ob, Ω[j]? = some ob ∧ b ∈ ob.S)) ∧
    ∀ w', (∀ b ∈ B, w'.heap[b]? = w.heap[b]?) → ∀ o : Oper, o.op = op → o.type = ty → (execOp a.eval o).run P w' = .ok (.value v) w'

/-- an operation that makes or writes memory: the objects js alone are touched -/
def St {X : Type} (P : Program) (E : Env) (N : Nat) (op : Op) (ty : TypeId) (Γ : List (Nat × RP)) (Ω : List OB) (js : List Nat) (φ : X → RP) (Ω' : X → List OB) : Prop :=
  ∀ a w, Sat E N Γ Ω a w → opwp P op ty a.eval w fun v w' =>
    ∃ x, Sat E N Γ (Ω' x) a w' ∧ (φ x).h (fr E (Ω' x)) w' v ∧ Eff Ω (Ω' x) js w w'

theorem own_add {w : World} {o : OB} (h : ∀ b ∈ o.S, w.heap.size ≤ b) : ∀ b, b < w.heap.size → b ∈ ow (Ω ++ [o]) → b ∈ ow Ω := fun b hb hm => by
  rw [ow_append, ow_one, List.mem_append] at hm
  exact hm.elim id fun h1 => by have := h b h1; omega

theorem own_set {w : World} {j : Nat} {o o' : OB} (hj : Ω[j]? = some o) (h : ∀ b ∈ o'.S, b ∈ o.S ∨ w.heap.size ≤ b) : ∀ b, b < w.heap.size → b ∈ ow (Ω.set j o') → b ∈ ow Ω := fun b hb hm => by
  obtain ⟨A, B, rfl, rfl⟩ := ow_split hj
  rw [set_split] at hm
  rw [ow_mid] at hm ⊢
  simp only [List.mem_append] at hm ⊢
  rcases hm with hm | hm | hm
  · exact .inl hm
  · rcases h b hm with h1 | h1
    · exact .inr (.inl h1)
    · omega
  · exact .inr (.inr hm)

theorem s_rd {op : Op} {ty : TypeId} {d : Nat} {φ : RP} {J : List Nat} {pos : String} {aft : Array Edge} (hr : Rd P E N op ty Γ Ω J φ) (hd : Nat.blt d N = true)
    (h : RefL P E N m ops rest ((d, φ) :: Γ) Ω K) : RefL P E N m ops (⟨some d, op, ty, pos, aft, none⟩ :: rest) Γ Ω K := by
  intro r hm a w hs
  obtain ⟨v, B, hv, _, hrun⟩ := hr a w hs
  refine wpList_plain rfl fun K' hK' => ?_
  have hlt : d < N := by simpa [Nat.blt_eq] using hd
  unfold Oper.wp
  rw [hrun w (fun _ _ => rfl) _ rfl rfl]
  exact hK' _ _ (h r hm _ _ (hs.put hlt hv))

theorem s_st {X : Type} {op : Op} {ty : TypeId} {d : Nat} {js : List Nat} {φ : X → RP} {Ω' : X → List OB} {pos : String} {aft : Array Edge} (hr : St P E N op ty Γ Ω js φ Ω')
    (hd : Nat.blt d N = true) (h : ∀ x, RefL P E N m ops rest ((d, φ x) :: Γ) (Ω' x) K) : RefL P E N m ops (⟨some d, op, ty, pos, aft, none⟩ :: rest) Γ Ω K := by
  intro r hm a w hs
  refine wpList_plain rfl fun K' hK' => ?_
  have hlt : d < N := by simpa [Nat.blt_eq] using hd
  refine resW.upon ?_ (hr a w hs _ rfl rfl)
  rintro v w' ⟨x, hs', hv, _⟩
  exact hK' _ _ (h x r hm _ _ (hs'.put hlt hv))

theorem s_st0 {X : Type} {op : Op} {ty : TypeId} {js : List Nat} {φ : X → RP} {Ω' : X → List OB} {pos : String} {aft : Array Edge} (hr : St P E N op ty Γ Ω js φ Ω')
    (h : ∀ x, RefL P E N m ops rest Γ (Ω' x) K) : RefL P E N m ops (⟨none, op, ty, pos, aft, none⟩ :: rest) Γ Ω K := by
  intro r hm a w hs
  refine wpList_plain rfl fun K' hK' => ?_
  refine resW.upon ?_ (hr a w hs _ rfl rfl)
  rintro v w' ⟨x, hs', hv, _⟩
  exact hK' _ _ (h x r hm _ _ hs')

/-! guards -/
theorem yielded_of {a : Act} {w : World} (hs : Sat E N Γ Ω a w) {i t : Nat} {b : Bool} (hi : (ops[i]?).bind (·.dst) = some t) (ht : lk Γ t = some (bv b)) (hN : Nat.blt t N = true) :
    yielded ops a.tmps i = some b := by
  have hv := id (hs.sl t _ ht)
  have hlt : t < a.tmps.size := by rw [hs.sz]; simpa [Nat.blt_eq] using hN
  unfold yielded
  rw [hi]
  simp only [Option.bind_some]
  have : a.tmps[t]? = some (.bool b) := by
    rw [Array.getElem?_eq_getElem hlt]
    simp [Array.getD, hlt] at hv
    rw [hv]
  rw [this]

/-- a guarded operation that is wanted -/
theorem s_on {op : Op} {ty : TypeId} {d : Option Nat} {pos : String} {aft : Array Edge} {i t : Nat} {b : Bool} (hi : (ops[i]?).bind (·.dst) = some t)
    (ht : lk Γ t = some (bv b)) (hN : Nat.blt t N = true) (h : RefL P E N m ops (⟨d, op, ty, pos, aft, none⟩ :: rest) Γ Ω K) :
    RefL P E N m ops (⟨d, op, ty, pos, aft, some (i, b)⟩ :: rest) Γ Ω K := by
  intro r hm a w hs
  have h1 := h r hm a w hs
  have hy := yielded_of hs hi ht hN
  have hw : Region.wanted ⟨d, op, ty, pos, aft, some (i, b)⟩ (yielded ops a.tmps) = true := by simp [Region.wanted, hy]
  have hw0 : Region.wanted ⟨d, op, ty, pos, aft, none⟩ (yielded ops a.tmps) = true := by simp [Region.wanted]
  unfold wpList at h1 ⊢
  rw [if_pos hw]
  rw [if_pos hw0] at h1
  exact h1

/-- a guarded operation that is not wanted -/
theorem s_off {op : Op} {ty : TypeId} {d : Nat} {pos : String} {aft : Array Edge} {i t : Nat} {b c : Bool} (hi : (ops[i]?).bind (·.dst) = some t)
    (ht : lk Γ t = some (bv c)) (hN : Nat.blt t N = true) (hbc : (c == b) = false) (hd : Nat.blt d N = true)
    (h : RefL P E N m ops rest ((d, pv undef) :: Γ) Ω K) : RefL P E N m ops (⟨some d, op, ty, pos, aft, some (i, b)⟩ :: rest) Γ Ω K := by
  intro r hm a w hs
  have hlt : d < N := by simpa [Nat.blt_eq] using hd
  have h1 := h r hm _ _ (hs.put (v := undef) hlt rfl)
  have hy := yielded_of hs hi ht hN
  have hw : Region.wanted ⟨some d, op, ty, pos, aft, some (i, b)⟩ (yielded ops a.tmps) = false := by simp [Region.wanted, hy]; simpa using hbc
  unfold wpList
  rw [if_neg (by simp [hw])]
  exact h1

/-- the ways of a Bool in a slot -/
theorem b_split {B : R → Act → World → Prop} {t : Nat} {b : Bool} {m1 m2 : Option R} (ht : lk Γ t = some (bv b))
    (h1 : b = true → RefB E N m1 ((t, bv true) :: Γ) Ω B) (h2 : b = false → RefB E N m2 ((t, bv false) :: Γ) Ω B) :
    RefB E N (bif b then m1 else m2) Γ Ω B := by
  intro r hr a w hs
  have hs' : ∀ c : Bool, b = c → Sat E N ((t, bv c) :: Γ) Ω a w := fun c e => hs.weak fun s φ h => by
    by_cases e2 : t = s
    · subst e2; rw [lk_cons_eq] at h; cases h; subst e; exact ht
    · rwa [lk_cons_ne e2] at h
  cases b with
  | true => exact h1 rfl r hr a w (hs' true rfl)
  | false => exact h2 rfl r hr a w (hs' false rfl)

/-- names for what slots and objects hold -/
theorem lk_dup {Γ : List (Nat × RP)} {t s : Nat} {φ ψ : RP} (ht : lk Γ t = some φ) (h : lk ((t, φ) :: Γ) s = some ψ) : lk Γ s = some ψ := by
  by_cases e2 : t = s
  · subst e2; rw [lk_cons_eq] at h; cases h; exact ht
  · rwa [lk_cons_ne e2] at h

theorem b_let {B : R → Act → World → Prop} {α : Type} {f : α → RP} {t : Nat} {e : α} {k : α → Option R} (ht : lk Γ t = some (f e))
    (h : ∀ x, RefB E N (k x) ((t, f x) :: Γ) Ω B) : RefB E N (letM e k) Γ Ω B :=
  fun r hr a w hs => h e r hr a w (hs.weak fun _ _ => lk_dup ht)

theorem set_same {j : Nat} {o : OB} (hj : Ω[j]? = some o) : Ω.set j o = Ω := by
  obtain ⟨A, B, rfl, rfl⟩ := ow_split hj
  rw [set_split]

/-- from a more special state -/
theorem b_of {B : R → Act → World → Prop} (hw : ∀ a w, Sat E N Γ Ω a w → Sat E N Γ' Ω' a w) (h : RefB E N m Γ' Ω' B) : RefB E N m Γ Ω B :=
  fun r hr a w hs => h r hr a w (hw a w hs)

theorem sub {Γ' : List (Nat × RP)} (h : SubΓ Γ Γ') : ∀ a w, Sat E N Γ Ω a w → Sat E N Γ' Ω a w := fun _ _ hs => hs.weak h.lk

/-! ### functions -/
def resH (F : FP) (w : World) : List RP → Value → Prop
  | [φ], v => φ.h F w v
  | φs, v => ∃ vs, v = .tuple vs ∧ AllP F w φs vs.toList

/-- Called with values of which `args` hold, beside the objects Ω0, the function returns values of which `res x` hold, beside the objects Ω1 x. -/
def FnOk {X : Type} (P : Program) (f : FuncId) (args : List RP) (Ω0 : List OB) (res : X → List RP) (Ω1 : X → List OB) : Prop :=
  ∀ (F : FP) (w : World) (vs : List Value), (∀ b, w.heap.size ≤ b → F b) → (∀ b ∈ ow Ω0, F b) →
    (∀ b ∈ ow Ω0, b < w.heap.size) → (ow Ω0).Nodup →
    (∀ o ∈ Ω0, o.h (fun b => F b ∧ b ∉ ow Ω0) w) → AllP (fun b => F b ∧ b ∉ ow Ω0) w args vs →
    Calls P f vs.toArray w fun e w' => ∃ x v, e = .returned v ∧ Kept (ow Ω0) w w' ∧
      (∀ b ∈ ow (Ω1 x), b < w'.heap.size ∧ (w.heap.size ≤ b ∨ b ∈ ow Ω0)) ∧ (ow (Ω1 x)).Nodup ∧
      (∀ o ∈ Ω1 x, o.h (fun b => F b ∧ b ∉ ow (Ω1 x)) w') ∧ resH (fun b => F b ∧ b ∉ ow (Ω1 x)) w' (res x) v

def rvSem (tmps : Array Value) : ResultVar → Sem Value
  | .tmp t => pure (tmps.getD t undef)
  | .cell a t => do loadVar t (← asAddr (tmps.getD a undef))

def RvOk (P : Program) (E : Env) (N : Nat) (Γ : List (Nat × RP)) (Ω : List OB) (rv : ResultVar) (φ : RP) : Prop :=
  ∀ a w, Sat E N Γ Ω a w → ∃ v, (rvSem a.tmps rv).run P w = .ok v w ∧ φ.h (fr E Ω) w v

theorem rv_tmp {t : Nat} {φ : RP} (h : lk Γ t = some φ) : RvOk P E N Γ Ω (.tmp t) φ :=
  fun a _ hs => ⟨a.tmps.getD t undef, rfl, hs.sl t φ h⟩

def fnK {R X : Type} (P : Program) (fn : Func) (E : Env) (N : Nat) (res : R → X → List RP) (Ω1 : R → X → List OB) : KT R :=
  fun r e a w => (e = .ret ∨ e = .normal) ∧ ∃ x, Sat E N [] (Ω1 r x) a w ∧ ∃ v, (results fn a.tmps).run P w = .ok v w ∧ resH (fr E (Ω1 r x)) w (res r x) v

theorem results_eq (fn : Func) (tmps : Array Value) : results fn tmps = (do let vs ← fn.results.mapM (rvSem tmps); pure (if h : vs.size = 1 then vs[0] else .tuple vs)) := by
  have : (rvSem tmps) = (fun x => match x with | .tmp t => pure (tmps.getD t undef) | .cell a t => do loadVar t (← asAddr (tmps.getD a undef)) : ResultVar → Sem Value) := by
    funext x; cases x <;> rfl
  rw [this]; rfl
theorem results1 {fn : Func} {a : ResultVar} (h : fn.results = #[a]) {tmps : Array Value} {w : World} {v : Value} (hv : (rvSem tmps a).run P w = .ok v w) :
    (results fn tmps).run P w = .ok v w := by
  rw [results_eq]; simp [h, hv]
theorem results2 {fn : Func} {a b : ResultVar} (h : fn.results = #[a, b]) {tmps : Array Value} {w : World} {v u : Value} (hv : (rvSem tmps a).run P w = .ok v w)
    (hu : (rvSem tmps b).run P w = .ok u w) : (results fn tmps).run P w = .ok (.tuple #[v, u]) w := by
  rw [results_eq]; simp [h, hv, hu]
section
variable {X : Type} {fn : Func} {res : R → X → List RP} {Ω1 : R → X → List OB} {r : R} {e : Exit}
end

def enumΓ : Nat → List RP → List (Nat × RP)
  | _, [] => []
  | n, φ :: φs => (n, φ) :: enumΓ (n + 1) φs

theorem lk_enum {φs : List RP} : ∀ {n t : Nat} {φ : RP}, lk (enumΓ n φs) t = some φ → n ≤ t ∧ φs[t - n]? = some φ := by
  induction φs with
  | nil => intro n t φ h; simp [enumΓ, lk] at h
  | cons ψ φs ih =>
    intro n t φ h
    by_cases e : n = t
    · subst e; simp only [enumΓ] at h; rw [lk_cons_eq] at h; cases h; simp
    · simp only [enumΓ] at h; rw [lk_cons_ne e] at h
      obtain ⟨h1, h2⟩ := ih h
      refine ⟨by omega, ?_⟩
      rw [show t - n = (t - (n + 1)) + 1 from by omega]
      simpa using h2

theorem fn_ok {X : Type} {f : FuncId} {fn : Func} {c : Code} (hf : P.funcs[f]? = some fn) (hb : fn.body = some c) (hn : fn.ntmps = N) {r : R} (hm : m = some r)
    {args : List RP} {Ω0 : List OB} {res : R → X → List RP} {Ω1 : R → X → List OB} (hN : Nat.ble args.length N = true)
    (h : ∀ E : Env, E.M = ow Ω0 → Ref P E N m c (enumΓ 0 args) Ω0 (fnK P fn E N res Ω1)) : FnOk P f args Ω0 (res r) (Ω1 r) := by
  intro F w vs hF hmf hbd hnd hob hargs
  have hlen := hargs.length
  have hle : vs.length ≤ N := by rw [hlen]; exact Nat.le_of_ble_eq_true hN
  refine calls_of_wp hf hb (wp_mono (h ⟨w, ow Ω0, F, hmf⟩ rfl r hm { tmps := vs.toArray ++ Array.replicate (fn.ntmps - vs.toArray.size) undef, defers := [] } w ?_) ?_)
  · refine ⟨by simp [hn]; omega, rfl, fun t φ ht => ?_, hob, hnd, fun b hb => ⟨hbd b hb, .inr hb⟩, .refl _ _, hF⟩
    obtain ⟨_, ht⟩ := lk_enum ht
    obtain ⟨v, hv, hφ⟩ := hargs.get ht
    have hv' : vs[t]? = some v := by simpa using hv
    have hlt : t < vs.length := (List.getElem?_eq_some_iff.1 hv').1
    have hg : (vs.toArray ++ Array.replicate (fn.ntmps - vs.toArray.size) undef)[t]? = some v := by
      rw [Array.getElem?_append_left (by simpa using hlt)]; simpa using hv'
    have : (vs.toArray ++ Array.replicate (fn.ntmps - vs.toArray.size) undef).getD t undef = v := by
      rw [Array.getD_eq_getD_getElem?, hg]; rfl
    exact this ▸ hφ
  · rintro e a w' ⟨he, x, hs, v, hv, hres⟩
    have hR : ∃ x v', Ending.returned v = .returned v' ∧ Kept (ow Ω0) w w' ∧
      (∀ b ∈ ow (Ω1 r x), b < w'.heap.size ∧ (w.heap.size ≤ b ∨ b ∈ ow Ω0)) ∧ (ow (Ω1 r x)).Nodup ∧
      (∀ o ∈ Ω1 r x, o.h (fun b => F b ∧ b ∉ ow (Ω1 r x)) w') ∧ resH (fun b => F b ∧ b ∉ ow (Ω1 r x)) w' (res r x) v' :=
      ⟨x, v, rfl, hs.kp, hs.bd, hs.nd, hs.ob, hres⟩
    rcases he with rfl | rfl
    · exact ⟨hs.df, v, hv, hR⟩
    · exact ⟨hs.df, v, hv, hR⟩

/-! ### calls -/
def ArgOk (E : Env) (N : Nat) (Γ : List (Nat × RP)) (Ω : List OB) (F : List OB → Env → FP) (x : Operand) (φ : RP) : Prop :=
  ∀ a w, Sat E N Γ Ω a w → φ.h (F Ω E) w (a.eval x)

def frF (Ω : List OB) (E : Env) : FP := fr E Ω

def ArgsOk (E : Env) (N : Nat) (Γ : List (Nat × RP)) (Ω : List OB) (F : List OB → Env → FP) : List Operand → List RP → Prop
  | [], [] => True
  | x :: xs, φ :: φs => ArgOk E N Γ Ω F x φ ∧ ArgsOk E N Γ Ω F xs φs
  | _, _ => False

theorem ArgsOk.all {F : List OB → Env → FP} {a : Act} {w : World} (hs : Sat E N Γ Ω a w) : ∀ {xs : List Operand} {φs : List RP}, ArgsOk E N Γ Ω F xs φs → AllP (F Ω E) w φs (xs.map a.eval)
  | [], [], _ => trivial
  | _ :: _, _ :: _, ⟨h1, h2⟩ => ⟨h1 a w hs, h2.all hs⟩
  | [], _ :: _, h => h.elim
  | _ :: _, [], h => h.elim

theorem arg {x : Operand} {φ : RP} (h : lkO Γ x = some φ) : ArgOk E N Γ Ω frF x φ := fun _ _ hs => hs.op h

theorem run_call {f : FuncId} {x : Operand} {args : List Operand} {ats : Array TypeId} {a : Act} {w : World} {caps : Array Value}
    (hcall : ∀ args w, (callFunc f args).run P w = .ok (.enter f args) w) (hx : a.eval x = .func (.func f) #[] caps) (o : Oper) (ho : o.op = .call ⟨.value x, args.toArray, ats⟩) :
    (execOp a.eval o).run P w = .ok (.enter f ((args.map a.eval).toArray ++ caps)) w := by
  simp [execOp, ho, resolve, hx, Deferred.ofValue, invoke, hcall]

/-- a call that touches no object of ours -/
theorem s_call {X : Type} {f : FuncId} {x : Operand} {args : List Operand} {ats : Array TypeId} {ty : TypeId} {φs : List RP} {res : X → List RP} {Ω1 : X → List OB} {ψ : X → RP}
    (hcall : ∀ args w, (callFunc f args).run P w = .ok (.enter f args) w) (hx : lkO Γ x = some (pv (.func (.func f) #[] #[])))
    (hf : FnOk P f φs [] res Ω1) (ha : ArgsOk E N Γ Ω frF args φs) (hψ : ∀ x F w v, resH F w (res x) v → (ψ x).h F w v) :
    St P E N (.call ⟨.value x, args.toArray, ats⟩) ty Γ Ω [] ψ (fun x => Ω ++ Ω1 x) := by
  intro a w hs o ho ht
  rw [run_call hcall (show _ = _ from hs.op hx) o ho]
  simp only [resW, Array.append_empty]
  refine (hf (fr E Ω) w (args.map a.eval) ?_ (by simp [ow]) (by simp [ow]) (by simp [ow]) (by simp) ?_).mono ?_
  · exact fun b hb => ⟨hs.fs b (Nat.le_trans hs.kp.size hb), fun hm => by have := (hs.bd b hm).1; omega⟩
  · exact (ha.all hs).mono (.refl fun b _ hb => ⟨hb, by simp [ow]⟩)
  · rintro e w' ⟨x, v, rfl, hk, hbd, hnd, hob, hres⟩
    have hbd' : ∀ b ∈ ow (Ω1 x), w.heap.size ≤ b ∧ b < w'.heap.size := fun b hb => by
      obtain ⟨h1, h2⟩ := hbd b hb
      rcases h2 with h2 | h2
      · exact ⟨h2, h1⟩
      · simp [ow] at h2
    have hblk : ∀ b, b < w.heap.size → w'.heap[b]? = w.heap[b]? := fun b hb => hk.blk b hb (by simp [ow])
    have hF : ∀ b, (fr E Ω b ∧ b ∉ ow (Ω1 x)) → fr E (Ω ++ Ω1 x) b := fun b ⟨⟨h1, h2⟩, h3⟩ => ⟨h1, by
      rw [ow_append, List.mem_append]; exact fun h => h.elim h2 h3⟩
    refine ⟨v, rfl, x, ?_, (ψ x).mono (.refl fun b _ => hF b) (hψ x _ _ _ hres), hk.size, fun b hb _ => hblk b hb, fun b hb hm => ?_⟩
    rotate_left
    · rw [ow_append, List.mem_append] at hm
      exact hm.elim id fun h1 => by have := (hbd' b h1).1; omega
    refine hs.world ⟨hk.os, hk.tape, hk.output, hk.drawn⟩ hk.size (fun b hb _ => hblk b hb) ?_ ?_ ?_
    · intro b hb
      rw [ow_append, List.mem_append] at hb
      exact hb.imp id fun h => hbd' b h
    · rw [ow_append]
      refine List.nodup_append.2 ⟨hs.nd, hnd, fun p hp q hq e => ?_⟩
      subst e
      have := (hs.bd p hp).1
      have := (hbd' p hq).1
      omega
    · intro o ho
      rcases List.mem_append.1 ho with ho | ho
      · refine o.mono ⟨fun b hb ⟨h1, h2⟩ => ⟨h1, ?_⟩, fun b hb _ => hblk b hb⟩ (fun b hb => hblk b (hs.bd b (List.mem_flatMap.2 ⟨o, ho, hb⟩)).1) (hs.ob o ho)
        rw [ow_append, List.mem_append]
        rintro (h3 | h3)
        · exact h2 h3
        · have := (hbd' b h3).1; omega
      · exact o.mono (.refl fun b _ => hF b) (fun _ _ => rfl) (hob o ho)

end Go.Dc
