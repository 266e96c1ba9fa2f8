/- Part Dc.Core of a proof: lemmas. -/
import Derived.Orders
import Derived.Tactics
import Derived.Laws.CopyRow
import Derived.Laws.OwnMore
import Derived.KernelRfl
/-! The core of a relational reading of Go code: slots and objects against plain data, and rules by which a plain function is refined by the code. -/
namespace Go.Dc

/-! ## Loops as plain functions -/
section loops
variable {σ ρ : Type}
def loopN (f : σ → Option (Sum ρ σ)) : Nat → σ → Option ρ
  | 0, _ => none
  | n + 1, s => match f s with
    | none => none
    | some (.inl r) => some r
    | some (.inr s') => loopN f n s'

theorem loopN_mono {f : σ → Option (Sum ρ σ)} {n : Nat} : ∀ {s : σ} {r : ρ}, loopN f n s = some r → ∀ {m}, n ≤ m → loopN f m s = some r := by
  induction n with
  | zero => intro s r h; simp [loopN] at h
  | succ n ih =>
    intro s r h m hm
    obtain ⟨m, rfl⟩ : ∃ k, m = k + 1 := ⟨m - 1, by omega⟩
    simp only [loopN] at h ⊢
    cases hf : f s with
    | none => rw [hf] at h; cases h
    | some x =>
      rw [hf] at h
      cases x with
      | inl r' => exact h
      | inr s' => exact ih h (by omega)

open Classical in
noncomputable def loopC (f : σ → Option (Sum ρ σ)) (s : σ) : Option ρ :=
  if h : ∃ n r, loopN f n s = some r then some h.choose_spec.choose else none

theorem loopC_iff {f : σ → Option (Sum ρ σ)} {s : σ} {r : ρ} : loopC f s = some r ↔ ∃ n, loopN f n s = some r := by
  unfold loopC
  constructor
  · intro h
    split at h
    · rename_i hx
      have := hx.choose_spec.choose_spec
      exact ⟨_, by rw [← h]; exact this⟩
    · cases h
  · rintro ⟨n, hn⟩
    have hx : ∃ n r, loopN f n s = some r := ⟨n, r, hn⟩
    rw [dif_pos hx]
    have h2 := hx.choose_spec.choose_spec
    have h3 := loopN_mono hn (Nat.le_max_left n hx.choose)
    have h4 := loopN_mono h2 (Nat.le_max_right n hx.choose)
    rw [h3] at h4
    exact h4.symm

theorem loopC_eq (f : σ → Option (Sum ρ σ)) (s : σ) :
    loopC f s = (f s).bind fun | .inl r => some r | .inr s' => loopC f s' := by
  cases hf : f s with
  | none =>
    cases hl : loopC f s with
    | none => rfl
    | some r =>
      obtain ⟨n, hn⟩ := loopC_iff.1 hl
      cases n <;> simp [loopN, hf] at hn
  | some x =>
    cases x with
    | inl r => exact loopC_iff.2 ⟨1, by simp [loopN, hf]⟩
    | inr s' =>
      show loopC f s = loopC f s'
      cases hl : loopC f s' with
      | some r =>
        obtain ⟨n, hn⟩ := loopC_iff.1 hl
        exact loopC_iff.2 ⟨n + 1, by simp [loopN, hf, hn]⟩
      | none =>
        cases h2 : loopC f s with
        | none => rfl
        | some r =>
          obtain ⟨n, hn⟩ := loopC_iff.1 h2
          cases n with
          | zero => simp [loopN] at hn
          | succ n =>
            simp only [loopN, hf] at hn
            rw [loopC_iff.2 ⟨n, hn⟩] at hl
            cases hl

/-- total correctness of a loop -/
theorem loopC_total {f : σ → Option (Sum ρ σ)} (I : σ → Prop) (Post : ρ → Prop) (μ : σ → Nat)
    (step : ∀ s, I s → (∃ r, f s = some (.inl r) ∧ Post r) ∨ ∃ s', f s = some (.inr s') ∧ I s' ∧ μ s' < μ s) :
    ∀ s, I s → ∃ r, loopC f s = some r ∧ Post r := by
  intro s
  generalize hn : μ s = n
  induction n using Nat.strongRecOn generalizing s with
  | _ n ih =>
    intro hI
    rcases step s hI with ⟨r, hf, hp⟩ | ⟨s', hf, hI', hlt⟩
    · exact ⟨r, by rw [loopC_eq, hf]; rfl, hp⟩
    · obtain ⟨r, hr, hp⟩ := ih _ (hn ▸ hlt) s' rfl hI'
      exact ⟨r, by rw [loopC_eq, hf]; exact hr, hp⟩
end loops

def letM.{u, v} {α : Type u} {β : Type v} (x : α) (k : α → β) : β := k x

/-! ## Predicates on values -/
abbrev FP := Nat → Prop

structure Ag (F F' : FP) (w w' : World) : Prop where
  f : ∀ b, b < w.heap.size → F b → F' b
  s : ∀ b, b < w.heap.size → F b → w'.heap[b]? = w.heap[b]?

theorem Ag.refl {F F' : FP} {w : World} (h : ∀ b, b < w.heap.size → F b → F' b) : Ag F F' w w := ⟨h, fun _ _ _ => rfl⟩

structure RP where
  h : FP → World → Value → Prop
  mono : ∀ {F F' : FP} {w w' : World} {v : Value}, Ag F F' w w' → h F w v → h F' w' v

def pv (v : Value) : RP := ⟨fun _ _ u => u = v, fun _ h => h⟩

/-- a list of predicates on a list of values -/
def AllP (F : FP) (w : World) : List RP → List Value → Prop
  | [], [] => True
  | φ :: φs, v :: vs => φ.h F w v ∧ AllP F w φs vs
  | _, _ => False

theorem AllP.mono {F F' : FP} {w w' : World} (a : Ag F F' w w') : ∀ {φs : List RP} {vs : List Value}, AllP F w φs vs → AllP F' w' φs vs
  | [], [], _ => trivial
  | φ :: _, _ :: _, ⟨h1, h2⟩ => ⟨φ.mono a h1, AllP.mono a h2⟩
  | [], _ :: _, h => h.elim
  | _ :: _, [], h => h.elim

theorem AllP.length {F : FP} {w : World} : ∀ {φs : List RP} {vs : List Value}, AllP F w φs vs → vs.length = φs.length
  | [], [], _ => rfl
  | _ :: _, _ :: _, ⟨_, h2⟩ => by simp [AllP.length h2]
  | [], _ :: _, h => h.elim
  | _ :: _, [], h => h.elim

theorem AllP.get {F : FP} {w : World} : ∀ {φs : List RP} {vs : List Value}, AllP F w φs vs → ∀ {i : Nat} {φ : RP}, φs[i]? = some φ → ∃ v, vs[i]? = some v ∧ φ.h F w v
  | [], [], _, i, φ, h => by simp at h
  | ψ :: φs, v :: vs, ⟨h1, h2⟩, i, φ, h => by
    cases i with
    | zero => simp at h; subst h; exact ⟨v, by simp, h1⟩
    | succ i => simp at h; obtain ⟨u, hu, hh⟩ := h2.get h; exact ⟨u, by simpa using hu, hh⟩
  | [], _ :: _, h, _, _, _ => h.elim
  | _ :: _, [], h, _, _, _ => h.elim

theorem AllP.set {F : FP} {w : World} : ∀ {φs : List RP} {vs : List Value}, AllP F w φs vs → ∀ {i : Nat} {φ : RP} {v : Value}, φ.h F w v → AllP F w (φs.set i φ) (vs.set i v)
  | [], [], _, i, φ, v, h => by simp [AllP]
  | ψ :: φs, u :: vs, ⟨h1, h2⟩, i, φ, v, h => by
    cases i with
    | zero => exact ⟨h, h2⟩
    | succ i => exact ⟨h1, h2.set h⟩
  | [], _ :: _, h, _, _, _, _ => h.elim
  | _ :: _, [], h, _, _, _, _ => h.elim

theorem AllP.append {F : FP} {w : World} : ∀ {φs ψs : List RP} {vs us : List Value}, AllP F w φs vs → AllP F w ψs us → AllP F w (φs ++ ψs) (vs ++ us)
  | [], _, [], _, _, h => h
  | _ :: _, _, _ :: _, _, ⟨h1, h2⟩, h => ⟨h1, h2.append h⟩
  | [], _, _ :: _, _, h, _ => h.elim
  | _ :: _, _, [], _, h, _ => h.elim

theorem AllP.split {F : FP} {w : World} : ∀ {φs ψs : List RP} {vs : List Value}, AllP F w (φs ++ ψs) vs → ∃ us ts, vs = us ++ ts ∧ AllP F w φs us ∧ AllP F w ψs ts
  | [], _, vs, h => ⟨[], vs, rfl, trivial, h⟩
  | _ :: _, _, _ :: _, ⟨h1, h2⟩ => let ⟨us, ts, e, h3, h4⟩ := h2.split; ⟨_ :: us, ts, by rw [e]; rfl, ⟨h1, h3⟩, h4⟩
  | _ :: _, _, [], h => h.elim

theorem AllP.drop {F : FP} {w : World} : ∀ {φs : List RP} {vs : List Value} (n : Nat), AllP F w φs vs → AllP F w (φs.drop n) (vs.drop n)
  | [], [], n, _ => by simp [AllP]
  | _ :: _, _ :: _, 0, h => h
  | _ :: _, _ :: _, n + 1, ⟨_, h2⟩ => AllP.drop n h2
  | [], _ :: _, _, h => h.elim
  | _ :: _, [], _, h => h.elim

theorem AllP.take {F : FP} {w : World} : ∀ {φs : List RP} {vs : List Value} (n : Nat), AllP F w φs vs → AllP F w (φs.take n) (vs.take n)
  | [], [], n, _ => by simp [AllP]
  | _ :: _, _ :: _, 0, h => trivial
  | _ :: _, _ :: _, n + 1, ⟨h1, h2⟩ => ⟨h1, AllP.take n h2⟩
  | [], _ :: _, _, h => h.elim
  | _ :: _, [], _, h => h.elim

def ag (φs : List RP) : RP := ⟨fun F w v => ∃ cs, v = .agg cs ∧ AllP F w φs cs.toList, fun a ⟨cs, e, h⟩ => ⟨cs, e, h.mono a⟩⟩
def tup (φs : List RP) : RP := ⟨fun F w v => ∃ cs, v = .tuple cs ∧ AllP F w φs cs.toList, fun a ⟨cs, e, h⟩ => ⟨cs, e, h.mono a⟩⟩

/-- a value of one cell -/
def RP.At (φ : RP) : Prop := ∀ {F w v}, φ.h F w v → v.oneCell' = true
theorem pv_at {v : Value} (h : v.oneCell' = true) : (pv v).At := fun e => by rw [show _ = v from e]; exact h

/-- how data of a type lie in cells -/
structure Rep (α : Type) where
  size : Nat
  agg : Bool
  cp : α → List RP
  len : ∀ d, (cp d).length = size
  at_ : ∀ d φ, φ ∈ cp d → φ.At
  one : agg = false → size = 1

def sh {α : Type} (ρ : Rep α) (d : α) : RP := bif ρ.agg then ag (ρ.cp d) else (ρ.cp d).headD (pv undef)

def mkV (g : Bool) (cs : List Value) : Value := bif g then .agg cs.toArray else cs.headD undef

theorem AllP.atoms {F : FP} {w : World} : ∀ {φs : List RP} {cs : List Value}, (∀ φ ∈ φs, φ.At) → AllP F w φs cs → ∀ v ∈ cs, v.oneCell' = true
  | [], [], _, _, v, hv => by simp at hv
  | φ :: _, u :: _, h0, ⟨h1, h2⟩, v, hv => by
    rcases List.mem_cons.1 hv with e | e
    · rw [e]; exact h0 φ (by simp) h1
    · exact AllP.atoms (fun ψ hψ => h0 ψ (by simp [hψ])) h2 v e
  | [], _ :: _, _, h, _, _ => h.elim
  | _ :: _, [], _, h, _, _ => h.elim

theorem cells_one {v : Value} (h : v.oneCell' = true) : v.cells = #[v] := by cases v <;> first | rfl | simp [Value.oneCell'] at h

theorem sh_iff {α : Type} {ρ : Rep α} {d : α} {F : FP} {w : World} {v : Value} : (sh ρ d).h F w v ↔ ∃ cs, AllP F w (ρ.cp d) cs ∧ v = mkV ρ.agg cs := by
  unfold sh mkV
  cases hg : ρ.agg with
  | true =>
    constructor
    · rintro ⟨cs, e, h⟩; exact ⟨cs.toList, h, by simpa using e⟩
    · rintro ⟨cs, h, e⟩; exact ⟨cs.toArray, e, by simpa using h⟩
  | false =>
    have h1 := ρ.one hg
    have h2 := ρ.len d
    rw [h1] at h2
    obtain ⟨φ, hφ⟩ : ∃ φ, ρ.cp d = [φ] := List.length_eq_one_iff.1 h2
    rw [hφ]
    constructor
    · intro h; exact ⟨[v], ⟨h, trivial⟩, rfl⟩
    · rintro ⟨cs, h, e⟩
      match cs, h with
      | [u], ⟨h, _⟩ => subst e; exact h

def iv (k : IntKind) (n : Int) : RP := pv (.int k n)
def bv (b : Bool) : RP := pv (.bool b)
def sv (s : ByteArray) : RP := pv (.string s)

def one {α : Type} (enc : α → RP) (h : ∀ d, (enc d).At) : Rep α where
  size := 1
  agg := false
  cp := fun d => [enc d]
  len := fun _ => rfl
  at_ := fun d φ hφ => by rw [List.mem_singleton.1 hφ]; exact h d
  one := fun _ => rfl

def rI (k : IntKind) : Rep Int := one (iv k) fun _ => pv_at rfl
def rB : Rep Bool := one bv fun _ => pv_at rfl
def rS : Rep ByteArray := one sv fun _ => pv_at rfl

/-- the elements of a slice -/
def SlH {α : Type} (ρ : Rep α) (F : FP) (w : World) (cells : Array Value) (off : Nat) (d : List α) : Prop :=
  ∀ i (hi : i < d.length), ∃ es, AllP F w (ρ.cp d[i]) es ∧ ∀ j, j < ρ.size → cells[off + i * ρ.size + j]? = es[j]?

theorem SlH.mono {α : Type} {ρ : Rep α} {F F' : FP} {w w' : World} {cells : Array Value} {off : Nat} {d : List α} (a : Ag F F' w w')
    (h : SlH ρ F w cells off d) : SlH ρ F' w' cells off d :=
  fun i hi => let ⟨es, h1, h2⟩ := h i hi; ⟨es, h1.mono a, h2⟩

def SlAt {α : Type} (ρ : Rep α) (F : FP) (w : World) (a : Option Addr) (d : List α) : Prop :=
  d ≠ [] → ∃ b off cells ty fz, a = some ⟨b, off, none⟩ ∧ F b ∧ w.heap[b]? = some (.cells cells ty fz) ∧ SlH ρ F w cells off d

theorem size_of_get {w : World} {b : Nat} {o : Obj} (h : w.heap[b]? = some o) : b < w.heap.size := (Array.getElem?_eq_some_iff.1 h).1

theorem SlAt.mono {α : Type} {ρ : Rep α} {F F' : FP} {w w' : World} {x : Option Addr} {d : List α} (a : Ag F F' w w')
    (h : SlAt ρ F w x d) : SlAt ρ F' w' x d := fun hd =>
  let ⟨b, off, cells, ty, fz, h1, h2, h3, h4⟩ := h hd
  have hb := size_of_get h3
  ⟨b, off, cells, ty, fz, h1, a.f b hb h2, by rw [a.s b hb h2]; exact h3, h4.mono a⟩

def slv {α : Type} (ρ : Rep α) (d : List α) : RP :=
  ⟨fun F w v => ∃ a c, v = .slice a d.length c ∧ d.length ≤ c ∧ SlAt ρ F w a d, fun ag ⟨a, c, h1, h2, h3⟩ => ⟨a, c, h1, h2, h3.mono ag⟩⟩

def rSl {α : Type} (ρ : Rep α) : Rep (List α) := one (slv ρ) fun d => fun ⟨a, c, h, _⟩ => by rw [h]; rfl

/-- structs: fields one after another -/
structure FR (α : Type) where
  {β : Type}
  rep : Rep β
  get : α → β

def stSize {α : Type} : List (FR α) → Nat
  | [] => 0
  | f :: fs => f.rep.size + stSize fs

def stCp {α : Type} (d : α) : List (FR α) → List RP
  | [] => []
  | f :: fs => f.rep.cp (f.get d) ++ stCp d fs

def rSt {α : Type} (fs : List (FR α)) : Rep α where
  size := stSize fs
  agg := true
  cp := fun d => stCp d fs
  len := fun d => by
    induction fs with
    | nil => rfl
    | cons f fs ih => simp [stCp, stSize, f.rep.len, ih]
  at_ := fun d φ hφ => by
    induction fs with
    | nil => simp [stCp] at hφ
    | cons f fs ih =>
      rcases List.mem_append.1 hφ with h | h
      · exact f.rep.at_ _ φ h
      · exact ih h
  one := fun h => by cases h

/-- arrays of a fixed length -/
def rAr {α : Type} (n : Nat) (ρ : Rep α) : Rep (Vector α n) where
  size := n * ρ.size
  agg := true
  cp := fun d => d.toList.flatMap ρ.cp
  len := fun d => by
    have : ∀ l : List α, (l.flatMap ρ.cp).length = l.length * ρ.size := fun l => by
      induction l with
      | nil => simp
      | cons x l ih => simp [ρ.len, ih, Nat.succ_mul, Nat.add_comm]
    rw [this]; simp
  at_ := fun d φ hφ => by
    obtain ⟨x, _, h⟩ := List.mem_flatMap.1 hφ
    exact ρ.at_ x φ h
  one := fun h => by cases h

/-- the address of data that stand in shared memory -/
def ea {α : Type} (ρ : Rep α) (x : α) : RP :=
  ⟨fun F w v => ∃ b off cells ty fz es, v = .pointer (some ⟨b, off, none⟩) ∧ F b ∧ w.heap[b]? = some (.cells cells ty fz) ∧ AllP F w (ρ.cp x) es ∧ ∀ j, j < ρ.size → cells[off + j]? = es[j]?,
   fun a ⟨b, off, cells, ty, fz, es, h1, h2, h3, h4, h5⟩ =>
    have hb := size_of_get h3
    ⟨b, off, cells, ty, fz, es, h1, a.f b hb h2, by rw [a.s b hb h2]; exact h3, h4.mono a, h5⟩⟩

/-! ## Objects: blocks that the code may write -/
structure OB where
  S : List Nat
  h : FP → World → Prop
  mono : ∀ {F F' : FP} {w w' : World}, Ag F F' w w' → (∀ b ∈ S, w'.heap[b]? = w.heap[b]?) → h F w → h F' w'

def dead : OB := ⟨[], fun _ _ => True, fun _ _ h => h⟩

/-- a slice that is owned -/
def oa {α : Type} (ρ : Rep α) (hv : Value) (S : List Nat) (d : List α) : OB where
  S := S
  h := fun F w => ∃ a c, hv = .slice a d.length c ∧ d.length ≤ c ∧
    ((a = none ∧ S = [] ∧ c = 0) ∨
     ∃ b off cells ty, a = some ⟨b, off, none⟩ ∧ S = [b] ∧ w.heap[b]? = some (.cells cells ty (0, 0)) ∧ off + c * ρ.size ≤ cells.size ∧ SlH ρ F w cells off d)
  mono := by
    rintro F F' w w' ag hs ⟨a, c, h1, h2, h3⟩
    refine ⟨a, c, h1, h2, ?_⟩
    rcases h3 with h3 | ⟨b, off, cells, ty, h4, rfl, h6, h7, h8⟩
    · exact .inl h3
    · exact .inr ⟨b, off, cells, ty, h4, rfl, by rw [hs b (by simp)]; exact h6, h7, h8.mono ag⟩

/-- a variable: a block of cells -/
def oc (b : Nat) (φs : List RP) : OB where
  S := [b]
  h := fun F w => ∃ cells ty, w.heap[b]? = some (.cells cells ty (0, 0)) ∧ AllP F w φs cells.toList
  mono := by
    rintro F F' w w' ag hs ⟨cells, ty, h1, h2⟩
    exact ⟨cells, ty, by rw [hs b (by simp)]; exact h1, h2.mono ag⟩

def ow (Ω : List OB) : List Nat := Ω.flatMap (·.S)

/-! ## States -/
structure Kept (M : List Nat) (w w' : World) : Prop where
  os : w'.os = w.os
  tape : w'.tape = w.tape
  output : w'.output = w.output
  drawn : w.drawn ≤ w'.drawn
  size : w.heap.size ≤ w'.heap.size
  blk : ∀ b, b < w.heap.size → b ∉ M → w'.heap[b]? = w.heap[b]?

theorem Kept.refl (M : List Nat) (w : World) : Kept M w w := ⟨rfl, rfl, rfl, Nat.le_refl _, Nat.le_refl _, fun _ _ _ => rfl⟩
theorem Kept.trans {M : List Nat} {a b c : World} (h : Kept M a b) (k : Kept M b c) : Kept M a c :=
  ⟨k.os.trans h.os, k.tape.trans h.tape, k.output.trans h.output, Nat.le_trans h.drawn k.drawn, Nat.le_trans h.size k.size,
   fun i hi hm => (k.blk i (Nat.lt_of_lt_of_le hi h.size) hm).trans (h.blk i hi hm)⟩

structure Env where
  w0 : World
  M : List Nat
  Fr : FP
  mf : ∀ b ∈ M, Fr b

def lk : List (Nat × RP) → Nat → Option RP
  | [], _ => none
  | (t, φ) :: r, s => bif Nat.beq t s then some φ else lk r s

def fr (E : Env) (Ω : List OB) : FP := fun b => E.Fr b ∧ b ∉ ow Ω

structure Sat (E : Env) (N : Nat) (Γ : List (Nat × RP)) (Ω : List OB) (a : Act) (w : World) : Prop where
  sz : a.tmps.size = N
  df : a.defers = []
  sl : ∀ t φ, lk Γ t = some φ → φ.h (fr E Ω) w (a.tmps.getD t undef)
  ob : ∀ o ∈ Ω, o.h (fr E Ω) w
  nd : (ow Ω).Nodup
  bd : ∀ b ∈ ow Ω, b < w.heap.size ∧ (E.w0.heap.size ≤ b ∨ b ∈ E.M)
  kp : Kept E.M E.w0 w
  fs : ∀ b, E.w0.heap.size ≤ b → E.Fr b

def RPof : Value → RP
  | .int k n => iv k n
  | .bool b => bv b
  | .string s => sv s
  | v => pv v

theorem RPof_h (v : Value) (F : FP) (w : World) : (RPof v).h F w v := by
  unfold RPof
  split <;> rfl

def lkO (Γ : List (Nat × RP)) : Operand → Option RP
  | .tmp t => lk Γ t
  | .const v => some (RPof v)
  | .func f => some (pv (.func (.func f) #[] #[]))
  | .global _ => none

variable {E : Env} {N : Nat} {Γ Γ' : List (Nat × RP)} {Ω Ω' : List OB} {a : Act} {w : World}

theorem Sat.op (h : Sat E N Γ Ω a w) {x : Operand} {φ : RP} (hx : lkO Γ x = some φ) : φ.h (fr E Ω) w (a.eval x) := by
  cases x with
  | tmp t => exact h.sl t φ hx
  | const v => simp only [lkO, Option.some.injEq] at hx; subst hx; exact RPof_h v _ _
  | func f => simp only [lkO, Option.some.injEq] at hx; subst hx; rfl
  | global g => cases hx

theorem beq_ne {s t : Nat} (h : s ≠ t) : Nat.beq s t = false := by
  cases hh : Nat.beq s t
  · rfl
  · exact absurd (Nat.eq_of_beq_eq_true hh) h

theorem lk_cons_eq {t : Nat} {φ : RP} : lk ((t, φ) :: Γ) t = some φ := by simp [lk]
theorem lk_cons_ne {t s : Nat} {φ : RP} (h : t ≠ s) : lk ((t, φ) :: Γ) s = lk Γ s := by simp [lk, beq_ne h]

theorem put_getD {a : Act} {d t : Nat} {v : Value} (hd : d < a.tmps.size) :
    (a.put (some d) v).tmps.getD t undef = if t = d then v else a.tmps.getD t undef := by
  by_cases e : t = d
  · subst e; simp [Act.put, hd]
  · rw [if_neg e]; simp [Act.put, Array.getElem?_setIfInBounds_ne (Ne.symm e)]

theorem Sat.put (h : Sat E N Γ Ω a w) {d : Nat} {v : Value} {φ : RP} (hd : d < N) (hv : φ.h (fr E Ω) w v) : Sat E N ((d, φ) :: Γ) Ω (a.put (some d) v) w where
  sz := by simpa [Act.put] using h.sz
  df := h.df
  sl := fun t ψ ht => by
    rw [put_getD (by rw [h.sz]; exact hd)]
    by_cases e : t = d
    · subst e; rw [lk_cons_eq] at ht; cases ht; rw [if_pos rfl]; exact hv
    · rw [if_neg e]; rw [lk_cons_ne (Ne.symm e)] at ht; exact h.sl t ψ ht
  ob := h.ob
  nd := h.nd
  bd := h.bd
  kp := h.kp
  fs := h.fs

/-- a slot that is written with whatever -/
def del : List (Nat × RP) → Nat → List (Nat × RP)
  | [], _ => []
  | (t, φ) :: r, d => bif Nat.beq t d then del r d else (t, φ) :: del r d

theorem Sat.dst (h : Sat E N Γ Ω a w) {d : Option Nat} {v : Value} {Γ' : List (Nat × RP)}
    (hΓ : ∀ t φ, lk Γ' t = some φ → some t ≠ d ∧ lk Γ t = some φ) : Sat E N Γ' Ω (a.put d v) w where
  sz := by cases d <;> simpa [Act.put] using h.sz
  df := by cases d <;> exact h.df
  sl := fun t ψ ht => by
    obtain ⟨h1, h2⟩ := hΓ t ψ ht
    cases d with
    | none => exact h.sl t ψ h2
    | some d =>
      have : (a.put (some d) v).tmps.getD t undef = a.tmps.getD t undef := by
        simp [Act.put, Array.getElem?_setIfInBounds_ne (fun e : d = t => h1 (by rw [e]))]
      rw [this]; exact h.sl t ψ h2
  ob := h.ob
  nd := h.nd
  bd := h.bd
  kp := h.kp
  fs := h.fs

/-- a change of the world: which blocks stay -/
theorem Sat.world (h : Sat E N Γ Ω a w) {w' : World} {Ω' : List OB}
    (hos : w'.os = w.os ∧ w'.tape = w.tape ∧ w'.output = w.output ∧ w.drawn ≤ w'.drawn)
    (hsz : w.heap.size ≤ w'.heap.size)
    (hst : ∀ b, b < w.heap.size → b ∉ ow Ω → w'.heap[b]? = w.heap[b]?)
    (hS : ∀ b ∈ ow Ω', b ∈ ow Ω ∨ (w.heap.size ≤ b ∧ b < w'.heap.size))
    (hnd : (ow Ω').Nodup)
    (hob : ∀ o ∈ Ω', o.h (fr E Ω') w') : Sat E N Γ Ω' a w' := by
  have hag : Ag (fr E Ω) (fr E Ω') w w' := ⟨fun b hb ⟨h1, h2⟩ => ⟨h1, fun hm => by
      rcases hS b hm with h3 | h3
      · exact h2 h3
      · omega⟩, fun b hb ⟨_, h2⟩ => hst b hb h2⟩
  refine ⟨h.sz, h.df, fun t φ ht => φ.mono hag (h.sl t φ ht), hob, hnd, ?_, ?_, h.fs⟩
  · intro b hb
    rcases hS b hb with h3 | ⟨h3, h4⟩
    · obtain ⟨h5, h6⟩ := h.bd b h3; exact ⟨by omega, h6⟩
    · exact ⟨h4, .inl (Nat.le_trans h.kp.size h3)⟩
  · refine ⟨hos.1.trans h.kp.os, hos.2.1.trans h.kp.tape, hos.2.2.1.trans h.kp.output, Nat.le_trans h.kp.drawn hos.2.2.2, Nat.le_trans h.kp.size hsz, fun b hb hm => ?_⟩
    rw [← h.kp.blk b hb hm]
    refine hst b (Nat.lt_of_lt_of_le hb h.kp.size) fun hin => ?_
    rcases (h.bd b hin).2 with h3 | h3
    · omega
    · exact hm h3

/-- only new blocks, all shared -/
theorem Sat.ext (h : Sat E N Γ Ω a w) {w' : World}
    (hos : w'.os = w.os ∧ w'.tape = w.tape ∧ w'.output = w.output ∧ w.drawn ≤ w'.drawn)
    (hsz : w.heap.size ≤ w'.heap.size)
    (hst : ∀ b, b < w.heap.size → w'.heap[b]? = w.heap[b]?) : Sat E N Γ Ω a w' :=
  h.world hos hsz (fun b hb _ => hst b hb) (fun _ hb => .inl hb) h.nd fun o ho =>
    o.mono ⟨fun _ _ hb => hb, fun b hb _ => hst b hb⟩ (fun b hb => hst b (h.bd b (List.mem_flatMap.2 ⟨o, ho, hb⟩)).1) (h.ob o ho)

theorem ow_append (Ω Ω' : List OB) : ow (Ω ++ Ω') = ow Ω ++ ow Ω' := by simp [ow]
theorem ow_one (o : OB) : ow [o] = o.S := by simp [ow]

/-- new blocks, and a new object among them -/
theorem Sat.add (h : Sat E N Γ Ω a w) {w' : World} {o : OB}
    (hos : w'.os = w.os ∧ w'.tape = w.tape ∧ w'.output = w.output ∧ w.drawn ≤ w'.drawn)
    (hsz : w.heap.size ≤ w'.heap.size)
    (hst : ∀ b, b < w.heap.size → w'.heap[b]? = w.heap[b]?)
    (hS : ∀ b ∈ o.S, w.heap.size ≤ b ∧ b < w'.heap.size) (hnd : o.S.Nodup)
    (hob : o.h (fr E (Ω ++ [o])) w') : Sat E N Γ (Ω ++ [o]) a w' := by
  have how : ow (Ω ++ [o]) = ow Ω ++ o.S := by rw [ow_append, ow_one]
  refine h.world hos hsz (fun b hb _ => hst b hb) ?_ ?_ ?_
  · intro b hb
    rw [how, List.mem_append] at hb
    rcases hb with hb | hb
    · exact .inl hb
    · exact .inr (hS b hb)
  · rw [how]
    refine List.nodup_append.2 ⟨h.nd, hnd, fun x hx y hy e => ?_⟩
    subst e
    have := (h.bd x hx).1
    have := (hS x hy).1
    omega
  · intro p hp
    rcases List.mem_append.1 hp with hp | hp
    · refine p.mono ⟨fun b hb ⟨h1, h2⟩ => ⟨h1, fun hm => ?_⟩, fun b hb _ => hst b hb⟩ (fun b hb => hst b (h.bd b (List.mem_flatMap.2 ⟨p, hp, hb⟩)).1) (h.ob p hp)
      rw [how, List.mem_append] at hm
      rcases hm with hm | hm
      · exact h2 hm
      · have := (hS b hm).1; omega
    · rw [List.mem_singleton.1 hp]; exact hob

theorem ow_split {j : Nat} {o : OB} (hj : Ω[j]? = some o) : ∃ A B, Ω = A ++ o :: B ∧ A.length = j := by
  have hlt := (List.getElem?_eq_some_iff.1 hj).1
  refine ⟨Ω.take j, Ω.drop (j + 1), ?_, by simp; omega⟩
  have h2 : Ω[j] = o := (List.getElem?_eq_some_iff.1 hj).2
  rw [← h2, List.getElem_cons_drop, List.take_append_drop]

theorem set_split {A B : List OB} {o o' : OB} : (A ++ o :: B).set A.length o' = A ++ o' :: B := by
  simp

theorem ow_mid (A B : List OB) (o : OB) : ow (A ++ o :: B) = ow A ++ (o.S ++ ow B) := by simp [ow]

/-- an object is changed (or given up, or replaced by one with new blocks) -/
theorem Sat.upd (h : Sat E N Γ Ω a w) {w' : World} {j : Nat} {o o' : OB} (hj : Ω[j]? = some o)
    (hos : w'.os = w.os ∧ w'.tape = w.tape ∧ w'.output = w.output ∧ w.drawn ≤ w'.drawn)
    (hsz : w.heap.size ≤ w'.heap.size)
    (hst : ∀ b, b < w.heap.size → b ∉ o.S → w'.heap[b]? = w.heap[b]?)
    (hS : ∀ b ∈ o'.S, b ∈ o.S ∨ (w.heap.size ≤ b ∧ b < w'.heap.size)) (hnd : o'.S.Nodup)
    (hob : o'.h (fr E (Ω.set j o')) w') : Sat E N Γ (Ω.set j o') a w' := by
  obtain ⟨A, B, rfl, rfl⟩ := ow_split hj
  rw [set_split] at hob ⊢
  have hnd0 := h.nd
  rw [ow_mid] at hnd0
  have hbd0 : ∀ b ∈ ow A ++ (o.S ++ ow B), b < w.heap.size := fun b hb => (h.bd b (by rw [ow_mid]; exact hb)).1
  have hbdA : ∀ b ∈ ow A, b < w.heap.size := fun b hb => hbd0 b (List.mem_append_left _ hb)
  have hbdB : ∀ b ∈ ow B, b < w.heap.size := fun b hb => hbd0 b (List.mem_append_right _ (List.mem_append_right _ hb))
  obtain ⟨nA, nR, dA⟩ := List.nodup_append.1 hnd0
  obtain ⟨nO, nB, dO⟩ := List.nodup_append.1 nR
  refine h.world hos hsz (fun b hb hn => hst b hb fun hm => hn (by rw [ow_mid]; simp [hm])) ?_ ?_ ?_
  · intro b hb
    rw [ow_mid, List.mem_append, List.mem_append] at hb
    rw [ow_mid, List.mem_append, List.mem_append]
    rcases hb with hb | hb | hb
    · exact .inl (.inl hb)
    · rcases hS b hb with h1 | h1
      · exact .inl (.inr (.inl h1))
      · exact .inr h1
    · exact .inl (.inr (.inr hb))
  · rw [ow_mid]
    refine List.nodup_append.2 ⟨nA, List.nodup_append.2 ⟨hnd, nB, fun x hx y hy e => ?_⟩, fun x hx y hy e => ?_⟩
    · subst e
      rcases hS x hx with h1 | h1
      · exact dO x h1 x hy rfl
      · have := hbdB x hy; omega
    · subst e
      rcases List.mem_append.1 hy with hy | hy
      · rcases hS x hy with h1 | h1
        · exact dA x hx x (List.mem_append_left _ h1) rfl
        · have := hbdA x hx; omega
      · exact dA x hx x (List.mem_append_right _ hy) rfl
  · have hfr : ∀ b, b < w.heap.size → fr E (A ++ o :: B) b → fr E (A ++ o' :: B) b := fun b hb ⟨h1, h2⟩ => ⟨h1, fun hm => by
      rw [ow_mid, List.mem_append, List.mem_append] at hm
      rw [ow_mid, List.mem_append, List.mem_append] at h2
      rcases hm with hm | hm | hm
      · exact h2 (.inl hm)
      · rcases hS b hm with h3 | h3
        · exact h2 (.inr (.inl h3))
        · omega
      · exact h2 (.inr (.inr hm))⟩
    have hag : Ag (fr E (A ++ o :: B)) (fr E (A ++ o' :: B)) w w' := ⟨hfr, fun b hb ⟨_, h2⟩ => hst b hb fun hm => h2 (by rw [ow_mid]; simp [hm])⟩
    intro p hp
    rcases List.mem_append.1 hp with hp | hp
    · refine p.mono hag (fun b hb => ?_) (h.ob p (List.mem_append_left _ hp))
      have hbA : b ∈ ow A := List.mem_flatMap.2 ⟨p, hp, hb⟩
      exact hst b (hbdA b hbA) fun hm => dA b hbA b (List.mem_append_left _ hm) rfl
    · rcases List.mem_cons.1 hp with hp | hp
      · rw [hp]; exact hob
      · refine p.mono hag (fun b hb => ?_) (h.ob p (List.mem_append_right _ (List.mem_cons_of_mem _ hp)))
        have hbB : b ∈ ow B := List.mem_flatMap.2 ⟨p, hp, hb⟩
        exact hst b (hbdB b hbB) fun hm => dO b hm b hbB rfl

theorem Sat.objAt (h : Sat E N Γ Ω a w) {j : Nat} {o : OB} (hj : Ω[j]? = some o) : o.h (fr E Ω) w := h.ob o (List.mem_of_getElem? hj)

theorem Sat.notin {j : Nat} {o : OB} (hj : Ω[j]? = some o) {b : Nat} (hb : b ∈ o.S) : b ∈ ow Ω :=
  List.mem_flatMap.2 ⟨o, List.mem_of_getElem? hj, hb⟩

/-- blocks of ours may be given up -/
theorem Sat.mine (h : Sat E N Γ Ω a w) {b : Nat} (hb : b ∈ ow Ω) : E.Fr b := (h.bd b hb).2.elim (h.fs b) (E.mf b)

/-- less is known -/
theorem Sat.weak (h : Sat E N Γ Ω a w) (hΓ : ∀ t φ, lk Γ' t = some φ → lk Γ t = some φ) : Sat E N Γ' Ω a w :=
  ⟨h.sz, h.df, fun t φ ht => h.sl t φ (hΓ t φ ht), h.ob, h.nd, h.bd, h.kp, h.fs⟩

/-- Γ' holds of what Γ says, entry by entry -/
def SubΓ (Γ : List (Nat × RP)) : List (Nat × RP) → Prop
  | [] => True
  | (t, φ) :: r => lk Γ t = some φ ∧ SubΓ Γ r

theorem SubΓ.lk : ∀ {Γ' : List (Nat × RP)}, SubΓ Γ Γ' → ∀ t φ, lk Γ' t = some φ → Dc.lk Γ t = some φ
  | [], _, t, φ, h => by simp [Dc.lk] at h
  | (s, ψ) :: r, ⟨h1, h2⟩, t, φ, h => by
    by_cases e : s = t
    · subst e; rw [lk_cons_eq] at h; cases h; exact h1
    · rw [lk_cons_ne e] at h; exact h2.lk t φ h

end Go.Dc
