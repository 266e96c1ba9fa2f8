/- Part Dc.Mem4 of a proof: lemmas. -/
import Derived.Orders
import Derived.Tactics
import Derived.Laws.CopyRow
import Derived.Laws.OwnMore
import Derived.KernelRfl
import Derived.WalkKit
import Derived.Laws.MakeOwn
set_option linter.unusedSectionVars false
namespace Go.Dc
section loops
variable {σ ρ : Type}
def sV (f : σ → Option (Sum ρ σ)) : Nat → σ → Option ρ
 | 0, _ => none
 | n + 1, s => match f s with
  | none => none
  | some (.inl r) => some r
  | some (.inr s') => sV f n s'
theorem MF {f : σ → Option (Sum ρ σ)} {n : Nat} : ∀ {s : σ} {r : ρ}, sV f n s = some r → ∀ {m}, n ≤ m → sV f m s = some r := by
 induction n with
 | zero => intro s r h; simp [sV] at h
 | succ n ih =>
  intro s r h m hm
  obtain ⟨m, rfl⟩ : ∃ k, m = k + 1 := ⟨m - 1, by omega⟩
  simp only [sV] at h ⊢
  cases hf : f s with
  | none => rw [hf] at h; cases h
  | some x =>
   rw [hf] at h
   cases x with
   | inl r' => exact h
   | inr s' => exact ih h (by omega)
open Classical in
noncomputable def aI (f : σ → Option (Sum ρ σ)) (s : σ) : Option ρ :=
 if h : ∃ n r, sV f n s = some r then some h.choose_spec.choose else none
theorem o9 {f : σ → Option (Sum ρ σ)} {s : σ} {r : ρ} : aI f s = some r ↔ ∃ n, sV f n s = some r := by
 unfold aI
 constructor
 ·intro h
  split at h
  ·rename_i hx
   have := hx.choose_spec.choose_spec
   exact ⟨_, by rw [← h]; exact this⟩
  ·cases h
 ·rintro ⟨n, hn⟩
  have hx : ∃ n r, sV f n s = some r := ⟨n, r, hn⟩
  rw [dif_pos hx]
  have h2 := hx.choose_spec.choose_spec
  have h3 := MF hn (Nat.le_max_left n hx.choose)
  have h4 := MF h2 (Nat.le_max_right n hx.choose)
  rw [h3] at h4
  exact h4.symm
theorem gq (f : σ → Option (Sum ρ σ)) (s : σ) :
  aI f s = (f s).bind fun | .inl r => some r | .inr s' => aI f s' := by
 cases hf : f s with
 | none =>
  cases hl : aI f s with
  | none => rfl
  | some r =>
   obtain ⟨n, hn⟩ := o9.1 hl
   cases n <;> simp [sV, hf] at hn
 | some x =>
  cases x with
  | inl r => exact o9.2 ⟨1, by simp [sV, hf]⟩
  | inr s' =>
   show aI f s = aI f s'
   cases hl : aI f s' with
   | some r =>
    obtain ⟨n, hn⟩ := o9.1 hl
    exact o9.2 ⟨n + 1, by simp [sV, hf, hn]⟩
   | none =>
    cases h2 : aI f s with
    | none => rfl
    | some r =>
     obtain ⟨n, hn⟩ := o9.1 h2
     cases n with
     | zero => simp [sV] at hn
     | succ n =>
      simp only [sV, hf] at hn
      rw [o9.2 ⟨n, hn⟩] at hl
      cases hl
theorem RR {f : σ → Option (Sum ρ σ)} (I : σ → Prop) (Post : ρ → Prop) (μ : σ → Nat)
  (step : ∀ s, I s → (∃ r, f s = some (.inl r) ∧ Post r) ∨ ∃ s', f s = some (.inr s') ∧ I s' ∧ μ s' < μ s) :
  ∀ s, I s → ∃ r, aI f s = some r ∧ Post r := by
 intro s
 generalize hn : μ s = n
 induction n using Nat.strongRecOn generalizing s with
 | _ n ih =>
  intro hI
  rcases step s hI with ⟨r, hf, hp⟩ | ⟨s', hf, hI', hlt⟩
  ·exact ⟨r, by rw [gq, hf]; rfl, hp⟩
  ·obtain ⟨r, hr, hp⟩ := ih _ (hn ▸ hlt) s' rfl hI'
   exact ⟨r, by rw [gq, hf]; exact hr, hp⟩
end loops
def T4.{u, v} {α : Type u} {β : Type v} (x : α) (k : α → β) : β := k x
abbrev FP := Nat → Prop
structure Ag (F F' : FP) (w w' : World) : Prop where
 f : ∀ b, b < w.heap.size → F b → F' b
 s : ∀ b, b < w.heap.size → F b → w'.heap[b]? = w.heap[b]?
theorem Ag.refl {F F' : FP} {w : World} (h : ∀ b, b < w.heap.size → F b → F' b) : Ag F F' w w := ⟨h, fun _ _ _ => rfl⟩
structure RP where
 h : FP → World → Value → Prop
 mono : ∀ {F F' : FP} {w w' : World} {v : Value}, Ag F F' w w' → h F w v → h F' w' v
def pv (v : Value) : RP := ⟨fun _ _ u => u = v, fun _ h => h⟩
def bZ (F : FP) (w : World) : List RP → List Value → Prop
 | [], [] => True
 | φ :: bY, v :: vs => φ.h F w v ∧ bZ F w bY vs
 | _, _ => False
theorem bZ.mono {F F' : FP} {w w' : World} (a : Ag F F' w w') : ∀ {bY : List RP} {vs : List Value}, bZ F w bY vs → bZ F' w' bY vs
 | [], [], _ => trivial
 | φ :: _, _ :: _, ⟨h1, h2⟩ => ⟨φ.mono a h1, bZ.mono a h2⟩
 | [], _ :: _, h => h.elim
 | _ :: _, [], h => h.elim
theorem bZ.length {F : FP} {w : World} : ∀ {bY : List RP} {vs : List Value}, bZ F w bY vs → vs.length = bY.length
 | [], [], _ => rfl
 | _ :: _, _ :: _, ⟨_, h2⟩ => by simp [bZ.length h2]
 | [], _ :: _, h => h.elim
 | _ :: _, [], h => h.elim
theorem bZ.get {F : FP} {w : World} : ∀ {bY : List RP} {vs : List Value}, bZ F w bY vs → ∀ {i : Nat} {φ : RP}, bY[i]? = some φ → ∃ v, vs[i]? = some v ∧ φ.h F w v
 | [], [], _, i, φ, h => by simp at h
 | ψ :: bY, v :: vs, ⟨h1, h2⟩, i, φ, h => by
  cases i with
  | zero => simp at h; subst h; exact ⟨v, by simp, h1⟩
  | succ i => simp at h; obtain ⟨u, hu, hh⟩ := h2.get h; exact ⟨u, by simpa using hu, hh⟩
 | [], _ :: _, h, _, _, _ => h.elim
 | _ :: _, [], h, _, _, _ => h.elim
theorem bZ.append {F : FP} {w : World} : ∀ {bY fQ : List RP} {vs us : List Value}, bZ F w bY vs → bZ F w fQ us → bZ F w (bY ++ fQ) (vs ++ us)
 | [], _, [], _, _, h => h
 | _ :: _, _, _ :: _, _, ⟨h1, h2⟩, h => ⟨h1, h2.append h⟩
 | [], _, _ :: _, _, h, _ => h.elim
 | _ :: _, _, [], _, h, _ => h.elim
theorem bZ.split {F : FP} {w : World} : ∀ {bY fQ : List RP} {vs : List Value}, bZ F w (bY ++ fQ) vs → ∃ us ts, vs = us ++ ts ∧ bZ F w bY us ∧ bZ F w fQ ts
 | [], _, vs, h => ⟨[], vs, rfl, trivial, h⟩
 | _ :: _, _, _ :: _, ⟨h1, h2⟩ => let ⟨us, ts, e, h3, h4⟩ := h2.split; ⟨_ :: us, ts, by rw [e]; rfl, ⟨h1, h3⟩, h4⟩
 | _ :: _, _, [], h => h.elim
theorem bZ.drop {F : FP} {w : World} : ∀ {bY : List RP} {vs : List Value} (n : Nat), bZ F w bY vs → bZ F w (bY.drop n) (vs.drop n)
 | [], [], n, _ => by simp [bZ]
 | _ :: _, _ :: _, 0, h => h
 | _ :: _, _ :: _, n + 1, ⟨_, h2⟩ => bZ.drop n h2
 | [], _ :: _, _, h => h.elim
 | _ :: _, [], _, h => h.elim
theorem bZ.take {F : FP} {w : World} : ∀ {bY : List RP} {vs : List Value} (n : Nat), bZ F w bY vs → bZ F w (bY.take n) (vs.take n)
 | [], [], n, _ => by simp [bZ]
 | _ :: _, _ :: _, 0, h => trivial
 | _ :: _, _ :: _, n + 1, ⟨h1, h2⟩ => ⟨h1, bZ.take n h2⟩
 | [], _ :: _, _, h => h.elim
 | _ :: _, [], _, h => h.elim
def ag (bY : List RP) : RP := ⟨fun F w v => ∃ cs, v = .agg cs ∧ bZ F w bY cs.toList, fun a ⟨cs, e, h⟩ => ⟨cs, e, h.mono a⟩⟩
def I9 (bY : List RP) : RP := ⟨fun F w v => ∃ cs, v = .tuple cs ∧ bZ F w bY cs.toList, fun a ⟨cs, e, h⟩ => ⟨cs, e, h.mono a⟩⟩
def RP.At (φ : RP) : Prop := ∀ {F w v}, φ.h F w v → v.oneCell' = true
theorem lN {v : Value} (h : v.oneCell' = true) : (pv v).At := fun e => by rw [show _ = v from e]; exact h
structure iC (α : Type) where
 size : Nat
 agg : Bool
 cp : α → List RP
 len : ∀ d, (cp d).length = size
 at_ : ∀ d φ, φ ∈ cp d → φ.At
 one : agg = false → size = 1
def sh {α : Type} (ρ : iC α) (d : α) : RP := bif ρ.agg then ag (ρ.cp d) else (ρ.cp d).headD (pv undef)
def Z4 (g : Bool) (cs : List Value) : Value := bif g then .agg cs.toArray else cs.headD undef
theorem bZ.atoms {F : FP} {w : World} : ∀ {bY : List RP} {cs : List Value}, (∀ φ ∈ bY, φ.At) → bZ F w bY cs → ∀ v ∈ cs, v.oneCell' = true
 | [], [], _, _, v, hv => by simp at hv
 | φ :: _, u :: _, h0, ⟨h1, h2⟩, v, hv => by
  rcases List.mem_cons.1 hv with e | e
  ·rw [e]; exact h0 φ (by simp) h1
  ·exact bZ.atoms (fun ψ LG => h0 ψ (by simp [LG])) h2 v e
 | [], _ :: _, _, h, _, _ => h.elim
 | _ :: _, [], _, h, _, _ => h.elim
theorem cells_one {v : Value} (h : v.oneCell' = true) : v.cells = #[v] := by cases v <;> first | rfl | simp [Value.oneCell'] at h
theorem xK {α : Type} {ρ : iC α} {d : α} {F : FP} {w : World} {v : Value} : (sh ρ d).h F w v ↔ ∃ cs, bZ F w (ρ.cp d) cs ∧ v = Z4 ρ.agg cs := by
 unfold sh Z4
 cases hg : ρ.agg with
 | true =>
  constructor
  ·rintro ⟨cs, e, h⟩; exact ⟨cs.toList, h, by simpa using e⟩
  ·rintro ⟨cs, h, e⟩; exact ⟨cs.toArray, e, by simpa using h⟩
 | false =>
  have h1 := ρ.one hg
  have h2 := ρ.len d
  rw [h1] at h2
  obtain ⟨φ, hφ⟩ : ∃ φ, ρ.cp d = [φ] := List.length_eq_one_iff.1 h2
  rw [hφ]
  constructor
  ·intro h; exact ⟨[v], ⟨h, trivial⟩, rfl⟩
  ·rintro ⟨cs, h, e⟩
   match cs, h with
   | [u], ⟨h, _⟩ => subst e; exact h
def iv (k : IntKind) (n : Int) : RP := pv (.int k n)
def bv (b : Bool) : RP := pv (.bool b)
def sv (s : ByteArray) : RP := pv (.string s)
def one {α : Type} (enc : α → RP) (h : ∀ d, (enc d).At) : iC α where
 size := 1
 agg := false
 cp := fun d => [enc d]
 len := fun _ => rfl
 at_ := fun d φ hφ => by rw [List.mem_singleton.1 hφ]; exact h d
 one := fun _ => rfl
def rI (k : IntKind) : iC Int := one (iv k) fun _ => lN rfl
def rB : iC Bool := one bv fun _ => lN rfl
def rS : iC ByteArray := one sv fun _ => lN rfl
def NA {α : Type} (ρ : iC α) (F : FP) (w : World) (cells : Array Value) (off : Nat) (d : List α) : Prop :=
 ∀ i (hi : i < d.length), ∃ es, bZ F w (ρ.cp d[i]) es ∧ ∀ j, j < ρ.size → cells[off + i * ρ.size + j]? = es[j]?
theorem NA.mono {α : Type} {ρ : iC α} {F F' : FP} {w w' : World} {cells : Array Value} {off : Nat} {d : List α} (a : Ag F F' w w')
  (h : NA ρ F w cells off d) : NA ρ F' w' cells off d :=
 fun i hi => let ⟨es, h1, h2⟩ := h i hi; ⟨es, h1.mono a, h2⟩
def S3 {α : Type} (ρ : iC α) (F : FP) (w : World) (a : Option Addr) (d : List α) : Prop :=
 d ≠ [] → ∃ b off cells ty fz, a = some ⟨b, off, none⟩ ∧ F b ∧ w.heap[b]? = some (.cells cells ty fz) ∧ NA ρ F w cells off d
theorem bS {w : World} {b : Nat} {o : Obj} (h : w.heap[b]? = some o) : b < w.heap.size := (Array.getElem?_eq_some_iff.1 h).1
theorem S3.mono {α : Type} {ρ : iC α} {F F' : FP} {w w' : World} {x : Option Addr} {d : List α} (a : Ag F F' w w')
  (h : S3 ρ F w x d) : S3 ρ F' w' x d := fun hd =>
 let ⟨b, off, cells, ty, fz, h1, h2, h3, h4⟩ := h hd
 have hb := bS h3
 ⟨b, off, cells, ty, fz, h1, a.f b hb h2, by rw [a.s b hb h2]; exact h3, h4.mono a⟩
def eN {α : Type} (ρ : iC α) (d : List α) : RP :=
 ⟨fun F w v => ∃ a c, v = .slice a d.length c ∧ d.length ≤ c ∧ S3 ρ F w a d, fun ag ⟨a, c, h1, h2, h3⟩ => ⟨a, c, h1, h2, h3.mono ag⟩⟩
def wC {α : Type} (ρ : iC α) : iC (List α) := one (eN ρ) fun d => fun ⟨a, c, h, _⟩ => by rw [h]; rfl
structure FR (α : Type) where
 {β : Type}
 rep : iC β
 get : α → β
def Tq {α : Type} : List (FR α) → Nat
 | [] => 0
 | f :: fs => f.rep.size + Tq fs
def stCp {α : Type} (d : α) : List (FR α) → List RP
 | [] => []
 | f :: fs => f.rep.cp (f.get d) ++ stCp d fs
def Zt {α : Type} (fs : List (FR α)) : iC α where
 size := Tq fs
 agg := true
 cp := fun d => stCp d fs
 len := fun d => by
  induction fs with
  | nil => rfl
  | cons f fs ih => simp [stCp, Tq, f.rep.len, ih]
 at_ := fun d φ hφ => by
  induction fs with
  | nil => simp [stCp] at hφ
  | cons f fs ih =>
   rcases List.mem_append.1 hφ with h | h
   ·exact f.rep.at_ _ φ h
   ·exact ih h
 one := fun h => by cases h
def ea {α : Type} (ρ : iC α) (x : α) : RP :=
  ⟨fun F w v => ∃ b off cells ty fz es, v = .pointer (some ⟨b, off, none⟩) ∧ F b ∧ w.heap[b]? = some (.cells cells ty fz) ∧ bZ F w (ρ.cp x) es ∧ ∀ j, j < ρ.size → cells[off + j]? = es[j]?,
   fun a ⟨b, off, cells, ty, fz, es, h1, h2, h3, h4, h5⟩ =>
    have hb := bS h3
    ⟨b, off, cells, ty, fz, es, h1, a.f b hb h2, by rw [a.s b hb h2]; exact h3, h4.mono a, h5⟩⟩
structure OB where
 S : List Nat
 h : FP → World → Prop
 mono : ∀ {F F' : FP} {w w' : World}, Ag F F' w w' → (∀ b ∈ S, w'.heap[b]? = w.heap[b]?) → h F w → h F' w'
def dead : OB := ⟨[], fun _ _ => True, fun _ _ h => h⟩
def oa {α : Type} (ρ : iC α) (hv : Value) (S : List Nat) (d : List α) : OB where
  S := S
  h := fun F w => ∃ a c, hv = .slice a d.length c ∧ d.length ≤ c ∧
    ((a = none ∧ S = [] ∧ c = 0) ∨
     ∃ b off cells ty, a = some ⟨b, off, none⟩ ∧ S = [b] ∧ w.heap[b]? = some (.cells cells ty (0, 0)) ∧ off + c * ρ.size ≤ cells.size ∧ NA ρ F w cells off d)
  mono := by
    rintro F F' w w' ag hs ⟨a, c, h1, h2, h3⟩
    refine ⟨a, c, h1, h2, ?_⟩
    rcases h3 with h3 | ⟨b, off, cells, ty, h4, rfl, h6, h7, h8⟩
    · exact .inl h3
    · exact .inr ⟨b, off, cells, ty, h4, rfl, by rw [hs b (by simp)]; exact h6, h7, h8.mono ag⟩
def oc (b : Nat) (bY : List RP) : OB where
 S := [b]
 h := fun F w => ∃ cells ty, w.heap[b]? = some (.cells cells ty (0, 0)) ∧ bZ F w bY cells.toList
 mono := by
  rintro F F' w w' ag hs ⟨cells, ty, h1, h2⟩
  exact ⟨cells, ty, by rw [hs b (by simp)]; exact h1, h2.mono ag⟩
def ow (Ω : List OB) : List Nat := Ω.flatMap (·.S)
class aq where
 D : Prop
 tabs : List (Nat × Array Value)
instance (priority := low) u7 : aq := ⟨True, []⟩
variable [aq]
def SZ (F : FP) (w : World) : Prop := ∀ x ∈ aq.tabs, F x.1 ∧ ∃ ty fz, w.heap[x.1]? = some (.cells x.2 ty fz)
theorem SZ.mono {F F' : FP} {w w' : World} (h : SZ F w) (a : ∀ b, b < w.heap.size → F b → F' b ∧ w'.heap[b]? = w.heap[b]?) : SZ F' w' := fun x hx => by
 obtain ⟨h1, ty, fz, h2⟩ := h x hx
 have h3 := a x.1 (Array.getElem?_eq_some_iff.1 h2).1 h1
 exact ⟨h3.1, ty, fz, by rw [h3.2]; exact h2⟩
structure Kept (M : List Nat) (w w' : World) : Prop where
 os : w'.os = w.os
 tape : w'.tape = w.tape
 output : w'.output = w.output
 drawn : aq.D → w.drawn ≤ w'.drawn
 size : w.heap.size ≤ w'.heap.size
 blk : ∀ b, b < w.heap.size → b ∉ M → w'.heap[b]? = w.heap[b]?
theorem Kept.refl (M : List Nat) (w : World) : Kept M w w := ⟨rfl, rfl, rfl, fun _ => Nat.le_refl _, Nat.le_refl _, fun _ _ _ => rfl⟩
structure Env where
 w0 : World
 M : List Nat
 Fr : FP
 mf : ∀ b ∈ M, Fr b
 tb : SZ (fun b => Fr b ∧ b ∉ M) w0
def lk : List (Nat × RP) → Nat → Option RP
 | [], _ => none
 | (t, φ) :: r, s => bif Nat.beq t s then some φ else lk r s
def fr (E : Env) (Ω : List OB) : FP := fun b => E.Fr b ∧ b ∉ ow Ω
structure Sat (E : Env) (N : Nat) (Γ : List (Nat × RP)) (Ω : List OB) (a : Act) (w : World) : Prop where
 sz : a.tmps.size = N
 df : a.defers = []
 sl : ∀ t φ, lk Γ t = some φ → φ.h (fr E Ω) w (a.tmps.getD t undef)
 ob : ∀ o ∈ Ω, o.h (fr E Ω) w
 nd : (ow Ω).Nodup
 bd : ∀ b ∈ ow Ω, b < w.heap.size ∧ (E.w0.heap.size ≤ b ∨ b ∈ E.M)
 kp : Kept E.M E.w0 w
 fs : ∀ b, E.w0.heap.size ≤ b → E.Fr b
theorem Sat.tb {E : Env} {N : Nat} {Γ : List (Nat × RP)} {Ω : List OB} {a : Act} {w : World} (h : Sat E N Γ Ω a w) : SZ (fr E Ω) w :=
  E.tb.mono fun b hb hF => ⟨⟨hF.1, fun hm => by rcases (h.bd b hm).2 with h1 | h1
                                                · omega
                                                · exact hF.2 h1⟩, h.kp.blk b hb hF.2⟩
def RPof : Value → RP
 | .int k n => iv k n
 | .bool b => bv b
 | .string s => sv s
 | v => pv v
theorem RPof_h (v : Value) (F : FP) (w : World) : (RPof v).h F w v := by
 unfold RPof
 split <;> rfl
def dw (Γ : List (Nat × RP)) : Operand → Option RP
 | .tmp t => lk Γ t
 | .const v => some (RPof v)
 | .func f => some (pv (.func (.func f) #[] #[]))
 | .global _ => none
variable {E : Env} {N : Nat} {Γ Jb : List (Nat × RP)} {Ω fE : List OB} {a : Act} {w : World}
theorem Sat.op (h : Sat E N Γ Ω a w) {x : Operand} {φ : RP} (hx : dw Γ x = some φ) : φ.h (fr E Ω) w (a.eval x) := by
 cases x with
 | tmp t => exact h.sl t φ hx
 | const v => simp only [dw, Option.some.injEq] at hx; subst hx; exact RPof_h v _ _
 | func f => simp only [dw, Option.some.injEq] at hx; subst hx; rfl
 | global g => cases hx
theorem wz {s t : Nat} (h : s ≠ t) : Nat.beq s t = false := by
 cases hh : Nat.beq s t
 ·rfl
 ·exact absurd (Nat.eq_of_beq_eq_true hh) h
theorem jN {t : Nat} {φ : RP} : lk ((t, φ) :: Γ) t = some φ := by simp [lk]
theorem oH {t s : Nat} {φ : RP} (h : t ≠ s) : lk ((t, φ) :: Γ) s = lk Γ s := by simp [lk, wz h]
theorem Rw {a : Act} {d t : Nat} {v : Value} (hd : d < a.tmps.size) :
  (a.put (some d) v).tmps.getD t undef = if t = d then v else a.tmps.getD t undef := by
 by_cases e : t = d
 ·subst e; simp [Act.put, hd]
 ·rw [if_neg e]; simp [Act.put, Array.getElem?_setIfInBounds_ne (Ne.symm e)]
theorem Sat.put (h : Sat E N Γ Ω a w) {d : Nat} {v : Value} {φ : RP} (hd : d < N) (hv : φ.h (fr E Ω) w v) : Sat E N ((d, φ) :: Γ) Ω (a.put (some d) v) w where
 sz := by simpa [Act.put] using h.sz
 df := h.df
 sl := fun t ψ ht => by
  rw [Rw (by rw [h.sz]; exact hd)]
  by_cases e : t = d
  ·subst e; rw [jN] at ht; cases ht; rw [if_pos rfl]; exact hv
  ·rw [if_neg e]; rw [oH (Ne.symm e)] at ht; exact h.sl t ψ ht
 ob := h.ob
 nd := h.nd
 bd := h.bd
 kp := h.kp
 fs := h.fs
theorem Sat.world (h : Sat E N Γ Ω a w) {w' : World} {fE : List OB}
  (hos : w'.os = w.os ∧ w'.tape = w.tape ∧ w'.output = w.output ∧ (aq.D → w.drawn ≤ w'.drawn))
  (hsz : w.heap.size ≤ w'.heap.size)
  (hst : ∀ b, b < w.heap.size → b ∉ ow Ω → w'.heap[b]? = w.heap[b]?)
  (hS : ∀ b ∈ ow fE, b ∈ ow Ω ∨ (w.heap.size ≤ b ∧ b < w'.heap.size))
  (hnd : (ow fE).Nodup)
  (jP : ∀ o ∈ fE, o.h (fr E fE) w') : Sat E N Γ fE a w' := by
 have hag : Ag (fr E Ω) (fr E fE) w w' := ⟨fun b hb ⟨h1, h2⟩ => ⟨h1, fun hm => by
   rcases hS b hm with h3 | h3
   ·exact h2 h3
   ·omega⟩, fun b hb ⟨_, h2⟩ => hst b hb h2⟩
 refine ⟨h.sz, h.df, fun t φ ht => φ.mono hag (h.sl t φ ht), jP, hnd, ?_, ?_, h.fs⟩
 ·intro b hb
  rcases hS b hb with h3 | ⟨h3, h4⟩
  ·obtain ⟨h5, h6⟩ := h.bd b h3; exact ⟨by omega, h6⟩
  ·exact ⟨h4, .inl (Nat.le_trans h.kp.size h3)⟩
 ·refine ⟨hos.1.trans h.kp.os, hos.2.1.trans h.kp.tape, hos.2.2.1.trans h.kp.output, fun d => Nat.le_trans (h.kp.drawn d) (hos.2.2.2 d), Nat.le_trans h.kp.size hsz, fun b hb hm => ?_⟩
  rw [← h.kp.blk b hb hm]
  refine hst b (Nat.lt_of_lt_of_le hb h.kp.size) fun hin => ?_
  rcases (h.bd b hin).2 with h3 | h3
  ·omega
  ·exact hm h3
theorem Sat.ext (h : Sat E N Γ Ω a w) {w' : World}
  (hos : w'.os = w.os ∧ w'.tape = w.tape ∧ w'.output = w.output ∧ (aq.D → w.drawn ≤ w'.drawn))
  (hsz : w.heap.size ≤ w'.heap.size)
  (hst : ∀ b, b < w.heap.size → w'.heap[b]? = w.heap[b]?) : Sat E N Γ Ω a w' :=
 h.world hos hsz (fun b hb _ => hst b hb) (fun _ hb => .inl hb) h.nd fun o ho =>
  o.mono ⟨fun _ _ hb => hb, fun b hb _ => hst b hb⟩ (fun b hb => hst b (h.bd b (List.mem_flatMap.2 ⟨o, ho, hb⟩)).1) (h.ob o ho)
theorem iG (Ω fE : List OB) : ow (Ω ++ fE) = ow Ω ++ ow fE := by simp [ow]
theorem PX (o : OB) : ow [o] = o.S := by simp [ow]
theorem Sat.add (h : Sat E N Γ Ω a w) {w' : World} {o : OB}
  (hos : w'.os = w.os ∧ w'.tape = w.tape ∧ w'.output = w.output ∧ (aq.D → w.drawn ≤ w'.drawn))
  (hsz : w.heap.size ≤ w'.heap.size)
  (hst : ∀ b, b < w.heap.size → w'.heap[b]? = w.heap[b]?)
  (hS : ∀ b ∈ o.S, w.heap.size ≤ b ∧ b < w'.heap.size) (hnd : o.S.Nodup)
  (jP : o.h (fr E (Ω ++ [o])) w') : Sat E N Γ (Ω ++ [o]) a w' := by
 have how : ow (Ω ++ [o]) = ow Ω ++ o.S := by rw [iG, PX]
 refine h.world hos hsz (fun b hb _ => hst b hb) ?_ ?_ ?_
 ·intro b hb
  rw [how, List.mem_append] at hb
  rcases hb with hb | hb
  ·exact .inl hb
  ·exact .inr (hS b hb)
 ·rw [how]
  refine List.nodup_append.2 ⟨h.nd, hnd, fun x hx y hy e => ?_⟩
  subst e
  have := (h.bd x hx).1
  have := (hS x hy).1
  omega
 ·intro p hp
  rcases List.mem_append.1 hp with hp | hp
  ·refine p.mono ⟨fun b hb ⟨h1, h2⟩ => ⟨h1, fun hm => ?_⟩, fun b hb _ => hst b hb⟩ (fun b hb => hst b (h.bd b (List.mem_flatMap.2 ⟨p, hp, hb⟩)).1) (h.ob p hp)
   rw [how, List.mem_append] at hm
   rcases hm with hm | hm
   ·exact h2 hm
   ·have := (hS b hm).1; omega
  ·rw [List.mem_singleton.1 hp]; exact jP
theorem nj {j : Nat} {o : OB} (hj : Ω[j]? = some o) : ∃ A B, Ω = A ++ o :: B ∧ A.length = j := by
 have hlt := (List.getElem?_eq_some_iff.1 hj).1
 refine ⟨Ω.take j, Ω.drop (j + 1), ?_, by simp; omega⟩
 have h2 : Ω[j] = o := (List.getElem?_eq_some_iff.1 hj).2
 rw [← h2, List.getElem_cons_drop, List.take_append_drop]
theorem ko {A B : List OB} {o o' : OB} : (A ++ o :: B).set A.length o' = A ++ o' :: B := by
 simp
theorem jI (A B : List OB) (o : OB) : ow (A ++ o :: B) = ow A ++ (o.S ++ ow B) := by simp [ow]
theorem Sat.upd (h : Sat E N Γ Ω a w) {w' : World} {j : Nat} {o o' : OB} (hj : Ω[j]? = some o)
  (hos : w'.os = w.os ∧ w'.tape = w.tape ∧ w'.output = w.output ∧ (aq.D → w.drawn ≤ w'.drawn))
  (hsz : w.heap.size ≤ w'.heap.size)
  (hst : ∀ b, b < w.heap.size → b ∉ o.S → w'.heap[b]? = w.heap[b]?)
  (hS : ∀ b ∈ o'.S, b ∈ o.S ∨ (w.heap.size ≤ b ∧ b < w'.heap.size)) (hnd : o'.S.Nodup)
  (jP : o'.h (fr E (Ω.set j o')) w') : Sat E N Γ (Ω.set j o') a w' := by
 obtain ⟨A, B, rfl, rfl⟩ := nj hj
 rw [ko] at jP ⊢
 have hnd0 := h.nd
 rw [jI] at hnd0
 have hbd0 : ∀ b ∈ ow A ++ (o.S ++ ow B), b < w.heap.size := fun b hb => (h.bd b (by rw [jI]; exact hb)).1
 have hbdA : ∀ b ∈ ow A, b < w.heap.size := fun b hb => hbd0 b (List.mem_append_left _ hb)
 have hbdB : ∀ b ∈ ow B, b < w.heap.size := fun b hb => hbd0 b (List.mem_append_right _ (List.mem_append_right _ hb))
 obtain ⟨nA, nR, dA⟩ := List.nodup_append.1 hnd0
 obtain ⟨nO, nB, dO⟩ := List.nodup_append.1 nR
 refine h.world hos hsz (fun b hb hn => hst b hb fun hm => hn (by rw [jI]; simp [hm])) ?_ ?_ ?_
 ·intro b hb
  rw [jI, List.mem_append, List.mem_append] at hb
  rw [jI, List.mem_append, List.mem_append]
  rcases hb with hb | hb | hb
  ·exact .inl (.inl hb)
  ·rcases hS b hb with h1 | h1
   ·exact .inl (.inr (.inl h1))
   ·exact .inr h1
  ·exact .inl (.inr (.inr hb))
 ·rw [jI]
  refine List.nodup_append.2 ⟨nA, List.nodup_append.2 ⟨hnd, nB, fun x hx y hy e => ?_⟩, fun x hx y hy e => ?_⟩
  ·subst e
   rcases hS x hx with h1 | h1
   ·exact dO x h1 x hy rfl
   ·have := hbdB x hy; omega
  ·subst e
   rcases List.mem_append.1 hy with hy | hy
   ·rcases hS x hy with h1 | h1
    ·exact dA x hx x (List.mem_append_left _ h1) rfl
    ·have := hbdA x hx; omega
   ·exact dA x hx x (List.mem_append_right _ hy) rfl
 ·have hfr : ∀ b, b < w.heap.size → fr E (A ++ o :: B) b → fr E (A ++ o' :: B) b := fun b hb ⟨h1, h2⟩ => ⟨h1, fun hm => by
   rw [jI, List.mem_append, List.mem_append] at hm
   rw [jI, List.mem_append, List.mem_append] at h2
   rcases hm with hm | hm | hm
   ·exact h2 (.inl hm)
   ·rcases hS b hm with h3 | h3
    ·exact h2 (.inr (.inl h3))
    ·omega
   ·exact h2 (.inr (.inr hm))⟩
  have hag : Ag (fr E (A ++ o :: B)) (fr E (A ++ o' :: B)) w w' := ⟨hfr, fun b hb ⟨_, h2⟩ => hst b hb fun hm => h2 (by rw [jI]; simp [hm])⟩
  intro p hp
  rcases List.mem_append.1 hp with hp | hp
  ·refine p.mono hag (fun b hb => ?_) (h.ob p (List.mem_append_left _ hp))
   have hbA : b ∈ ow A := List.mem_flatMap.2 ⟨p, hp, hb⟩
   exact hst b (hbdA b hbA) fun hm => dA b hbA b (List.mem_append_left _ hm) rfl
  ·rcases List.mem_cons.1 hp with hp | hp
   ·rw [hp]; exact jP
   ·refine p.mono hag (fun b hb => ?_) (h.ob p (List.mem_append_right _ (List.mem_cons_of_mem _ hp)))
    have hbB : b ∈ ow B := List.mem_flatMap.2 ⟨p, hp, hb⟩
    exact hst b (hbdB b hbB) fun hm => dO b hm b hbB rfl
theorem Sat.l9 (h : Sat E N Γ Ω a w) {j : Nat} {o : OB} (hj : Ω[j]? = some o) : o.h (fr E Ω) w := h.ob o (List.mem_of_getElem? hj)
theorem Sat.me {j : Nat} {o : OB} (hj : Ω[j]? = some o) {b : Nat} (hb : b ∈ o.S) : b ∈ ow Ω :=
 List.mem_flatMap.2 ⟨o, List.mem_of_getElem? hj, hb⟩
theorem Sat.mine (h : Sat E N Γ Ω a w) {b : Nat} (hb : b ∈ ow Ω) : E.Fr b := (h.bd b hb).2.elim (h.fs b) (E.mf b)
theorem Sat.weak (h : Sat E N Γ Ω a w) (hΓ : ∀ t φ, lk Jb t = some φ → lk Γ t = some φ) : Sat E N Jb Ω a w :=
 ⟨h.sz, h.df, fun t φ ht => h.sl t φ (hΓ t φ ht), h.ob, h.nd, h.bd, h.kp, h.fs⟩
def Pg (Γ : List (Nat × RP)) : List (Nat × RP) → Prop
 | [] => True
 | (t, φ) :: r => lk Γ t = some φ ∧ Pg Γ r
theorem Pg.lk : ∀ {Jb : List (Nat × RP)}, Pg Γ Jb → ∀ t φ, lk Jb t = some φ → Dc.lk Γ t = some φ
 | [], _, t, φ, h => by simp [Dc.lk] at h
 | (s, ψ) :: r, ⟨h1, h2⟩, t, φ, h => by
  by_cases e : s = t
  ·subst e; rw [jN] at h; cases h; exact h1
  ·rw [oH e] at h; exact h2.lk t φ h
end Go.Dc
namespace Go.Dc
variable [aq]
abbrev X8 {R : Type} (m : Option R) (Φ : R → Prop) : Prop := ∀ r, m = some r → Φ r
abbrev KT (R : Type) := R → Exit → Act → World → Prop
abbrev I6 {R : Type} (E : Env) (N : Nat) (m : Option R) (Γ : List (Nat × RP)) (Ω : List OB) (B : R → Act → World → Prop) : Prop :=
 X8 m fun r => ∀ a w, Sat E N Γ Ω a w → B r a w
abbrev Ref {R : Type} (P : Program) (E : Env) (N : Nat) (m : Option R) (c : Code) (Γ : List (Nat × RP)) (Ω : List OB) (K : KT R) : Prop :=
 I6 E N m Γ Ω fun r a w => c.wp P (K r) a w
abbrev uQ {R : Type} (P : Program) (E : Env) (N : Nat) (m : Option R) (ops : Array Oper) (l : List Oper) (Γ : List (Nat × RP)) (Ω : List OB) (K : KT R) : Prop :=
 I6 E N m Γ Ω fun r a w => wpList P ops (K r) l a w
abbrev gV {R : Type} (E : Env) (N : Nat) (e : Exit) (m : Option R) (Γ : List (Nat × RP)) (Ω : List OB) (K : KT R) : Prop :=
 I6 E N m Γ Ω fun r a w => K r e a w
section Xd
variable {R S : Type} {Φ : R → Prop}
theorem pull {x : Option S} {k : S → Option R} (h : ∀ d, x = some d → X8 (k d) Φ) : X8 (x.bind k) Φ := by
 intro r hr
 cases hx : x with
 | none => rw [hx] at hr; cases hr
 | some d => rw [hx] at hr; exact h d hx r hr
def dx (f : S → Option R) (g : (S → Option R) → Option R) : Option R := g f
end Xd
variable {R S : Type} {P : Program} {E : Env} {N : Nat} {Γ Jb : List (Nat × RP)} {Ω fE : List OB} {K : KT R} {m : Option R} {ops : Array Oper} {rest : List Oper}
def Og (P : Program) (y : Code) (K : KT R) : KT R := fun r => Exit.then (fun a w => y.wp P (K r) a w) (K r)
def Cr (id : Nat) (K : KT R) : KT R := fun r => Exit.inBlock id (K r)
def cS (E : Env) (N : Nat) {σ ρ X : Type} (r_ : σ → X → List (Nat × RP)) (r9 : σ → X → List OB) (k : ρ → Option R) (K : KT R) : KT (Sum ρ σ) :=
 fun o e a w => match o with
  | .inr s' => e = .normal ∧ ∃ x', Sat E N (r_ s' x') (r9 s' x') a w
  | .inl q => e ≠ .normal ∧ ∀ r, k q = some r → K r e a w
theorem aF {x y : Code} (h : Ref P E N m x Γ Ω (Og P y K)) : Ref P E N m (.seq x y) Γ Ω K :=
 fun r hr a w hs => wp_seq (h r hr a w hs)
theorem dS (h : gV E N .normal m Γ Ω K) : Ref P E N m .skip Γ Ω K := fun r hr a w hs => wp_skip (h r hr a w hs)
theorem ot {i : Nat} (h : gV E N (.exit i) m Γ Ω K) : Ref P E N m (.exit i) Γ Ω K := fun r hr a w hs => wp_exit (h r hr a w hs)
theorem d_ (h : gV E N .ret m Γ Ω K) : Ref P E N m .ret Γ Ω K := fun r hr a w hs => wp_ret (h r hr a w hs)
theorem W7 {i : Nat} (h : gV E N .normal m Γ Ω K) : Ref P E N m (.label i) Γ Ω K := fun r hr a w hs => wp_label (h r hr a w hs)
theorem gB {id : Nat} {c : Code} (h : Ref P E N m c Γ Ω (Cr id K)) : Ref P E N m (.block id c) Γ Ω K :=
 fun r hr a w hs => wp_block (h r hr a w hs)
theorem az {id : Nat} {l : List Oper} (h : uQ P E N m l.toArray l Γ Ω K) : Ref P E N m (.region id l.toArray false) Γ Ω K :=
 fun r hr a w hs => wp_region_lit (h r hr a w hs)
theorem e7 {c : Operand} {thn els : Code} {b : Bool} {m1 m2 : Option R} (hc : dw Γ c = some (bv b))
  (h1 : b = true → Ref P E N m1 thn Γ Ω K) (h2 : b = false → Ref P E N m2 els Γ Ω K) : Ref P E N (bif b then m1 else m2) (.cond c thn els) Γ Ω K := by
 intro r hr a w hs
 have hv := id (hs.op hc)
 cases b with
 | true => exact wp_cond hv (h1 rfl r hr a w hs)
 | false => exact wp_cond hv (h2 rfl r hr a w hs)
theorem xB {c : Operand} {thn els : Code} {b : Bool} (hc : dw Γ c = some (bv b)) (hb : b = true) (h : Ref P E N m thn Γ Ω K) :
  Ref P E N m (.cond c thn els) Γ Ω K := fun r hr a w hs => wp_cond (id (hs.op hc)) (by subst hb; exact h r hr a w hs)
theorem Jr {c : Operand} {thn els : Code} {b : Bool} (hc : dw Γ c = some (bv b)) (hb : b = false) (h : Ref P E N m els Γ Ω K) :
  Ref P E N m (.cond c thn els) Γ Ω K := fun r hr a w hs => wp_cond (id (hs.op hc)) (by subst hb; exact h r hr a w hs)
theorem aH {y : Code} (h : Ref P E N m y Γ Ω K) : gV E N .normal m Γ Ω (Og P y K) := h
theorem qC {id : Nat} (h : gV E N .normal m Γ Ω K) : gV E N .normal m Γ Ω (Cr id K) := h
theorem vT {y : Code} {i : Nat} (h : gV E N (.exit i) m Γ Ω K) : gV E N (.exit i) m Γ Ω (Og P y K) := h
theorem x_ne {i id : Nat} (hi : Nat.beq i id = false) (h : gV E N (.exit i) m Γ Ω K) : gV E N (.exit i) m Γ Ω (Cr id K) := by
 intro r hr a w hs
 have : i ≠ id := fun e => by subst e; simp at hi
 show (if i = id then _ else _)
 rw [if_neg this]
 exact h r hr a w hs
theorem x_eq {id : Nat} (h : gV E N .normal m Γ Ω K) : gV E N (.exit id) m Γ Ω (Cr id K) := by
 intro r hr a w hs
 show (if id = id then _ else _)
 rw [if_pos rfl]
 exact h r hr a w hs
theorem fG {y : Code} (h : gV E N .ret m Γ Ω K) : gV E N .ret m Γ Ω (Og P y K) := h
theorem eG {id : Nat} (h : gV E N .ret m Γ Ω K) : gV E N .ret m Γ Ω (Cr id K) := h
section
variable {σ ρ X : Type} {r_ : σ → X → List (Nat × RP)} {r9 : σ → X → List OB} {k : ρ → Option R} {q : ρ}
theorem r_loop (h : gV E N .ret (k q) Γ Ω K) : gV E N .ret (some (Sum.inl q)) Γ Ω (cS E N r_ r9 k K) := by
 intro r hr a w hs; cases hr
 exact ⟨by simp, fun r hr => h r hr a w hs⟩
theorem n_loop {s' : σ} (x' : X) (h : ∀ a w, Sat E N Γ Ω a w → Sat E N (r_ s' x') (r9 s' x') a w) :
  gV E N .normal (some (Sum.inr s')) Γ Ω (cS E N r_ r9 k K) := by
 intro r hr a w hs; cases hr
 exact ⟨rfl, x', h a w hs⟩
theorem exists_least {p : Nat → Prop} (h : ∃ n, p n) : ∃ n, p n ∧ ∀ m, p m → n ≤ m := by
 obtain ⟨n, hn⟩ := h
 induction n using Nat.strongRecOn with
 | _ n ih =>
  by_cases hx : ∃ m, m < n ∧ p m
  ·obtain ⟨m, hm, hp⟩ := hx; exact ih m hm hp
  ·exact ⟨n, hn, fun m hp => Nat.le_of_not_lt fun hlt => hx ⟨m, hlt, hp⟩⟩
open Classical in
theorem Ku {c : Code} {Q : Exit → Act → World → Prop} (Φ : Nat → Act → World → Prop)
  (round : ∀ n a w, Φ n a w → c.wp P (Exit.then (fun a' w' => ∃ m, m < n ∧ Φ m a' w') Q) a w) {n : Nat} {a : Act} {w : World} (h : Φ n a w) :
  (Code.loop c).wp P Q a w := by
 let μ : Act → World → Nat := fun a w => if h : ∃ n, Φ n a w then (exists_least h).choose else 0
 have hμ : ∀ a w, (∃ n, Φ n a w) → Φ (μ a w) a w ∧ ∀ m, Φ m a w → μ a w ≤ m := fun a w hx => by
  simp only [μ, dif_pos hx]; exact (exists_least hx).choose_spec
 refine wp_loop (fun a w => ∃ n, Φ n a w) μ ⟨n, h⟩ fun a w hI => ?_
 refine wp_mono (round (μ a w) a w (hμ a w hI).1) ?_
 intro e a' w' he
 cases e with
 | normal => obtain ⟨m, hm, hp⟩ := he; exact ⟨⟨m, hp⟩, Nat.lt_of_le_of_lt ((hμ a' w' ⟨m, hp⟩).2 m hp) hm⟩
 | exit i => exact he
 | goto l => exact he
 | ret => exact he
 | panic c => exact he
 | outgrown => exact he
theorem Mc {body : Code} {f : σ → Option (Sum ρ σ)} (s0 : σ) (x0 : X)
  (h0 : ∀ a w, Sat E N Γ Ω a w → Sat E N (r_ s0 x0) (r9 s0 x0) a w)
  (round : ∀ s x, Ref P E N (f s) body (r_ s x) (r9 s x) (cS E N r_ r9 k K)) : Ref P E N ((aI f s0).bind k) (.loop body) Γ Ω K := by
 intro r hr a w hs
 cases hl : aI f s0 with
 | none => rw [hl] at hr; cases hr
 | some q =>
  rw [hl] at hr
  have hk : k q = some r := hr
  obtain ⟨n, hn⟩ := o9.1 hl
  refine Ku (fun n a w => ∃ s x, sV f n s = some q ∧ Sat E N (r_ s x) (r9 s x) a w) ?_ (n := n) ⟨s0, x0, hn, h0 a w hs⟩
  rintro n a w ⟨s, x, hn, hs⟩
  cases n with
  | zero => simp [sV] at hn
  | succ n =>
   simp only [sV] at hn
   cases hf : f s with
   | none => rw [hf] at hn; cases hn
   | some o =>
    rw [hf] at hn
    refine wp_mono (round s x o hf a w hs) ?_
    intro e a' w' he
    cases o with
    | inl q' =>
     have hq : q' = q := by simpa using hn
     subst hq
     obtain ⟨hne, hK⟩ := he
     have := hK r hk
     cases e with
     | normal => exact absurd rfl hne
     | exit i => exact this
     | goto l => exact this
     | ret => exact this
     | panic c => exact this
     | outgrown => exact this
    | inr s' =>
     obtain ⟨rfl, x', hs'⟩ := he
     exact ⟨n, Nat.lt_succ_self n, s', x', hn, hs'⟩
end
theorem bg (h : gV E N .normal m Γ Ω K) : uQ P E N m ops [] Γ Ω K := fun r hr a w hs => wpList_nil (h r hr a w hs)
def DH (P : Program) (k : Value → World → Prop) : Result Next → Prop
 | .ok (.value v) w' => k v w'
 | .ok .skip w' => k undef w'
 | .ok (.enter f args) w' => Calls P f args w' fun e w'' => ∃ v, e = .returned v ∧ k v w''
 | _ => False
def opwp (P : Program) (op : Op) (ty : TypeId) (ρ : Operand → Value) (w : World) (k : Value → World → Prop) : Prop :=
 ∀ (o : Oper), o.op = op → o.type = ty → DH P k ((execOp ρ o).run P w)
theorem DH.upon {o : Oper} {a : Act} {next : Act → World → Prop} {Q : Exit → Act → World → Prop} {k : Value → World → Prop} (hn : ∀ v w', k v w' → next (a.put o.dst v) w') :
  ∀ {res : Result Next}, DH P k res → o.upon P a next Q res := by
 intro res h
 unfold DH at h
 split at h
 ·exact hn _ _ h
 ·exact hn _ _ h
 ·refine h.mono ?_
  rintro e w'' ⟨v, rfl, hk⟩
  exact hn _ _ hk
 ·exact h.elim
structure Eff (Ω fE : List OB) (js : List Nat) (w w' : World) : Prop where
 size : w.heap.size ≤ w'.heap.size
 keep : ∀ b, b < w.heap.size → (∀ j ∈ js, ∀ ob, Ω[j]? = some ob → b ∉ ob.S) → w'.heap[b]? = w.heap[b]?
 own : ∀ b, b < w.heap.size → b ∈ ow fE → b ∈ ow Ω
def Rd (P : Program) (E : Env) (N : Nat) (op : Op) (ty : TypeId) (Γ : List (Nat × RP)) (Ω : List OB) (J : List Nat) (φ : RP) : Prop :=
 ∀ a w, Sat E N Γ Ω a w → ∃ v, ∃ B : List Nat, φ.h (fr E Ω) w v ∧
  (∀ b ∈ B, b < w.heap.size ∧ (b ∉ ow Ω ∨ ∃ j ∈ J, ∃ ob, Ω[j]? = some ob ∧ b ∈ ob.S)) ∧
  ∀ w', (∀ b ∈ B, w'.heap[b]? = w.heap[b]?) → ∀ o : Oper, o.op = op → o.type = ty → (execOp a.eval o).run P w' = .ok (.value v) w'
def St {X : Type} (P : Program) (E : Env) (N : Nat) (op : Op) (ty : TypeId) (Γ : List (Nat × RP)) (Ω : List OB) (js : List Nat) (φ : X → RP) (fE : X → List OB) : Prop :=
 ∀ a w, Sat E N Γ Ω a w → opwp P op ty a.eval w fun v w' =>
  ∃ x, Sat E N Γ (fE x) a w' ∧ (φ x).h (fr E (fE x)) w' v ∧ Eff Ω (fE x) js w w'
theorem BU {w : World} {o : OB} (h : ∀ b ∈ o.S, w.heap.size ≤ b) : ∀ b, b < w.heap.size → b ∈ ow (Ω ++ [o]) → b ∈ ow Ω := fun b hb hm => by
 rw [iG, PX, List.mem_append] at hm
 exact hm.elim id fun h1 => by have := h b h1; omega
theorem sK {w : World} {j : Nat} {o o' : OB} (hj : Ω[j]? = some o) (h : ∀ b ∈ o'.S, b ∈ o.S ∨ w.heap.size ≤ b) : ∀ b, b < w.heap.size → b ∈ ow (Ω.set j o') → b ∈ ow Ω := fun b hb hm => by
 obtain ⟨A, B, rfl, rfl⟩ := nj hj
 rw [ko] at hm
 rw [jI] at hm ⊢
 simp only [List.mem_append] at hm ⊢
 rcases hm with hm | hm | hm
 ·exact .inl hm
 ·rcases h b hm with h1 | h1
  ·exact .inr (.inl h1)
  ·omega
 ·exact .inr (.inr hm)
theorem br {op : Op} {ty : TypeId} {d : Nat} {φ : RP} {J : List Nat} {pos : String} {fM : Array Edge} (hr : Rd P E N op ty Γ Ω J φ) (hd : Nat.blt d N = true)
  (h : uQ P E N m ops rest ((d, φ) :: Γ) Ω K) : uQ P E N m ops (⟨some d, op, ty, pos, fM, none⟩ :: rest) Γ Ω K := by
 intro r hm a w hs
 obtain ⟨v, B, hv, _, hrun⟩ := hr a w hs
 refine wpList_plain rfl fun K' hK' => ?_
 have hlt : d < N := by simpa [Nat.blt_eq] using hd
 unfold Oper.wp
 rw [hrun w (fun _ _ => rfl) _ rfl rfl]
 exact hK' _ _ (h r hm _ _ (hs.put hlt hv))
theorem mz {X : Type} {op : Op} {ty : TypeId} {d : Nat} {js : List Nat} {φ : X → RP} {fE : X → List OB} {pos : String} {fM : Array Edge} (hr : St P E N op ty Γ Ω js φ fE)
  (hd : Nat.blt d N = true) (h : ∀ x, uQ P E N m ops rest ((d, φ x) :: Γ) (fE x) K) : uQ P E N m ops (⟨some d, op, ty, pos, fM, none⟩ :: rest) Γ Ω K := by
 intro r hm a w hs
 refine wpList_plain rfl fun K' hK' => ?_
 have hlt : d < N := by simpa [Nat.blt_eq] using hd
 refine DH.upon ?_ (hr a w hs _ rfl rfl)
 rintro v w' ⟨x, hs', hv, _⟩
 exact hK' _ _ (h x r hm _ _ (hs'.put hlt hv))
theorem tN {X : Type} {op : Op} {ty : TypeId} {js : List Nat} {φ : X → RP} {fE : X → List OB} {pos : String} {fM : Array Edge} (hr : St P E N op ty Γ Ω js φ fE)
  (h : ∀ x, uQ P E N m ops rest Γ (fE x) K) : uQ P E N m ops (⟨none, op, ty, pos, fM, none⟩ :: rest) Γ Ω K := by
 intro r hm a w hs
 refine wpList_plain rfl fun K' hK' => ?_
 refine DH.upon ?_ (hr a w hs _ rfl rfl)
 rintro v w' ⟨x, hs', hv, _⟩
 exact hK' _ _ (h x r hm _ _ hs')
theorem t_ {a : Act} {w : World} (hs : Sat E N Γ Ω a w) {i t : Nat} {b : Bool} (hi : (ops[i]?).bind (·.dst) = some t) (ht : lk Γ t = some (bv b)) (hN : Nat.blt t N = true) :
  yielded ops a.tmps i = some b := by
 have hv := id (hs.sl t _ ht)
 have hlt : t < a.tmps.size := by rw [hs.sz]; simpa [Nat.blt_eq] using hN
 unfold yielded
 rw [hi]
 simp only [Option.bind_some]
 have : a.tmps[t]? = some (.bool b) := by
  rw [Array.getElem?_eq_getElem hlt]
  simp [Array.getD, hlt] at hv
  rw [hv]
 rw [this]
theorem s_on {op : Op} {ty : TypeId} {d : Option Nat} {pos : String} {fM : Array Edge} {i t : Nat} {b : Bool} (hi : (ops[i]?).bind (·.dst) = some t)
  (ht : lk Γ t = some (bv b)) (hN : Nat.blt t N = true) (h : uQ P E N m ops (⟨d, op, ty, pos, fM, none⟩ :: rest) Γ Ω K) :
  uQ P E N m ops (⟨d, op, ty, pos, fM, some (i, b)⟩ :: rest) Γ Ω K := by
 intro r hm a w hs
 have h1 := h r hm a w hs
 have hy := t_ hs hi ht hN
 have hw : Region.wanted ⟨d, op, ty, pos, fM, some (i, b)⟩ (yielded ops a.tmps) = true := by simp [Region.wanted, hy]
 have hw0 : Region.wanted ⟨d, op, ty, pos, fM, none⟩ (yielded ops a.tmps) = true := by simp [Region.wanted]
 unfold wpList at h1 ⊢
 rw [if_pos hw]
 rw [if_pos hw0] at h1
 exact h1
theorem kE {op : Op} {ty : TypeId} {d : Nat} {pos : String} {fM : Array Edge} {i t : Nat} {b c : Bool} (hi : (ops[i]?).bind (·.dst) = some t)
  (ht : lk Γ t = some (bv c)) (hN : Nat.blt t N = true) (hbc : (c == b) = false) (hd : Nat.blt d N = true)
  (h : uQ P E N m ops rest ((d, pv undef) :: Γ) Ω K) : uQ P E N m ops (⟨some d, op, ty, pos, fM, some (i, b)⟩ :: rest) Γ Ω K := by
 intro r hm a w hs
 have hlt : d < N := by simpa [Nat.blt_eq] using hd
 have h1 := h r hm _ _ (hs.put (v := undef) hlt rfl)
 have hy := t_ hs hi ht hN
 have hw : Region.wanted ⟨some d, op, ty, pos, fM, some (i, b)⟩ (yielded ops a.tmps) = false := by simp [Region.wanted, hy]; simpa using hbc
 unfold wpList
 rw [if_neg (by simp [hw])]
 exact h1
theorem E7 {B : R → Act → World → Prop} {t : Nat} {b : Bool} {m1 m2 : Option R} (ht : lk Γ t = some (bv b))
  (h1 : b = true → I6 E N m1 ((t, bv true) :: Γ) Ω B) (h2 : b = false → I6 E N m2 ((t, bv false) :: Γ) Ω B) :
  I6 E N (bif b then m1 else m2) Γ Ω B := by
 intro r hr a w hs
 have hs' : ∀ c : Bool, b = c → Sat E N ((t, bv c) :: Γ) Ω a w := fun c e => hs.weak fun s φ h => by
  by_cases e2 : t = s
  ·subst e2; rw [jN] at h; cases h; subst e; exact ht
  ·rwa [oH e2] at h
 cases b with
 | true => exact h1 rfl r hr a w (hs' true rfl)
 | false => exact h2 rfl r hr a w (hs' false rfl)
theorem lk_dup {Γ : List (Nat × RP)} {t s : Nat} {φ ψ : RP} (ht : lk Γ t = some φ) (h : lk ((t, φ) :: Γ) s = some ψ) : lk Γ s = some ψ := by
 by_cases e2 : t = s
 ·subst e2; rw [jN] at h; cases h; exact ht
 ·rwa [oH e2] at h
theorem b_let {B : R → Act → World → Prop} {α : Type} {f : α → RP} {t : Nat} {e : α} {k : α → Option R} (ht : lk Γ t = some (f e))
  (h : ∀ x, I6 E N (k x) ((t, f x) :: Γ) Ω B) : I6 E N (T4 e k) Γ Ω B :=
 fun r hr a w hs => h e r hr a w (hs.weak fun _ _ => lk_dup ht)
theorem L5 {j : Nat} {o : OB} (hj : Ω[j]? = some o) : Ω.set j o = Ω := by
 obtain ⟨A, B, rfl, rfl⟩ := nj hj
 rw [ko]
theorem pE {B : R → Act → World → Prop} (hw : ∀ a w, Sat E N Γ Ω a w → Sat E N Jb fE a w) (h : I6 E N m Jb fE B) : I6 E N m Γ Ω B :=
 fun r hr a w hs => h r hr a w (hw a w hs)
theorem sub {Jb : List (Nat × RP)} (h : Pg Γ Jb) : ∀ a w, Sat E N Γ Ω a w → Sat E N Jb Ω a w := fun _ _ hs => hs.weak h.lk
def HO (F : FP) (w : World) : List RP → Value → Prop
 | [φ], v => φ.h F w v
 | bY, v => ∃ vs, v = .tuple vs ∧ bZ F w bY vs.toList
def gw {X : Type} (P : Program) (f : FuncId) (args : List RP) (wR : List OB) (res : X → List RP) (lB : X → List OB) : Prop :=
 ∀ (F : FP) (w : World) (vs : List Value), (∀ b, w.heap.size ≤ b → F b) → (∀ b ∈ ow wR, F b) →
  (∀ b ∈ ow wR, b < w.heap.size) → (ow wR).Nodup →
  (∀ o ∈ wR, o.h (fun b => F b ∧ b ∉ ow wR) w) → bZ (fun b => F b ∧ b ∉ ow wR) w args vs → SZ (fun b => F b ∧ b ∉ ow wR) w →
  Calls P f vs.toArray w fun e w' => ∃ x v, e = .returned v ∧ Kept (ow wR) w w' ∧
   (∀ b ∈ ow (lB x), b < w'.heap.size ∧ (w.heap.size ≤ b ∨ b ∈ ow wR)) ∧ (ow (lB x)).Nodup ∧
   (∀ o ∈ lB x, o.h (fun b => F b ∧ b ∉ ow (lB x)) w') ∧ HO (fun b => F b ∧ b ∉ ow (lB x)) w' (res x) v
def DF (tmps : Array Value) : ResultVar → Sem Value
 | .tmp t => pure (tmps.getD t undef)
 | .cell a t => do loadVar t (← asAddr (tmps.getD a undef))
def UW (P : Program) (E : Env) (N : Nat) (Γ : List (Nat × RP)) (Ω : List OB) (rv : ResultVar) (φ : RP) : Prop :=
 ∀ a w, Sat E N Γ Ω a w → ∃ v, (DF a.tmps rv).run P w = .ok v w ∧ φ.h (fr E Ω) w v
theorem gA {t : Nat} {φ : RP} (h : lk Γ t = some φ) : UW P E N Γ Ω (.tmp t) φ :=
 fun a _ hs => ⟨a.tmps.getD t undef, rfl, hs.sl t φ h⟩
def fnK {R X : Type} (P : Program) (fn : Func) (E : Env) (N : Nat) (res : R → X → List RP) (lB : R → X → List OB) : KT R :=
 fun r e a w => (e = .ret ∨ e = .normal) ∧ ∃ x, Sat E N [] (lB r x) a w ∧ ∃ v, (results fn a.tmps).run P w = .ok v w ∧ HO (fr E (lB r x)) w (res r x) v
theorem results_eq (fn : Func) (tmps : Array Value) : results fn tmps = (do let vs ← fn.results.mapM (DF tmps); pure (if h : vs.size = 1 then vs[0] else .tuple vs)) := by
 have : (DF tmps) = (fun x => match x with | .tmp t => pure (tmps.getD t undef) | .cell a t => do loadVar t (← asAddr (tmps.getD a undef)) : ResultVar → Sem Value) := by
  funext x; cases x <;> rfl
 rw [this]; rfl
theorem results0 {fn : Func} (h : fn.results = #[]) (tmps : Array Value) (w : World) : (results fn tmps).run P w = .ok (.tuple #[]) w := by simp [results, h]
theorem results1 {fn : Func} {a : ResultVar} (h : fn.results = #[a]) {tmps : Array Value} {w : World} {v : Value} (hv : (DF tmps a).run P w = .ok v w) :
  (results fn tmps).run P w = .ok v w := by
 rw [results_eq]; simp [h, hv]
theorem results2 {fn : Func} {a b : ResultVar} (h : fn.results = #[a, b]) {tmps : Array Value} {w : World} {v u : Value} (hv : (DF tmps a).run P w = .ok v w)
  (hu : (DF tmps b).run P w = .ok u w) : (results fn tmps).run P w = .ok (.tuple #[v, u]) w := by
 rw [results_eq]; simp [h, hv, hu]
theorem results3 {fn : Func} {a b c : ResultVar} (h : fn.results = #[a, b, c]) {tmps : Array Value} {w : World} {v u t : Value} (hv : (DF tmps a).run P w = .ok v w)
  (hu : (DF tmps b).run P w = .ok u w) (ht : (DF tmps c).run P w = .ok t w) : (results fn tmps).run P w = .ok (.tuple #[v, u, t]) w := by
 rw [results_eq]; simp [h, hv, hu, ht]
section
variable {X : Type} {fn : Func} {res : R → X → List RP} {lB : R → X → List OB} {r : R} {e : Exit}
end
def Cj : Nat → List RP → List (Nat × RP)
 | _, [] => []
 | n, φ :: bY => (n, φ) :: Cj (n + 1) bY
theorem lk_enum {bY : List RP} : ∀ {n t : Nat} {φ : RP}, lk (Cj n bY) t = some φ → n ≤ t ∧ bY[t - n]? = some φ := by
 induction bY with
 | nil => intro n t φ h; simp [Cj, lk] at h
 | cons ψ bY ih =>
  intro n t φ h
  by_cases e : n = t
  ·subst e; simp only [Cj] at h; rw [jN] at h; cases h; simp
  ·simp only [Cj] at h; rw [oH e] at h
   obtain ⟨h1, h2⟩ := ih h
   refine ⟨by omega, ?_⟩
   rw [show t - n = (t - (n + 1)) + 1 from by omega]
   simpa using h2
theorem A6 {X : Type} {f : FuncId} {fn : Func} {c : Code} (hf : P.funcs[f]? = some fn) (hb : fn.body = some c) (hn : fn.ntmps = N) {r : R} (hm : m = some r)
  {args : List RP} {wR : List OB} {res : R → X → List RP} {lB : R → X → List OB} (hN : Nat.ble args.length N = true)
  (h : ∀ E : Env, E.M = ow wR → Ref P E N m c (Cj 0 args) wR (fnK P fn E N res lB)) : gw P f args wR (res r) (lB r) := by
 intro F w vs hF hmf hbd hnd jP hargs htb
 have hlen := hargs.length
 have hle : vs.length ≤ N := by rw [hlen]; exact Nat.le_of_ble_eq_true hN
 refine calls_of_wp hf hb (wp_mono (h ⟨w, ow wR, F, hmf, htb⟩ rfl r hm { tmps := vs.toArray ++ Array.replicate (fn.ntmps - vs.toArray.size) undef, defers := [] } w ?_) ?_)
 ·refine ⟨by simp [hn]; omega, rfl, fun t φ ht => ?_, jP, hnd, fun b hb => ⟨hbd b hb, .inr hb⟩, .refl _ _, hF⟩
  obtain ⟨_, ht⟩ := lk_enum ht
  obtain ⟨v, hv, hφ⟩ := hargs.get ht
  have Ef : vs[t]? = some v := by simpa using hv
  have hlt : t < vs.length := (List.getElem?_eq_some_iff.1 Ef).1
  have hg : (vs.toArray ++ Array.replicate (fn.ntmps - vs.toArray.size) undef)[t]? = some v := by
   rw [Array.getElem?_append_left (by simpa using hlt)]; simpa using Ef
  have : (vs.toArray ++ Array.replicate (fn.ntmps - vs.toArray.size) undef).getD t undef = v := by
   rw [Array.getD_eq_getD_getElem?, hg]; rfl
  exact this ▸ hφ
 ·rintro e a w' ⟨he, x, hs, v, hv, hres⟩
  have hR : ∃ x v', Ending.returned v = .returned v' ∧ Kept (ow wR) w w' ∧
   (∀ b ∈ ow (lB r x), b < w'.heap.size ∧ (w.heap.size ≤ b ∨ b ∈ ow wR)) ∧ (ow (lB r x)).Nodup ∧
   (∀ o ∈ lB r x, o.h (fun b => F b ∧ b ∉ ow (lB r x)) w') ∧ HO (fun b => F b ∧ b ∉ ow (lB r x)) w' (res r x) v' :=
   ⟨x, v, rfl, hs.kp, hs.bd, hs.nd, hs.ob, hres⟩
  rcases he with rfl | rfl
  ·exact ⟨hs.df, v, hv, hR⟩
  ·exact ⟨hs.df, v, hv, hR⟩
def ArgOk (E : Env) (N : Nat) (Γ : List (Nat × RP)) (Ω : List OB) (F : List OB → Env → FP) (x : Operand) (φ : RP) : Prop :=
 ∀ a w, Sat E N Γ Ω a w → φ.h (F Ω E) w (a.eval x)
def frF (Ω : List OB) (E : Env) : FP := fr E Ω
def wB (E : Env) (N : Nat) (Γ : List (Nat × RP)) (Ω : List OB) (F : List OB → Env → FP) : List Operand → List RP → Prop
 | [], [] => True
 | x :: xs, φ :: bY => ArgOk E N Γ Ω F x φ ∧ wB E N Γ Ω F xs bY
 | _, _ => False
theorem wB.all {F : List OB → Env → FP} {a : Act} {w : World} (hs : Sat E N Γ Ω a w) : ∀ {xs : List Operand} {bY : List RP}, wB E N Γ Ω F xs bY → bZ (F Ω E) w bY (xs.map a.eval)
 | [], [], _ => trivial
 | _ :: _, _ :: _, ⟨h1, h2⟩ => ⟨h1 a w hs, h2.all hs⟩
 | [], _ :: _, h => h.elim
 | _ :: _, [], h => h.elim
theorem arg {x : Operand} {φ : RP} (h : dw Γ x = some φ) : ArgOk E N Γ Ω frF x φ := fun _ _ hs => hs.op h
theorem Ma {f : FuncId} {x : Operand} {args : List Operand} {ats : Array TypeId} {a : Act} {w : World} {caps : Array Value}
  (zB : ∀ args w, (callFunc f args).run P w = .ok (.enter f args) w) (hx : a.eval x = .func (.func f) #[] caps) (o : Oper) (ho : o.op = .call ⟨.value x, args.toArray, ats⟩) :
  (execOp a.eval o).run P w = .ok (.enter f ((args.map a.eval).toArray ++ caps)) w := by
 simp [execOp, ho, resolve, hx, Deferred.ofValue, invoke, zB]
theorem s_call {X : Type} {f : FuncId} {x : Operand} {args : List Operand} {ats : Array TypeId} {ty : TypeId} {bY : List RP} {res : X → List RP} {lB : X → List OB} {ψ : X → RP}
  (zB : ∀ args w, (callFunc f args).run P w = .ok (.enter f args) w) (hx : dw Γ x = some (pv (.func (.func f) #[] #[])))
  (hf : gw P f bY [] res lB) (ha : wB E N Γ Ω frF args bY) (LG : ∀ x F w v, HO F w (res x) v → (ψ x).h F w v) :
  St P E N (.call ⟨.value x, args.toArray, ats⟩) ty Γ Ω [] ψ (fun x => Ω ++ lB x) := by
 intro a w hs o ho ht
 rw [Ma zB (show _ = _ from hs.op hx) o ho]
 simp only [DH, Array.append_empty]
 refine (hf (fr E Ω) w (args.map a.eval) ?_ (by simp [ow]) (by simp [ow]) (by simp [ow]) (by simp) ?_ (hs.tb.mono fun b _ hb => ⟨⟨hb, by simp [ow]⟩, rfl⟩)).mono ?_
 ·exact fun b hb => ⟨hs.fs b (Nat.le_trans hs.kp.size hb), fun hm => by have := (hs.bd b hm).1; omega⟩
 ·exact (ha.all hs).mono (.refl fun b _ hb => ⟨hb, by simp [ow]⟩)
 ·rintro e w' ⟨x, v, rfl, hk, hbd, hnd, jP, hres⟩
  have hbd' : ∀ b ∈ ow (lB x), w.heap.size ≤ b ∧ b < w'.heap.size := fun b hb => by
   obtain ⟨h1, h2⟩ := hbd b hb
   rcases h2 with h2 | h2
   ·exact ⟨h2, h1⟩
   ·simp [ow] at h2
  have hblk : ∀ b, b < w.heap.size → w'.heap[b]? = w.heap[b]? := fun b hb => hk.blk b hb (by simp [ow])
  have hF : ∀ b, (fr E Ω b ∧ b ∉ ow (lB x)) → fr E (Ω ++ lB x) b := fun b ⟨⟨h1, h2⟩, h3⟩ => ⟨h1, by
   rw [iG, List.mem_append]; exact fun h => h.elim h2 h3⟩
  refine ⟨v, rfl, x, ?_, (ψ x).mono (.refl fun b _ => hF b) (LG x _ _ _ hres), hk.size, fun b hb _ => hblk b hb, fun b hb hm => ?_⟩
  rotate_left
  ·rw [iG, List.mem_append] at hm
   exact hm.elim id fun h1 => by have := (hbd' b h1).1; omega
  refine hs.world ⟨hk.os, hk.tape, hk.output, hk.drawn⟩ hk.size (fun b hb _ => hblk b hb) ?_ ?_ ?_
  ·intro b hb
   rw [iG, List.mem_append] at hb
   exact hb.imp id fun h => hbd' b h
  ·rw [iG]
   refine List.nodup_append.2 ⟨hs.nd, hnd, fun p hp q hq e => ?_⟩
   subst e
   have := (hs.bd p hp).1
   have := (hbd' p hq).1
   omega
  ·intro o ho
   rcases List.mem_append.1 ho with ho | ho
   ·refine o.mono ⟨fun b hb ⟨h1, h2⟩ => ⟨h1, ?_⟩, fun b hb _ => hblk b hb⟩ (fun b hb => hblk b (hs.bd b (List.mem_flatMap.2 ⟨o, ho, hb⟩)).1) (hs.ob o ho)
    rw [iG, List.mem_append]
    rintro (h3 | h3)
    ·exact h2 h3
    ·have := (hbd' b h3).1; omega
   ·exact o.mono (.refl fun b _ => hF b) (fun _ _ => rfl) (jP o ho)
end Go.Dc
namespace Go.Dc
variable [aq]
variable {P : Program} {E : Env} {N : Nat} {Γ : List (Nat × RP)} {Ω : List OB} {ty : TypeId}
theorem Rd.mk {op : Op} {J : List Nat} {φ : RP} (h : ∀ a w, Sat E N Γ Ω a w → ∃ v, φ.h (fr E Ω) w v ∧ ∀ w' (o : Oper), o.op = op → o.type = ty → (execOp a.eval o).run P w' = .ok (.value v) w') :
  Rd P E N op ty Γ Ω J φ := fun a w hs =>
 let ⟨v, h1, h2⟩ := h a w hs
 ⟨v, [], h1, by simp, fun w' _ o ho ht => h2 w' o ho ht⟩
theorem xO {x : Operand} {φ : RP} (hx : dw Γ x = some φ) : Rd P E N (.move x) ty Γ Ω [] φ :=
 .mk fun a _ hs => ⟨a.eval x, hs.op hx, fun w' o ho _ => by simp [execOp, ho]⟩
theorem vq {x : Operand} {φ : RP} (hx : dw Γ x = some φ) : Rd P E N (.assign x) ty Γ Ω [] φ :=
 .mk fun a _ hs => ⟨a.eval x, hs.op hx, fun w' o ho _ => by simp [execOp, ho]⟩
def aN (k : IntKind) (x y : Int) : Int := k.wrap (x + y)
def qq (k : IntKind) (x y : Int) : Int := k.wrap (x - y)
def XE (k : IntKind) (x y : Int) : Int := k.wrap (x * y)
def iquo (k : IntKind) (x y : Int) : Int := k.wrap (x.tdiv y)
def irem (_k : IntKind) (x y : Int) : Int := x.tmod y
def cE (k : IntKind) (x y : Int) : Int := k.wrap (BitVec.ofInt k.bits x &&& BitVec.ofInt k.bits y).toNat
def Yo (k : IntKind) (x y : Int) : Int := k.wrap (BitVec.ofInt k.bits x ||| BitVec.ofInt k.bits y).toNat
def aar (k : IntKind) (x y : Int) : Int := k.wrap (BitVec.ofInt k.bits x ^^^ BitVec.ofInt k.bits y).toNat
def s_ (k : IntKind) (x y : Int) : Int := k.wrap (BitVec.ofInt k.bits x &&& ~~~BitVec.ofInt k.bits y).toNat
def XA (k : IntKind) (x y : Int) : Int := k.wrap (x * 2 ^ min y.toNat k.bits)
def Xz (k : IntKind) (x y : Int) : Int := x.fdiv (2 ^ min y.toNat k.bits)
def pZ (k : IntKind) (x : Int) : Int := k.wrap (0 - x)
def icom (k : IntKind) (x : Int) : Int := aar k (if k.signed then -1 else k.max) x
section ints
variable {t yt : TypeId} {x y : Operand} {k : IntKind} {m n : Int}
theorem ru {op : BinOp} {φ : RP} {v : Value} (hx : dw Γ x = some (iv k m)) (hy : dw Γ y = some (iv k n))
  (hv : ∀ F w, φ.h F w v) (hb : ∀ w, (binOp op t (.int k m) (.int k n)).run P w = .ok v w) : Rd P E N (.binOp op t x y yt) ty Γ Ω [] φ :=
 .mk fun a w hs => ⟨v, hv _ _, fun w' o ho _ => by
  have h1 := (show _ = _ from hs.op hx)
  have h2 := (show _ = _ from hs.op hy)
  have hg : (eqGuard op t x y (.int k m) (.int k n)).run P w' = .ok () w' := by
   unfold eqGuard; split <;> rfl
  simp [execOp, ho, h1, h2, hg, hb w']⟩
variable (hx : dw Γ x = some (iv k m)) (hy : dw Γ y = some (iv k n))
include hx hy
theorem F5 : Rd P E N (.binOp .add t x y yt) ty Γ Ω [] (iv k (aN k m n)) := ru hx hy (fun _ _ => rfl) fun w => by simp [binOp, Op.intArith, aN]
theorem r_sub : Rd P E N (.binOp .sub t x y yt) ty Γ Ω [] (iv k (qq k m n)) := ru hx hy (fun _ _ => rfl) fun w => by simp [binOp, Op.intArith, qq]
theorem r_mul : Rd P E N (.binOp .mul t x y yt) ty Γ Ω [] (iv k (XE k m n)) := ru hx hy (fun _ _ => rfl) fun w => by simp [binOp, Op.intArith, XE]
theorem r_quo (h0 : n ≠ 0) : Rd P E N (.binOp .quo t x y yt) ty Γ Ω [] (iv k (iquo k m n)) := ru hx hy (fun _ _ => rfl) fun w => by simp [binOp, Op.intDiv, iquo, h0]
theorem r_rem (h0 : n ≠ 0) : Rd P E N (.binOp .rem t x y yt) ty Γ Ω [] (iv k (irem k m n)) := ru hx hy (fun _ _ => rfl) fun w => by simp [binOp, Op.intDiv, irem, h0]
theorem r_and : Rd P E N (.binOp .and t x y yt) ty Γ Ω [] (iv k (cE k m n)) := ru hx hy (fun _ _ => rfl) fun w => by simp [binOp, Op.intBits, cE]
theorem r_or : Rd P E N (.binOp .or t x y yt) ty Γ Ω [] (iv k (Yo k m n)) := ru hx hy (fun _ _ => rfl) fun w => by simp [binOp, Op.intBits, Yo]
theorem r_xor : Rd P E N (.binOp .xor t x y yt) ty Γ Ω [] (iv k (aar k m n)) := ru hx hy (fun _ _ => rfl) fun w => by simp [binOp, Op.intBits, aar]
theorem r_andn : Rd P E N (.binOp .andNot t x y yt) ty Γ Ω [] (iv k (s_ k m n)) := ru hx hy (fun _ _ => rfl) fun w => by simp [binOp, Op.intBits, s_]
theorem r_eql : Rd P E N (.binOp .eql t x y yt) ty Γ Ω [] (bv (m == n)) := ru hx hy (fun _ _ => rfl) fun w => by simp [binOp, Op.intCmp]
theorem Zo : Rd P E N (.binOp .neq t x y yt) ty Γ Ω [] (bv (m != n)) := ru hx hy (fun _ _ => rfl) fun w => by simp [binOp, Op.intCmp]
theorem Cw : Rd P E N (.binOp .lss t x y yt) ty Γ Ω [] (bv (decide (m < n))) := ru hx hy (fun _ _ => rfl) fun w => by simp [binOp, Op.intCmp]
theorem r_leq : Rd P E N (.binOp .leq t x y yt) ty Γ Ω [] (bv (decide (m ≤ n))) := ru hx hy (fun _ _ => rfl) fun w => by simp [binOp, Op.intCmp]
theorem r_gtr : Rd P E N (.binOp .gtr t x y yt) ty Γ Ω [] (bv (decide (m > n))) := ru hx hy (fun _ _ => rfl) fun w => by simp [binOp, Op.intCmp]
theorem Ow : Rd P E N (.binOp .geq t x y yt) ty Γ Ω [] (bv (decide (m ≥ n))) := ru hx hy (fun _ _ => rfl) fun w => by simp [binOp, Op.intCmp]
end ints
section more
variable {t yt : TypeId} {x y c : Operand} {k k' : IntKind} {m n : Int} {b b' : Bool}
theorem r_shl (hx : dw Γ x = some (iv k m)) (hy : dw Γ y = some (iv k' n)) (h0 : 0 ≤ n) :
  Rd P E N (.binOp .shl t x y yt) ty Γ Ω [] (iv k (XA k m n)) := .mk fun a w hs => ⟨_, rfl, fun w' o ho _ => by
  have h1 := (show _ = _ from hs.op hx)
  have h2 := (show _ = _ from hs.op hy)
  have hg : (eqGuard .shl t x y (.int k m) (.int k' n)).run P w' = .ok () w' := by unfold eqGuard; rfl
  have : ¬ n < 0 := by omega
  simp [execOp, ho, h1, h2, hg, binOp, Op.shift, this, XA]⟩
theorem r_shr (hx : dw Γ x = some (iv k m)) (hy : dw Γ y = some (iv k' n)) (h0 : 0 ≤ n) :
  Rd P E N (.binOp .shr t x y yt) ty Γ Ω [] (iv k (Xz k m n)) := .mk fun a w hs => ⟨_, rfl, fun w' o ho _ => by
  have h1 := (show _ = _ from hs.op hx)
  have h2 := (show _ = _ from hs.op hy)
  have hg : (eqGuard .shr t x y (.int k m) (.int k' n)).run P w' = .ok () w' := by unfold eqGuard; rfl
  have : ¬ n < 0 := by omega
  simp [execOp, ho, h1, h2, hg, binOp, Op.shift, this, Xz]⟩
theorem Ru (hx : dw Γ x = some (bv b)) : Rd P E N (.unOp .not t x) ty Γ Ω [] (bv (!b)) := .mk fun a w hs => ⟨_, rfl, fun w' o ho _ => by
  have h1 := (show _ = _ from hs.op hx)
  simp [execOp, ho, h1, Op.unary]⟩
theorem r_neg (hx : dw Γ x = some (iv k m)) : Rd P E N (.unOp .neg t x) ty Γ Ω [] (iv k (pZ k m)) := .mk fun a w hs => ⟨_, rfl, fun w' o ho _ => by
  have h1 := (show _ = _ from hs.op hx)
  simp [execOp, ho, h1, Op.unary, Op.intArith, pZ]⟩
theorem r_com (hx : dw Γ x = some (iv k m)) : Rd P E N (.unOp .xor t x) ty Γ Ω [] (iv k (icom k m)) := .mk fun a w hs => ⟨_, rfl, fun w' o ho _ => by
  have h1 := (show _ = _ from hs.op hx)
  simp [execOp, ho, h1, Op.unary, Op.intBits, icom, aar]⟩
theorem r_conv (hk : P.underlying yt = some (.int k')) (ht : (P.underlying t).isSome = true) (hx : dw Γ x = some (iv k m)) :
  Rd P E N (.convert t yt x) ty Γ Ω [] (iv k' (k'.wrap m)) := .mk fun a w hs => ⟨_, rfl, fun w' o ho _ => by
  have h1 := (show _ = _ from hs.op hx)
  obtain ⟨d, hd⟩ := Option.isSome_iff_exists.1 ht
  simp [execOp, ho, h1, convert, underlying, hk, hd, Conv.intToInt, program, Sem.run]⟩
theorem BO {φ : RP} (hc : dw Γ c = some (bv true)) (hx : dw Γ x = some φ) : Rd P E N (.pick c x y) ty Γ Ω [] φ := .mk fun a w hs => ⟨a.eval x, hs.op hx, fun w' o ho _ => by
  have h1 := (show _ = _ from hs.op hc)
  simp [execOp, ho, h1, asBool]⟩
theorem Lv {φ : RP} (hc : dw Γ c = some (bv false)) (hy : dw Γ y = some φ) : Rd P E N (.pick c x y) ty Γ Ω [] φ := .mk fun a w hs => ⟨a.eval y, hs.op hy, fun w' o ho _ => by
  have h1 := (show _ = _ from hs.op hc)
  simp [execOp, ho, h1, asBool]⟩
theorem Vi (hu : P.underlying t = some .bool) (w : World) : (Op.equal t (.bool b) (.bool b')).run P w = .ok (b == b') w := by
 unfold Op.equal
 rw [show Op.maxDepth = 9999 + 1 from rfl, Op.equalIn, Sem.run_bind, run_underlying hu]
 rfl
theorem r_beql (hu : P.underlying t = some .bool) (hx : dw Γ x = some (bv b)) (hy : dw Γ y = some (bv b')) : Rd P E N (.binOp .eql t x y yt) ty Γ Ω [] (bv (b == b')) :=
 .mk fun a w hs => ⟨_, rfl, fun w' o ho _ => by
  have h1 := (show _ = _ from hs.op hx)
  have h2 := (show _ = _ from hs.op hy)
  have hg : (eqGuard .eql t x y (.bool b) (.bool b')).run P w' = .ok () w' := by unfold eqGuard; rfl
  have hb : binOp .eql t (.bool b) (.bool b') = (do pure (.bool (← Op.equal t (.bool b) (.bool b')))) := rfl
  simp [execOp, ho, h1, h2, hg, hb, Vi hu]⟩
theorem r_bneq (hu : P.underlying t = some .bool) (hx : dw Γ x = some (bv b)) (hy : dw Γ y = some (bv b')) : Rd P E N (.binOp .neq t x y yt) ty Γ Ω [] (bv (!(b == b'))) :=
 .mk fun a w hs => ⟨_, rfl, fun w' o ho _ => by
  have h1 := (show _ = _ from hs.op hx)
  have h2 := (show _ = _ from hs.op hy)
  have hg : (eqGuard .neq t x y (.bool b) (.bool b')).run P w' = .ok () w' := by unfold eqGuard; rfl
  have hb : binOp .neq t (.bool b) (.bool b') = (do pure (.bool (!(← Op.equal t (.bool b) (.bool b'))))) := rfl
  simp [execOp, ho, h1, h2, hg, hb, Vi hu]⟩
theorem LZ {op : BinOp} {s u : ByteArray} {φ : RP} {v : Value} (hx : dw Γ x = some (sv s)) (hy : dw Γ y = some (sv u)) (hv : ∀ F w, φ.h F w v)
  (hb : ∀ w, (binOp op t (.string s) (.string u)).run P w = .ok v w) : Rd P E N (.binOp op t x y yt) ty Γ Ω [] φ := .mk fun a w hs => ⟨v, hv _ _, fun w' o ho _ => by
  have h1 := (show _ = _ from hs.op hx)
  have h2 := (show _ = _ from hs.op hy)
  have hg : (eqGuard op t x y (.string s) (.string u)).run P w' = .ok () w' := by unfold eqGuard; split <;> rfl
  simp [execOp, ho, h1, h2, hg, hb w']⟩
theorem r_seql {s u : ByteArray} (hx : dw Γ x = some (sv s)) (hy : dw Γ y = some (sv u)) : Rd P E N (.binOp .eql t x y yt) ty Γ Ω [] (bv (s.toList == u.toList)) :=
 LZ hx hy (fun _ _ => rfl) fun w => by simp [binOp, Op.stringOp]
theorem r_sneq {s u : ByteArray} (hx : dw Γ x = some (sv s)) (hy : dw Γ y = some (sv u)) : Rd P E N (.binOp .neq t x y yt) ty Γ Ω [] (bv (!(s.toList == u.toList))) :=
 LZ hx hy (fun _ _ => rfl) fun w => by simp [binOp, Op.stringOp]
theorem r_slss {s u : ByteArray} (hx : dw Γ x = some (sv s)) (hy : dw Γ y = some (sv u)) : Rd P E N (.binOp .lss t x y yt) ty Γ Ω [] (bv (Op.bytesLess s.toList u.toList)) :=
 LZ hx hy (fun _ _ => rfl) fun w => by simp [binOp, Op.stringOp]
end more
section tuples
variable {x : Operand} {i : Nat} {bY : List RP} {φ : RP}
theorem Av (hx : dw Γ x = some (I9 bY)) (hi : bY[i]? = some φ) : Rd P E N (.extract x i) ty Γ Ω [] φ := .mk fun a w hs => by
 obtain ⟨cs, he, hall⟩ := hs.op hx
 obtain ⟨v, hv, hφ⟩ := hall.get hi
 refine ⟨v, hφ, fun w' o ho _ => ?_⟩
 have Ef : cs[i]? = some v := by simpa using hv
 simp [execOp, ho, he, Instr.extract, Ef]
end tuples
end Go.Dc
namespace Go.Dc
variable [aq]
variable {P : Program} {E : Env} {N : Nat} {Γ : List (Nat × RP)} {Ω : List OB} {ty : TypeId}
structure Hr {α : Type} (P : Program) (e : TypeId) (ρ : iC α) (bytes : Nat) : Prop where
 info : ∃ i, P.info? e = some i ∧ i.size = ρ.size ∧ i.bytes = bytes ∧ ∃ z, i.zero = some z ∧ z.cells.size = ρ.size
 agg : ∀ w, (isAgg e).run P w = .ok ρ.agg w
 pos : 0 < ρ.size
 bpos : 0 < bytes
def ZeroT {α : Type} (P : Program) (e : TypeId) (ρ : iC α) (d : α) : Prop :=
 ∃ i z, P.info? e = some i ∧ i.zero = some z ∧ ∀ F w, bZ F w (ρ.cp d) z.cells.toList
section el
variable {α : Type} {e : TypeId} {ρ : iC α} {bytes : Nat}
theorem Hr.sizeOf (h : Hr P e ρ bytes) (w : World) : (Go.sizeOf e).run P w = .ok ρ.size w := by
 obtain ⟨i, hi, hs, _⟩ := h.info
 simp [Go.sizeOf, typeInfo, hi, hs]
theorem ew (b off n : Nat) : (⟨b, off, none⟩ : Addr).add n = ⟨b, off + n, none⟩ := by
 unfold Addr.add; split
 ·simp_all
 ·rfl
theorem I1 {w : World} {b off : Nat} {cells : Array Value} {ty : TypeId} {fz : Nat × Nat} (hb : w.heap[b]? = some (.cells cells ty fz)) :
  w.cell? ⟨b, off, none⟩ = cells[off]? := by simp [World.cell?, hb]
theorem Hr.load (h : Hr P e ρ bytes) {w : World} {b off : Nat} {cells : Array Value} {ty : TypeId} {fz : Nat × Nat} {es : List Value}
  (hb : w.heap[b]? = some (.cells cells ty fz)) (hl : es.length = ρ.size) (hc : ∀ j, j < ρ.size → cells[off + j]? = es[j]?) :
  (loadVar e ⟨b, off, none⟩).run P w = .ok (Z4 ρ.agg es) w := by
 have hcell : ∀ j v, es[j]? = some v → w.cell? ((⟨b, off, none⟩ : Addr).add j) = some v := fun j v hv => by
  have hj : j < es.length := (List.getElem?_eq_some_iff.1 hv).1
  rw [ew, I1 hb, hc j (by omega), hv]
 unfold loadVar
 rw [Sem.run_bind, h.agg]
 cases hg : ρ.agg with
 | true =>
  have := run_loadCells_list (P := P) w ⟨b, off, none⟩ es hcell
  rw [hl] at this
  simp [h.sizeOf, this, Z4]
 | false =>
  have h1 := ρ.one hg
  rw [h1] at hl
  obtain ⟨v, rfl⟩ := List.length_eq_one_iff.1 hl
  have := hcell 0 v (by simp)
  rw [ew] at this
  simp [run_load, Nat.add_zero] at this ⊢
  simp [this, Z4]
theorem Jo {t : TypeId} (hu : P.underlying t = some (.slice e)) (h : Hr P e ρ bytes) {b off n c : Nat} {k : IntKind} {i : Int} (h0 : 0 ≤ i) (h1 : i < n) (w : World) :
  (Instr.indexAt t (.slice (some ⟨b, off, none⟩) n c) (.int k i)).run P w = .ok (.pointer (some ⟨b, off + i.toNat * ρ.size, none⟩)) w := by
 simp [Instr.indexAt, run_underlying hu, asIntOf, h.sizeOf, h0, h1, ew]
def aL (d : List α) (n : Int) : Option α := if 0 ≤ n then d[n.toNat]? else none
theorem jB {d : List α} {n : Int} {x : α} (h : aL d n = some x) : 0 ≤ n ∧ n < d.length ∧ ∃ hi : n.toNat < d.length, d[n.toNat] = x := by
 unfold aL at h
 split at h
 ·obtain ⟨h1, h2⟩ := List.getElem?_eq_some_iff.1 h
  exact ⟨by assumption, by omega, h1, h2⟩
 ·cases h
theorem w6 {t : TypeId} {x i : Operand} {k : IntKind} {d : List α} {n : Int} {y : α} (hy : aL d n = some y) (hu : P.underlying t = some (.slice e)) (h : Hr P e ρ bytes)
  (hx : dw Γ x = some (eN ρ d)) (hi : dw Γ i = some (iv k n)) : Rd P E N (.indexAddr t x i) ty Γ Ω [] (ea ρ y) := .mk fun a w hs => by
 obtain ⟨h0, h1, hlt, hd⟩ := jB hy
 obtain ⟨ad, c, hv, hc, p6⟩ := hs.op hx
 obtain ⟨b, off, cells, ty', fz, rfl, hF, hb, hH⟩ := p6 (by intro e; rw [e] at hlt; simp at hlt)
 obtain ⟨es, uW, hcs⟩ := hH n.toNat hlt
 have h2 : a.eval i = .int k n := hs.op hi
 refine ⟨.pointer (some ⟨b, off + n.toNat * ρ.size, none⟩), ⟨b, _, cells, ty', fz, es, rfl, hF, hb, hd ▸ uW, hcs⟩, fun w' o ho _ => ?_⟩
 simp [execOp, ho, hv, h2, Jo hu h h0 h1]
theorem BP {x : Operand} {y : α} (h : Hr P e ρ bytes) (hx : dw Γ x = some (ea ρ y)) : Rd P E N (.load e x) ty Γ Ω [] (sh ρ y) := fun a w hs => by
 obtain ⟨b, off, cells, ty', fz, es, hv, hF, hb, uW, hcs⟩ := hs.op hx
 refine ⟨Z4 ρ.agg es, [b], xK.2 ⟨es, uW, rfl⟩, ?_, fun w' hw' o ho _ => ?_⟩
 ·intro b' hb'; rw [List.mem_singleton.1 hb']; exact ⟨bS hb, .inl hF.2⟩
 ·have rQ : w'.heap[b]? = some (.cells cells ty' fz) := by rw [hw' b (by simp)]; exact hb
  have := h.load rQ (by rw [uW.length, ρ.len]) hcs
  simp [execOp, ho, hv, Instr.loadAt, Instr.sureAddr, this]
theorem DI {t : TypeId} {x : Operand} {d : List α} (hu : P.underlying t = some (.slice e)) (hx : dw Γ x = some (eN ρ d)) :
  Rd P E N (.call ⟨.builtin .len, #[x], #[t]⟩) ty Γ Ω [] (iv .i64 (d.length : Int)) := .mk fun a w hs => by
 obtain ⟨ad, c, hv, hc, p6⟩ := hs.op hx
 exact ⟨.int .i64 d.length, rfl, fun w' o ho _ => by simp [execOp, ho, resolve, invoke, builtin, Builtin.len_, hv, run_underlying hu, goInt]⟩
theorem r_slen {t : TypeId} {x : Operand} {s : ByteArray} (hu : P.underlying t = some .string) (hx : dw Γ x = some (sv s)) :
  Rd P E N (.call ⟨.builtin .len, #[x], #[t]⟩) ty Γ Ω [] (iv .i64 (s.size : Int)) := .mk fun a w hs => by
 have hv : a.eval x = .string s := hs.op hx
 exact ⟨.int .i64 s.size, rfl, fun w' o ho _ => by simp [execOp, ho, resolve, invoke, builtin, Builtin.len_, hv, run_underlying hu, goInt]⟩
def QV (d : List α) (lo hi : Int) : Option (List α) := if 0 ≤ lo ∧ lo ≤ hi ∧ hi ≤ d.length then some ((d.take hi.toNat).drop lo.toNat) else none
theorem HI {d d' : List α} {lo hi : Int} (h : QV d lo hi = some d') : 0 ≤ lo ∧ lo ≤ hi ∧ hi ≤ d.length ∧ d' = (d.take hi.toNat).drop lo.toNat := by
 unfold QV at h
 split at h
 ·rename_i hh; exact ⟨hh.1, hh.2.1, hh.2.2, by simpa using h.symm⟩
 ·cases h
theorem NA.sub {F : FP} {w : World} {cells : Array Value} {off : Nat} {d : List α} (h : NA ρ F w cells off d) (lo hi : Nat) :
  NA ρ F w cells (off + lo * ρ.size) ((d.take hi).drop lo) := by
 intro i hi'
 have hlt : lo + i < d.length := by simp at hi'; omega
 obtain ⟨es, h1, h2⟩ := h (lo + i) hlt
 refine ⟨es, ?_, fun j hj => ?_⟩
 ·have : ((d.take hi).drop lo)[i] = d[lo + i] := by simp
  rw [this]; exact h1
 ·rw [← h2 j hj, Nat.add_mul]; congr 1; omega
theorem sl_addr {F : FP} {w : World} {ad : Option Addr} {d : List α} {lo hi m l s : Nat} (h : S3 ρ F w ad d) (hd : (d.take hi).drop lo ≠ []) (hlo : l = lo) (hm : m ≠ l ∨ l = 0) (hs : s = ρ.size) :
  S3 ρ F w (if m = l then ad else ad.map (·.add (l * s))) ((d.take hi).drop lo) := by
 intro _
 obtain ⟨b, off, cells, ty, fz, rfl, hF, hb, hH⟩ := h (by intro e; rw [e] at hd; simp at hd)
 subst hlo; subst hs
 refine ⟨b, off + l * ρ.size, cells, ty, fz, ?_, hF, hb, hH.sub l hi⟩
 rcases hm with hm | hm
 ·rw [if_neg hm]; simp [ew]
 ·subst hm; split <;> simp [ew]
theorem EN {t : TypeId} (hu : P.underlying t = some (.slice e)) (h : Hr P e ρ bytes) {ad : Option Addr} {n c : Nat} {lo hi : Option Value} {l hh : Nat}
  (hlo : (lo = none ∧ l = 0) ∨ ∃ k, lo = some (.int k (l : Int))) (hhi : (hi = none ∧ hh = n) ∨ ∃ k, hi = some (.int k (hh : Int))) (h1 : l ≤ hh) (h2 : hh ≤ c) (w : World) :
  (Instr.sliceAt t (.slice ad n c) lo hi none).run P w = .ok (.slice (if c = l then ad else ad.map (·.add (l * ρ.size))) (hh - l) (c - l)) w := by
 have hb : (Instr.sliceBounds true n c lo hi none).run P w = .ok (l, hh, c) w := by
  rcases hlo with ⟨rfl, rfl⟩ | ⟨k, rfl⟩ <;> rcases hhi with ⟨rfl, rfl⟩ | ⟨k', rfl⟩ <;>
   simp [Instr.sliceBounds, Instr.sliceBound, asIntOf, h1, h2]
 simp [Instr.sliceAt, run_underlying hu, Instr.slice, hb, h.sizeOf]
inductive Kr (Γ : List (Nat × RP)) (dflt : Int) : Option Operand → Int → Prop
 | dft : Kr Γ dflt none dflt
 | of {x : Operand} {k : IntKind} {n : Int} (h : dw Γ x = some (iv k n)) : Kr Γ dflt (some x) n
theorem Kr.val {lo : Option Operand} {l dflt : Int} (h : Kr Γ dflt lo l) {a : Act} {w : World} (hs : Sat E N Γ Ω a w) :
  (lo.map a.eval = none ∧ l = dflt) ∨ ∃ k, lo.map a.eval = some (Value.int k l) := by
 cases h with
 | dft => exact .inl ⟨rfl, rfl⟩
 | of hx => exact .inr ⟨_, by simp; exact hs.op hx⟩
theorem r_slice {t : TypeId} {x : Operand} {lo hi : Option Operand} {d d' : List α} {l m : Int} (hd : QV d l m = some d') (hu : P.underlying t = some (.slice e)) (h : Hr P e ρ bytes)
  (hx : dw Γ x = some (eN ρ d)) (hlo : Kr Γ 0 lo l) (hhi : Kr Γ d.length hi m) : Rd P E N (.slice t x lo hi none) ty Γ Ω [] (eN ρ d') := .mk fun a w hs => by
 obtain ⟨h0, h1, h2, rfl⟩ := HI hd
 obtain ⟨ad, c, hv, hc, p6⟩ := hs.op hx
 obtain ⟨l, rfl⟩ := Int.eq_ofNat_of_zero_le h0
 obtain ⟨m, rfl⟩ := Int.eq_ofNat_of_zero_le (Int.le_trans h0 h1)
 have hl := hlo.val hs
 have hm := hhi.val hs
 have e1 : l ≤ m := by omega
 have e2 : m ≤ d.length := by omega
 simp only [Int.toNat_natCast]
 refine ⟨.slice (if c = l then ad else ad.map (·.add (l * ρ.size))) (m - l) (c - l), ⟨if c = l then ad else ad.map (·.add (l * ρ.size)), c - l, ?_, ?_, ?_⟩, fun w' o ho _ => ?_⟩
 ·congr 1; simp; omega
 ·simp; omega
 ·by_cases hne : (d.take m).drop l = []
  ·intro h; exact absurd hne h
  ·refine sl_addr p6 hne rfl ?_ rfl
   left; intro e; apply hne; apply List.drop_eq_nil_of_le; simp; omega
 ·have := EN (P := P) hu h (ad := ad) (n := d.length) (c := c) (lo := lo.map a.eval) (hi := hi.map a.eval) (l := l) (hh := m)
   (hl.imp (fun ⟨e1, e2⟩ => ⟨e1, by omega⟩) id) (hm.imp (fun ⟨e1, e2⟩ => ⟨e1, by omega⟩) id) e1 (by omega) w'
  simp [execOp, ho, hv, this]
def V_ (hv : Value) (sz : Nat) (n : Int) : Value :=
 match hv with
 | .slice (some a) _ _ => .pointer (some (a.add (n.toNat * sz)))
 | _ => .pointer none
theorem Zn {t : TypeId} {x : Operand} {d : List α} {hv : Value} {S : List Nat} {j : Nat} (hu : P.underlying t = some (.slice e)) (hx : dw Γ x = some (pv hv)) (hj : Ω[j]? = some (oa ρ hv S d)) :
  Rd P E N (.call ⟨.builtin .len, #[x], #[t]⟩) ty Γ Ω [] (iv .i64 (d.length : Int)) := .mk fun a w hs => by
 have hv : a.eval x = hv := hs.op hx
 obtain ⟨ad, c, rfl, _⟩ := hs.l9 hj
 exact ⟨.int .i64 d.length, rfl, fun w' o ho _ => by simp [execOp, ho, resolve, invoke, builtin, Builtin.len_, hv, run_underlying hu, goInt]⟩
theorem Rt {t : TypeId} {x i : Operand} {k : IntKind} {d : List α} {n : Int} {y : α} {hv : Value} {S : List Nat} {j : Nat} (hy : aL d n = some y) (hu : P.underlying t = some (.slice e)) (h : Hr P e ρ bytes)
  (hx : dw Γ x = some (pv hv)) (hj : Ω[j]? = some (oa ρ hv S d)) (hi : dw Γ i = some (iv k n)) : Rd P E N (.indexAddr t x i) ty Γ Ω [] (pv (V_ hv ρ.size n)) := .mk fun a w hs => by
 obtain ⟨h0, h1, hlt, hd⟩ := jB hy
 have Ef : a.eval x = hv := hs.op hx
 obtain ⟨ad, c, rfl, hc, p6⟩ := hs.l9 hj
 have h2 : a.eval i = .int k n := hs.op hi
 rcases p6 with ⟨rfl, _, rfl⟩ | ⟨b, off, cells, ty', rfl, hS, hb, hsz, hH⟩
 ·omega
 ·refine ⟨_, rfl, fun w' o ho _ => ?_⟩
  simp [execOp, ho, Ef, h2, Jo hu h h0 h1, V_, ew]
theorem Vp {x : Operand} {d : List α} {n : Int} {y : α} {hv : Value} {S : List Nat} {j : Nat} (hy : aL d n = some y) (h : Hr P e ρ bytes) (hx : dw Γ x = some (pv (V_ hv ρ.size n)))
  (hj : Ω[j]? = some (oa ρ hv S d)) : Rd P E N (.load e x) ty Γ Ω [j] (sh ρ y) := fun a w hs => by
 obtain ⟨h0, h1, hlt, hd⟩ := jB hy
 have Ef : a.eval x = V_ hv ρ.size n := hs.op hx
 have jP := hs.l9 hj
 obtain ⟨ad, c, rfl, hc, p6⟩ := jP
 rcases p6 with ⟨rfl, _, rfl⟩ | ⟨b, off, cells, ty', rfl, hS, hb, hsz, hH⟩
 ·omega
 ·obtain ⟨es, uW, hcs⟩ := hH n.toNat hlt
  rw [hd] at uW
  refine ⟨Z4 ρ.agg es, [b], xK.2 ⟨es, uW, rfl⟩, ?_, fun w' hw' o ho _ => ?_⟩
  ·intro b' hb'; rw [List.mem_singleton.1 hb']; exact ⟨bS hb, .inr ⟨j, by simp, _, hj, by rw [show (oa ρ _ S d).S = S from rfl, hS]; simp⟩⟩
  ·have rQ : w'.heap[b]? = some (.cells cells ty' (0, 0)) := by rw [hw' b (by simp)]; exact hb
   have := h.load rQ (by rw [uW.length, ρ.len]) hcs
   simp [execOp, ho, Ef, V_, ew, Instr.loadAt, Instr.sureAddr, this]
theorem oa_sl {hv : Value} {S : List Nat} {d : List α} {F F' : FP} {w : World} (h : (oa ρ hv S d).h F w) (hF : ∀ b, b < w.heap.size → F b → F' b) (hS : ∀ b ∈ S, F' b) : (eN ρ d).h F' w hv := by
 obtain ⟨ad, c, rfl, hc, p6⟩ := h
 refine ⟨ad, c, rfl, hc, fun hd => ?_⟩
 rcases p6 with ⟨rfl, _, rfl⟩ | ⟨b, off, cells, ty', rfl, rfl, hb, hsz, hH⟩
 ·exact absurd (List.eq_nil_of_length_eq_zero (by omega)) hd
 ·exact ⟨b, off, cells, ty', (0, 0), rfl, hS b (by simp), hb, hH.mono (.refl hF)⟩
theorem Sat.freeze {a : Act} {w : World} (hs : Sat E N Γ Ω a w) {j : Nat} {o : OB} (hj : Ω[j]? = some o) : Sat E N Γ (Ω.set j dead) a w :=
 hs.upd hj ⟨rfl, rfl, rfl, by first | exact fun _ => Nat.le_refl _ | exact fun _ => Nat.le_add_right _ _⟩ (Nat.le_refl _) (fun _ _ _ => rfl) (fun b hb => by simp [dead] at hb) (by simp [dead]) trivial
theorem B4 {j : Nat} {o o' : OB} (hj : Ω[j]? = some o) (hnd : (ow Ω).Nodup) {b : Nat} (hb : b ∈ o.S) (hb' : b ∉ o'.S) : b ∉ ow (Ω.set j o') := by
 obtain ⟨A, B, rfl, rfl⟩ := nj hj
 rw [ko]
 rw [jI] at hnd ⊢
 obtain ⟨nA, nR, dA⟩ := List.nodup_append.1 hnd
 obtain ⟨nO, nB, dO⟩ := List.nodup_append.1 nR
 rw [List.mem_append, List.mem_append]
 rintro (h | h | h)
 ·exact dA b h b (List.mem_append_left _ hb) rfl
 ·exact hb' h
 ·exact dO b hb b h rfl
end el
end Go.Dc
namespace Go.Dc
variable [aq]
variable {P : Program} {E : Env} {N : Nat} {Γ : List (Nat × RP)} {Ω : List OB} {ty : TypeId}
section lists
variable {α : Type} {ρ : iC α} {F : FP} {w : World} {cells : Array Value}
theorem Ey (d : List α) : (d.flatMap ρ.cp).length = d.length * ρ.size := by
 induction d with
 | nil => simp
 | cons x d ih => simp [ρ.len, ih, Nat.succ_mul, Nat.add_comm]
theorem NA.list : ∀ {d : List α} {off : Nat}, NA ρ F w cells off d → ∃ es, bZ F w (d.flatMap ρ.cp) es ∧ ∀ j, j < d.length * ρ.size → cells[off + j]? = es[j]?
 | [], off, _ => ⟨[], trivial, fun j hj => by simp at hj⟩
 | x :: d, off, h => by
  obtain ⟨es0, h1, h2⟩ := h 0 (by simp)
  obtain ⟨es, h3, h4⟩ := NA.list (d := d) (off := off + ρ.size) fun i hi => by
   obtain ⟨e, a, b⟩ := h (i + 1) (by simpa using hi)
   exact ⟨e, a, fun j hj => by rw [← b j hj, Nat.succ_mul]; congr 1; omega⟩
  refine ⟨es0 ++ es, by rw [List.flatMap_cons]; exact h1.append h3, fun j hj => ?_⟩
  have hl : es0.length = ρ.size := by rw [h1.length]; exact ρ.len x
  by_cases hlt : j < ρ.size
  ·rw [List.getElem?_append_left (by omega)]; have := h2 j hlt; simpa using this
  ·rw [List.getElem?_append_right (by omega), hl, ← h4 (j - ρ.size) (by rw [List.length_cons, Nat.succ_mul] at hj; omega)]
   congr 1; omega
theorem NA.of : ∀ {d : List α} {off : Nat} {es : List Value}, bZ F w (d.flatMap ρ.cp) es → (∀ j, j < d.length * ρ.size → cells[off + j]? = es[j]?) → NA ρ F w cells off d
 | [], _, _, _, _ => fun i hi => by simp at hi
 | x :: d, off, es, h1, h2 => by
  rw [List.flatMap_cons] at h1
  obtain ⟨e0, e1, rfl, a0, a1⟩ := h1.split
  have hl : e0.length = ρ.size := by rw [a0.length]; exact ρ.len x
  have hs : (x :: d).length * ρ.size = d.length * ρ.size + ρ.size := by rw [List.length_cons, Nat.succ_mul]
  have ih := NA.of (off := off + ρ.size) a1 fun j hj => by
   have := h2 (ρ.size + j) (by omega)
   rw [List.getElem?_append_right (by omega), hl] at this
   rw [Nat.add_assoc, this]; congr 1; omega
  intro i hi
  cases i with
  | zero => exact ⟨e0, a0, fun j hj => by have := h2 j (by omega); rw [List.getElem?_append_left (by omega)] at this; simpa using this⟩
  | succ i =>
   obtain ⟨e, p, q⟩ := ih i (by simpa using hi)
   exact ⟨e, p, fun j hj => by rw [← q j hj, Nat.succ_mul]; congr 1; omega⟩
theorem cp_atoms (d : List α) {es : List Value} (h : bZ F w (d.flatMap ρ.cp) es) : ∀ v ∈ es, v.oneCell' = true :=
 h.atoms fun φ hφ => by obtain ⟨x, _, hx⟩ := List.mem_flatMap.1 hφ; exact ρ.at_ x φ hx
end lists
def dh {α : Type} (bytes : Nat) (d e : List α) : Option (List α) := if (d.length + e.length) * bytes ≤ 140737488355328 then some (d ++ e) else none
theorem E8 {α : Type} {bytes : Nat} {d e f : List α} (h : dh bytes d e = some f) : (d.length + e.length) * bytes ≤ 140737488355328 ∧ f = d ++ e := by
 unfold dh at h
 split at h
 ·rename_i hh; exact ⟨hh, by simpa using h.symm⟩
 ·cases h
theorem Gq {size m yc : Nat} {ya : Option Addr} {news : List Value} {w : World} (hl : news.length = m * size)
  (h : m * size = 0 ∨ ∃ b off cells ty fz, ya = some ⟨b, off, none⟩ ∧ w.heap[b]? = some (.cells cells ty fz) ∧ ∀ j, j < m * size → cells[off + j]? = news[j]?) :
  (Builtin.firstCells size m (.slice ya m yc)).run P w = .ok news.toArray w := by
 rcases h with h | ⟨b, off, cells, ty, fz, rfl, hb, hc⟩
 ·have : news = [] := List.eq_nil_of_length_eq_zero (by omega)
  subst this
  cases ya with
  | none => simp [Builtin.firstCells]
  | some a => simp [Builtin.firstCells, h, loadCells, loadCellsFrom]
 ·refine run_firstCells_some w size m _ m yc news hl fun j v hv => ?_
  have hj : j < news.length := (List.getElem?_eq_some_iff.1 hv).1
  rw [ew, I1 hb, hc j (by omega), hv]
theorem HM (t ty e : TypeId) (i : TypeInfo) (z : Value) (ht : P.underlying t = some (.slice e)) (hi : P.info? e = some i) (hz : i.zero = some z)
  {base ya : Option Addr} {n c m yc : Nat} {olds news : List Value} {w : World}
  (ho : (Builtin.firstCells i.size n (.slice base n c)).run P w.drew = .ok olds.toArray w.drew)
  (hn : (Builtin.firstCells i.size m (.slice ya m yc)).run P w.drew = .ok news.toArray w.drew)
  (hg : c < n + m) (h63 : ((n + m : Nat) : Int) ≤ 9223372036854775807) (hfit : Builtin.nextslicecap (n + m) c * i.bytes ≤ 281474976710656) :
  (Builtin.append_ #[t, t] ty #[.slice base n c, .slice ya m yc]).run P w =
   .ok (.slice (some ⟨w.heap.size, 0, none⟩) (n + m) (grownCap w (n + m) c e))
    (w.drew.alloc (.cells (olds.toArray ++ news.toArray ++ Builtin.zeroCells z.cells (grownCap w (n + m) c e - (n + m))) e)) := by
 have hn' : ¬ (n + m ≤ c) := by omega
 have h63' : ¬ (9223372036854775807 < ((n : Int) + (m : Int))) := by omega
 have h48' : ¬ (281474976710656 < Builtin.nextslicecap (n + m) c * i.bytes) := by omega
 simp [Builtin.append_, run_underlying ht, sizeOf, typeInfo, zeroValue, hi, hz, Builtin.lenOf, hn', h63', h48', Question.forced, ho, hn, newRow, grownCap]
 congr 2
 apply Array.ext'
 simp
theorem PJ (t ty e : TypeId) (i : TypeInfo) (ht : P.underlying t = some (.slice e)) (hi : P.info? e = some i)
  {ya : Option Addr} {g off n c m yc : Nat} {cells : Array Value} {et : TypeId} {news : List Value} {w : World} (hb : w.heap[g]? = some (.cells cells et (0, 0)))
  (hn : (Builtin.firstCells i.size m (.slice ya m yc)).run P w = .ok news.toArray w) (hl : news.length = m * i.size) (h1 : ∀ v ∈ news, v.oneCell' = true)
  (hroom : n + m ≤ c) (hfit : off + c * i.size ≤ cells.size) :
  (Builtin.append_ #[t, t] ty #[.slice (some ⟨g, off, none⟩) n c, .slice ya m yc]).run P w =
   .ok (.slice (some ⟨g, off, none⟩) (n + m) c) (w.setRow g (cells.toList.take (off + n * i.size) ++ news ++ cells.toList.drop (off + n * i.size + news.length)).toArray) := by
 have hle : (n + m) * i.size ≤ c * i.size := Nat.mul_le_mul_right _ hroom
 rw [Nat.add_mul] at hle
 have hst := run_storeCells_at P g (off + n * i.size) et news 0 cells w hb (by omega) h1
 simp only [Nat.add_zero] at hst
 simp [Builtin.append_, run_underlying ht, sizeOf, typeInfo, hi, Builtin.lenOf, hroom, hn, ew, hst]
section app
variable {α : Type} {e : TypeId} {ρ : iC α} {bytes : Nat}
theorem PG {F : FP} {w : World} {ad : Option Addr} {d : List α} (h : S3 ρ F w ad d) : ∃ es, bZ F w (d.flatMap ρ.cp) es ∧
  (d.length * ρ.size = 0 ∨ ∃ b off cells ty fz, ad = some ⟨b, off, none⟩ ∧ F b ∧ w.heap[b]? = some (.cells cells ty fz) ∧ ∀ j, j < d.length * ρ.size → cells[off + j]? = es[j]?) := by
 by_cases hd : d = []
 ·subst hd; exact ⟨[], trivial, .inl (by simp)⟩
 ·obtain ⟨b, off, cells, ty, fz, rfl, hF, hb, hH⟩ := h hd
  obtain ⟨es, h1, h2⟩ := hH.list
  exact ⟨es, h1, .inr ⟨b, off, cells, ty, fz, rfl, hF, hb, h2⟩⟩
theorem fT (w : World) (o : Obj) : (w.alloc o).heap[w.heap.size]? = some o := by
 show (w.heap.push o)[w.heap.size]? = _
 simp
theorem bF (w : World) (o : Obj) {b : Nat} (h : b < w.heap.size) : (w.alloc o).heap[b]? = w.heap[b]? := by
 show (w.heap.push o)[b]? = _
 rw [Array.getElem?_push, if_neg (by omega)]
theorem Sb {w : World} {n c : Nat} {e : TypeId} : n ≤ grownCap w n c e := by simp [grownCap, Question.cut]
theorem R9 {F : FP} {w' : World} {d d' : List α} {es es' : List Value} {zs : Array Value} {c g : Nat} (h1 : bZ F w' (d.flatMap ρ.cp) es) (h2 : bZ F w' (d'.flatMap ρ.cp) es')
  {cells : Array Value} {et : TypeId} (y8 : cells = es.toArray ++ es'.toArray ++ zs) (hb : w'.heap[g]? = some (.cells cells et (0, 0)))
  (hz : zs.size = (c - (d.length + d'.length)) * ρ.size) (hc : d.length + d'.length ≤ c) :
  (oa ρ (.slice (some ⟨g, 0, none⟩) (d.length + d'.length) c) [g] (d ++ d')).h F w' := by
 have l1 : es.length = d.length * ρ.size := by rw [h1.length, Ey]
 have l2 : es'.length = d'.length * ρ.size := by rw [h2.length, Ey]
 subst y8
 refine ⟨some ⟨g, 0, none⟩, c, by rw [List.length_append], by rw [List.length_append]; exact hc, .inr ⟨g, 0, _, et, rfl, rfl, hb, ?_, ?_⟩⟩
 ·have h5 : d.length * ρ.size + d'.length * ρ.size + (c - (d.length + d'.length)) * ρ.size = c * ρ.size := by
   rw [← Nat.add_mul, ← Nat.add_mul]; congr 1; omega
  simp only [Array.size_append, List.size_toArray, l1, l2, hz]
  omega
 ·refine NA.of (es := es ++ es') (by rw [List.flatMap_append]; exact h1.append h2) fun j hj => ?_
  rw [List.length_append, Nat.add_mul] at hj
  rw [Nat.zero_add, Array.getElem?_append_left (by simp [l1, l2]; omega)]
  simp
theorem qA {t : TypeId} {x y : Operand} {a : Act} {o : Oper} (ho : o.op = .call ⟨.builtin .append, #[x, y], #[t, t]⟩) {vx vy v : Value} (hx : a.eval x = vx) (hy : a.eval y = vy)
  {w w' : World} (h : (Builtin.append_ #[t, t] o.type #[vx, vy]).run P w = .ok v w') : (execOp a.eval o).run P w = .ok (.value v) w' := by
 simp [execOp, ho, resolve, invoke, builtin, hx, hy, h]
theorem iU {op : Op} {ty : TypeId} {ρ : Operand → Value} {w w' : World} {v : Value} {k : Value → World → Prop}
  (h : ∀ o : Oper, o.op = op → o.type = ty → (execOp ρ o).run P w = .ok (.value v) w') (hk : k v w') : opwp P op ty ρ w k := by
 intro o ho ht
 rw [h o ho ht]
 exact hk
theorem Wn {bytes n m c : Nat} (h : (n + m) * bytes ≤ 140737488355328) (hb : 0 < bytes) (hc : c < n + m) :
  ((n + m : Nat) : Int) ≤ 9223372036854775807 ∧ Builtin.nextslicecap (n + m) c * bytes ≤ 281474976710656 := by
 have : n + m ≤ (n + m) * bytes := Nat.le_mul_of_pos_right _ hb
 exact ⟨by omega, growslice_fits hc h⟩
theorem wo {j : Nat} {o o' : OB} (hj : Ω[j]? = some o) {b : Nat} (h : fr E Ω b) (hb : b ∉ o'.S) : fr E (Ω.set j o') b := by
 obtain ⟨A, B, rfl, rfl⟩ := nj hj
 rw [ko]
 refine ⟨h.1, fun hm => h.2 ?_⟩
 rw [jI] at hm ⊢
 simp only [List.mem_append] at hm ⊢
 rcases hm with hm | hm | hm
 ·exact .inl hm
 ·exact absurd hm hb
 ·exact .inr (.inr hm)
theorem Uq {o : OB} {b : Nat} (h : fr E Ω b) (hb : b ∉ o.S) : fr E (Ω ++ [o]) b := by
 refine ⟨h.1, fun hm => ?_⟩
 rw [iG, PX, List.mem_append] at hm
 exact hm.elim h.2 hb
theorem DD {t : TypeId} {x y : Operand} {hv : Value} {S : List Nat} {d d' d'' : List α} {j : Nat} (hd : dh bytes d d' = some d'') (hu : P.underlying t = some (.slice e)) (h : Hr P e ρ bytes)
    (hx : dw Γ x = some (pv hv)) (hj : Ω[j]? = some (oa ρ hv S d)) (hy : dw Γ y = some (eN ρ d')) :
    St P E N (.call ⟨.builtin .append, #[x, y], #[t, t]⟩) ty Γ Ω [j] (fun X : Value × List Nat => pv X.1) (fun X => Ω.set j (oa ρ X.1 X.2 d'')) := by
  intro a w hs
  obtain ⟨hsz, rfl⟩ := E8 hd
  have XG : a.eval x = hv := hs.op hx
  obtain ⟨ya, yc, hvy, hyc, hyat⟩ := hs.op hy
  obtain ⟨base, c, rfl, hc, jP⟩ := hs.l9 hj
  obtain ⟨i, hi, his, hib, z, hz, hzs⟩ := h.info
  obtain ⟨news, hnews, hnc⟩ := PG hyat
  have hnl : news.length = d'.length * ρ.size := by rw [hnews.length, Ey]
  have hSw : ∀ b ∈ S, b < w.heap.size := fun b hb => (hs.bd b (Sat.me hj hb)).1
  by_cases hroom : d.length + d'.length ≤ c
  · rcases jP with ⟨rfl, rfl, rfl⟩ | ⟨g, off, cells, et, rfl, rfl, hb, hfit, hH⟩
    · -- nothing there and nothing to come
      have Ys : d = [] := List.eq_nil_of_length_eq_zero (by omega)
      have hd1 : d' = [] := List.eq_nil_of_length_eq_zero (by omega)
      subst Ys; subst hd1
      have hr : (Builtin.append_ #[t, t] ty #[.slice none 0 0, .slice ya 0 yc]).run P w = .ok (.slice none 0 0) w := by
        have hf := Gq (P := P) (size := i.size) (m := 0) (yc := yc) (ya := ya) (news := []) (w := w) (by simp) (.inl (by simp))
        simp [Builtin.append_, run_underlying hu, sizeOf, typeInfo, hi, Builtin.lenOf, hf]
      refine iU (v := .slice none 0 0) (w' := w) (fun o ho ht => qA ho XG hvy (by rw [ht]; exact hr)) ⟨(.slice none 0 0, []), ?_, rfl, Nat.le_refl _, fun _ _ _ => rfl, sK hj fun b hb => .inl hb⟩
      refine hs.upd hj ⟨rfl, rfl, rfl, by first | exact fun _ => Nat.le_refl _ | exact fun _ => Nat.le_add_right _ _⟩ (Nat.le_refl _) (fun _ _ _ => rfl) (fun b hb => .inl hb) (by simp [oa]) ?_
      exact ⟨none, 0, rfl, Nat.le_refl _, .inl ⟨rfl, rfl, rfl⟩⟩
    · have hf := Gq (P := P) (size := i.size) (m := d'.length) (yc := yc) (ya := ya) (news := news) (w := w) (by rw [his, hnl])
        (by rw [his]; exact hnc.imp id fun ⟨b, off, cells, ty, fz, h1, _, h3, h4⟩ => ⟨b, off, cells, ty, fz, h1, h3, h4⟩)
      have hr := PJ (P := P) t ty e i hu hi (off := off) (n := d.length) (c := c) hb hf (by rw [his, hnl]) (cp_atoms d' hnews) hroom (by rw [his]; exact hfit)
      rw [his] at hr
      obtain ⟨es, uW, hec⟩ := hH.list
      have hel : es.length = d.length * ρ.size := by rw [uW.length, Ey]
      have hle : (d.length + d'.length) * ρ.size ≤ c * ρ.size := Nat.mul_le_mul_right _ hroom
      rw [Nat.add_mul] at hle
      refine iU (fun o ho ht => qA ho XG hvy (by rw [ht]; exact hr)) ⟨(.slice (some ⟨g, off, none⟩) (d.length + d'.length) c, [g]), ?_, rfl, by simp, ?_, sK hj fun b hb => .inl hb⟩
      · have hst : ∀ b, b < w.heap.size → b ∉ [g] → (w.setRow g (cells.toList.take (off + d.length * ρ.size) ++ news ++ cells.toList.drop (off + d.length * ρ.size + news.length)).toArray).heap[b]? = w.heap[b]? :=
          fun b _ hn => setRow_other w g b _ (by simpa using hn)
        refine hs.upd hj ⟨rfl, rfl, rfl, by first | exact fun _ => Nat.le_refl _ | exact fun _ => Nat.le_add_right _ _⟩ (by simp) hst (fun b hb => .inl hb) (by simp [oa]) ?_
        have hag : Ag (fr E Ω) (fr E (Ω.set j (oa ρ (.slice (some ⟨g, off, none⟩) (d.length + d'.length) c) [g] (d ++ d')))) w
            (w.setRow g (cells.toList.take (off + d.length * ρ.size) ++ news ++ cells.toList.drop (off + d.length * ρ.size + news.length)).toArray) :=
          ⟨fun b hb hf => wo hj hf (fun hm => hf.2 (Sat.me hj (b := b) hm)), fun b hb hf => hst b hb fun hm => hf.2 (Sat.me hj (b := b) hm)⟩
        refine ⟨some ⟨g, off, none⟩, c, by rw [List.length_append], by rw [List.length_append]; exact hroom, .inr ⟨g, off, _, et, rfl, rfl, setRow_heap w g cells _ et (0, 0) hb, ?_, ?_⟩⟩
        · simp only [List.size_toArray, List.length_append, List.length_take, List.length_drop, Array.length_toList]; omega
        · refine NA.of (es := es ++ news) (by rw [List.flatMap_append]; exact (uW.mono hag).append (hnews.mono hag)) fun k hk => ?_
          rw [List.length_append, Nat.add_mul] at hk
          rw [List.getElem?_toArray, List.append_assoc]
          have hlt : (cells.toList.take (off + d.length * ρ.size)).length = off + d.length * ρ.size := by
            have : cells.toList.length = cells.size := Array.length_toList
            rw [List.length_take, this]; omega
          by_cases hk1 : k < d.length * ρ.size
          · rw [List.getElem?_append_left (by omega), List.getElem?_append_left (by omega), List.getElem?_take, if_pos (by omega), ← hec k hk1]
            simp
          · have e1 : (cells.toList.take (off + d.length * ρ.size) ++ (news ++ cells.toList.drop (off + d.length * ρ.size + news.length)))[off + k]? = news[k - d.length * ρ.size]? := by
              rw [List.getElem?_append_right (by omega), List.getElem?_append_left (by omega), hlt]
              congr 1; omega
            have e2 : (es ++ news)[k]? = news[k - d.length * ρ.size]? := by
              rw [List.getElem?_append_right (by omega), hel]
            rw [e1, e2]
      · intro b hb hn
        exact setRow_other w g b _ (fun e => hn j (by simp) _ hj (by rw [e]; simp [oa]))
  · have aaD := Wn hsz h.bpos (Nat.lt_of_not_le hroom)
    have hdw : ∀ b : Nat, w.drew.heap[b]? = w.heap[b]? := fun _ => rfl
    have hf := Gq (P := P) (size := i.size) (m := d'.length) (yc := yc) (ya := ya) (news := news) (w := w.drew) (by rw [his, hnl])
      (by rw [his]; exact hnc.imp id fun ⟨b, off, cells, ty, fz, h1, _, h3, h4⟩ => ⟨b, off, cells, ty, fz, h1, h3, h4⟩)
    obtain ⟨es, uW, hold⟩ : ∃ es, bZ (fr E Ω) w (d.flatMap ρ.cp) es ∧ (Builtin.firstCells i.size d.length (.slice base d.length c)).run P w.drew = .ok es.toArray w.drew := by
      rcases jP with ⟨rfl, rfl, rfl⟩ | ⟨g, off, cells, et, rfl, rfl, hb, hfit, hH⟩
      · have Ys : d = [] := List.eq_nil_of_length_eq_zero (by omega)
        subst Ys
        exact ⟨[], trivial, Gq (by simp) (.inl (by simp))⟩
      · obtain ⟨es, uW, hec⟩ := hH.list
        exact ⟨es, uW, Gq (by rw [uW.length, Ey, his]) (.inr ⟨g, off, cells, et, (0, 0), rfl, hb, by rw [his]; exact hec⟩)⟩
    have hr := HM (P := P) t ty e i z hu hi hz hold hf (Nat.lt_of_not_le hroom) aaD.1 (by rw [hib]; exact aaD.2)
    refine iU (fun o ho ht => qA ho XG hvy (by rw [ht]; exact hr)) ⟨(.slice (some ⟨w.heap.size, 0, none⟩) (d.length + d'.length) (grownCap w (d.length + d'.length) c e), [w.heap.size]), ?_, rfl, by simp, ?_, sK hj fun b hb => .inr (by simp [oa] at hb; omega)⟩
    · have hst : ∀ b, b < w.heap.size → ∀ o, (w.drew.alloc o).heap[b]? = w.heap[b]? := fun b hb o => bF w.drew o hb
      refine hs.upd hj ⟨rfl, rfl, rfl, by first | exact fun _ => Nat.le_refl _ | exact fun _ => Nat.le_add_right _ _⟩ (by simp) (fun b hb _ => hst b hb _) (fun b hb => .inr ?_) (by simp [oa]) ?_
      · rw [show b = w.heap.size from by simpa [oa] using hb]; exact ⟨Nat.le_refl _, by show _ < (w.drew.alloc _).heap.size; rw [World.size_alloc]; exact Nat.lt_succ_self _⟩
      · have hag : Ag (fr E Ω) (fr E (Ω.set j (oa ρ (.slice (some ⟨w.heap.size, 0, none⟩) (d.length + d'.length) (grownCap w (d.length + d'.length) c e)) [w.heap.size] (d ++ d')))) w
            (w.drew.alloc (.cells (es.toArray ++ news.toArray ++ Builtin.zeroCells z.cells (grownCap w (d.length + d'.length) c e - (d.length + d'.length))) e)) :=
          ⟨fun b hb hf => wo hj hf (fun hm => by
            have : b = w.heap.size := (by simpa [oa] using hm)
            omega), fun b hb _ => hst b hb _⟩
        refine R9 (uW.mono hag) (hnews.mono hag) rfl (fT w.drew _) ?_ Sb
        simp [Builtin.zeroCells, hzs]
    · intro b hb _; exact bF w.drew _ hb
theorem WT {t : TypeId} {x y : Operand} {d d' : List α} (hd : dh bytes ([] : List α) d = some d') (hu : P.underlying t = some (.slice e)) (h : Hr P e ρ bytes)
  (hx : dw Γ x = some (pv (.slice none 0 0))) (hy : dw Γ y = some (eN ρ d)) :
  St P E N (.call ⟨.builtin .append, #[x, y], #[t, t]⟩) ty Γ Ω [] (fun X : Value × List Nat => pv X.1) (fun X => Ω ++ [oa ρ X.1 X.2 d']) := by
 intro a w hs
 have hs' : Sat E N Γ (Ω ++ [oa ρ (.slice none 0 0) [] ([] : List α)]) a w :=
  hs.add ⟨rfl, rfl, rfl, by first | exact fun _ => Nat.le_refl _ | exact fun _ => Nat.le_add_right _ _⟩ (Nat.le_refl _) (fun _ _ => rfl) (fun b hb => by simp [oa] at hb) (by simp [oa]) ⟨none, 0, rfl, Nat.le_refl _, .inl ⟨rfl, rfl, rfl⟩⟩
 have hj : (Ω ++ [oa ρ (.slice none 0 0) [] ([] : List α)])[Ω.length]? = some (oa ρ (.slice none 0 0) [] ([] : List α)) := by simp
 intro o ho ht
 have hmono : ∀ {k k' : Value → World → Prop} {res : Result Next}, (∀ v w', k v w' → k' v w') → DH P k res → DH P k' res := fun hkk h => by
  unfold DH at h ⊢
  split at h
  ·exact hkk _ _ h
  ·exact hkk _ _ h
  ·exact h.mono fun e w'' ⟨v, e1, e2⟩ => ⟨v, e1, hkk _ _ e2⟩
  ·exact h.elim
 refine hmono ?_ (DD (ty := ty) hd hu h hx hj hy a w hs' o ho ht)
 rintro v w' ⟨X, h1, h2, h0, h3, h4⟩
 have e1 : (Ω ++ [oa ρ (.slice none 0 0) [] ([] : List α)]).set Ω.length (oa ρ X.1 X.2 d') = Ω ++ [oa ρ X.1 X.2 d'] := by simp
 have h1' : Sat E N Γ ((Ω ++ [oa ρ (.slice none 0 0) [] ([] : List α)]).set Ω.length (oa ρ X.1 X.2 d')) a w' := h1
 rw [e1] at h1'
 have h4' : ∀ b, b < w.heap.size → b ∈ ow ((Ω ++ [oa ρ (.slice none 0 0) [] ([] : List α)]).set Ω.length (oa ρ X.1 X.2 d')) → b ∈ ow (Ω ++ [oa ρ (.slice none 0 0) [] ([] : List α)]) := h4
 rw [e1] at h4'
 refine ⟨X, h1', h2, h0, fun b hb _ => h3 b hb fun k hk ob jP => ?_, fun b hb hm => ?_⟩
 rotate_left
 ·have := h4' b hb hm
  rw [iG, PX] at this
  simpa [oa] using this
 rw [List.mem_singleton.1 hk, hj] at jP
 cases jP
 simp [oa]
end app
end Go.Dc
namespace Go.Dc
variable [aq]
variable {P : Program} {E : Env} {N : Nat} {Γ : List (Nat × RP)} {Ω : List OB} {ty : TypeId}
def oR (E : Env) (N : Nat) (Γ : List (Nat × RP)) (Ω : List OB) (x : Operand) (fQ : List RP) : Prop :=
 ∀ a w, Sat E N Γ Ω a w → bZ (fr E Ω) w fQ (a.eval x).cells.toList ∧ ∀ v ∈ (a.eval x).cells.toList, v.oneCell' = true
theorem jy {k : IntKind} {n : Int} : (iv k n).At := lN rfl
theorem bv_at {b : Bool} : (bv b).At := lN rfl
theorem sv_at {s : ByteArray} : (sv s).At := lN rfl
theorem Jm {α : Type} {ρ : iC α} {d : List α} : (eN ρ d).At := (wC ρ).at_ d _ (by simp [wC, one])
theorem PW {x : Operand} {φ : RP} (h : dw Γ x = some φ) (p6 : φ.At) : oR E N Γ Ω x [φ] := fun a w hs => by
 have h1 := hs.op h
 have h2 := p6 h1
 rw [cells_one h2]
 exact ⟨⟨h1, trivial⟩, by simpa using h2⟩
theorem part_ag {fQ : List RP} {x : Operand} (h : dw Γ x = some (ag fQ)) (p6 : ∀ φ ∈ fQ, φ.At) : oR E N Γ Ω x fQ := fun a w hs => by
 obtain ⟨cs, h1, h2⟩ := hs.op h
 rw [h1]
 exact ⟨h2, h2.atoms p6⟩
theorem ZE {α : Type} {ρ : iC α} {d : List α} {x : Operand} {hv : Value} {S : List Nat} {j : Nat} (h : dw Γ x = some (pv hv)) (hj : Ω[j]? = some (oa ρ hv S d)) :
  oR E N Γ Ω x [pv hv] := fun a w hs => by
 have h1 : a.eval x = hv := hs.op h
 obtain ⟨ad, c, rfl, _⟩ := hs.l9 hj
 rw [h1]
 exact ⟨⟨rfl, trivial⟩, by simp [Value.cells, Value.oneCell']⟩
def E9 (E : Env) (N : Nat) (Γ : List (Nat × RP)) (Ω : List OB) : List (Nat × Operand) → List (Nat × List RP) → Prop
 | [], [] => True
 | (i, x) :: xs, (k, fQ) :: rs => i = k ∧ oR E N Γ Ω x fQ ∧ E9 E N Γ Ω xs rs
 | _, _ => False
theorem M6 : ∀ (vs : List Value) (off k : Nat) (cs : Array Value), off + k + vs.length ≤ cs.size →
  ((vs.zipIdx k).foldl (fun cs (x : Value × Nat) => cs.setIfInBounds (off + x.2) x.1) cs).toList = cs.toList.take (off + k) ++ vs ++ cs.toList.drop (off + k + vs.length)
 | [], off, k, cs, _ => by simp
 | v :: vs, off, k, cs, h => by
  simp only [List.length_cons] at h
  rw [List.zipIdx_cons, List.foldl_cons]
  have ih := M6 vs off (k + 1) (cs.setIfInBounds (off + k) v) (by simp; omega)
  rw [ih]
  have hlt : off + k < cs.toList.length := by rw [Array.length_toList]; omega
  rw [Array.toList_setIfInBounds]
  have e1 : (cs.toList.set (off + k) v).take (off + (k + 1)) = cs.toList.take (off + k) ++ [v] := by
   rw [← Nat.add_assoc, List.take_add_one, List.take_set_of_le (Nat.le_refl _), List.getElem?_set_self hlt]; rfl
  have e2 : (cs.toList.set (off + k) v).drop (off + (k + 1) + vs.length) = cs.toList.drop (off + k + (v :: vs).length) := by
   rw [List.drop_set_of_lt (by omega)]; congr 1; simp; omega
  rw [e1, e2]; simp
def zY (place : Nat → Option (Nat × Nat)) : List RP → List (Nat × List RP) → List RP
 | bY, [] => bY
 | bY, (i, fQ) :: r => match place i with
  | none => bY
  | some (off, size) => zY place (bY.take off ++ fQ ++ bY.drop (off + size)) r
def CI (place : Nat → Option (Nat × Nat)) (n : Nat) : List (Nat × List RP) → Bool
 | [] => true
 | (i, fQ) :: r => (match place i with
  | none => false
  | some (off, size) => Nat.beq fQ.length size && Nat.ble (off + size) n) && CI place n r
theorem Qu {F : FP} {w : World} {place : Nat → Option (Nat × Nat)} (g : Operand → Value) : ∀ {ps : List (Nat × Operand)} {rs : List (Nat × List RP)} {bY : List RP} {cells : Array Value},
  (∀ i x fQ, (i, x, fQ) ∈ (ps.zip rs).map (fun p => (p.1.1, p.1.2, p.2.2)) → bZ F w fQ (g x).cells.toList) → (ps.map (·.1) = rs.map (·.1)) → bZ F w bY cells.toList → CI place bY.length rs = true →
  ∃ out, Instr.fill place cells (ps.map fun p => (p.1, g p.2)) = some out ∧ bZ F w (zY place bY rs) out.toList
 | [], [], bY, cells, _, _, hc, _ => ⟨cells, rfl, hc⟩
 | (i, x) :: ps, (k, fQ) :: rs, bY, cells, hp, hk, hc, hf => by
  simp only [List.map_cons, List.cons.injEq] at hk
  obtain ⟨rfl, hk⟩ := hk
  have hx := hp i x fQ (by simp)
  have hl := hx.length
  have y8 := hc.length
  simp only [CI, Bool.and_eq_true] at hf
  obtain ⟨hf1, hf2⟩ := hf
  cases hpl : place i with
  | none => simp [hpl] at hf1
  | some q =>
   obtain ⟨off, size⟩ := q
   simp only [hpl, Bool.and_eq_true] at hf1
   have h1 : fQ.length = size := Nat.eq_of_beq_eq_true hf1.1
   have h2 : off + size ≤ bY.length := Nat.le_of_ble_eq_true hf1.2
   have hvs : (g x).cells.size = size := by rw [← Array.length_toList, hl, h1]
   have hcs : cells.size = bY.length := by rw [← Array.length_toList, y8]
   simp only [List.map_cons, Instr.fill, hpl, zY]
   rw [if_neg (by simp [hvs, hcs]; omega)]
   have VX : ((g x).cells.zipIdx.foldl (fun cs (c, j) => cs.setIfInBounds (off + j) c) cells).toList = cells.toList.take off ++ (g x).cells.toList ++ cells.toList.drop (off + size) := by
    have := M6 (g x).cells.toList off 0 cells (by rw [Array.length_toList]; omega)
    rw [← Array.foldl_toList, Array.toList_zipIdx]
    simp only [Nat.add_zero, Array.length_toList, hvs] at this
    exact this
   refine Qu g (fun i' x' ψ' hm => hp i' x' ψ' (by simp only [List.zip_cons_cons, List.map_cons]; exact List.mem_cons_of_mem _ hm)) hk ?_ ?_
   ·rw [VX]; exact ((hc.take off).append hx).append (hc.drop (off + size))
   ·have : (bY.take off ++ fQ ++ bY.drop (off + size)).length = bY.length := by simp; omega
    rw [this]; exact hf2
 | [], _ :: _, _, _, _, hk, _, _ => by simp at hk
 | _ :: _, [], _, _, _, hk, _, _ => by simp at hk
theorem E9.all {a : Act} {w : World} (hs : Sat E N Γ Ω a w) : ∀ {ps : List (Nat × Operand)} {rs : List (Nat × List RP)}, E9 E N Γ Ω ps rs →
  (∀ i x fQ, (i, x, fQ) ∈ (ps.zip rs).map (fun p => (p.1.1, p.1.2, p.2.2)) → bZ (fr E Ω) w fQ (a.eval x).cells.toList) ∧ ps.map (·.1) = rs.map (·.1)
 | [], [], _ => ⟨by simp, rfl⟩
 | (i, x) :: ps, (k, fQ) :: rs, ⟨h1, h2, h3⟩ => by
  obtain ⟨h4, h5⟩ := h3.all hs
  refine ⟨fun i' x' ψ' hm => ?_, by simp [h1, h5]⟩
  simp only [List.zip_cons_cons, List.map_cons, List.mem_cons, Prod.mk.injEq] at hm
  rcases hm with ⟨_, rfl, rfl⟩ | hm
  ·exact (h2 a w hs).1
  ·exact h4 i' x' ψ' hm
 | [], _ :: _, h => h.elim
 | _ :: _, [], h => h.elim
def StT (P : Program) (t : TypeId) (n : Nat) (places : List (Nat × Nat)) : Prop :=
 ∃ fields, P.underlying t = some (.struct fields) ∧ (∃ i z, P.info? t = some i ∧ i.zero = some z ∧ z.cells.size = n) ∧ ∀ w, (fields.mapM (fun (f : Go.Field) => do pure (f.offset, ← Go.sizeOf f.type)) : Sem (Array (Nat × Nat))).run P w = .ok places.toArray w
theorem zf {t : TypeId} {ps : List (Nat × Operand)} {rs : List (Nat × List RP)} {n : Nat} {places : List (Nat × Nat)} {zs : List RP} (hT : StT P t n places)
  (hz : ∀ i z, P.info? t = some i → i.zero = some z → ∀ F w, bZ F w zs z.cells.toList)
  (hp : E9 E N Γ Ω ps rs) (hfit : CI (fun i => places[i]?) zs.length rs = true) {out : List RP} (ho : zY (fun i => places[i]?) zs rs = out) :
  Rd P E N (.build t ps.toArray) ty Γ Ω [] (ag out) := .mk fun a w hs => by
 obtain ⟨fields, hu, ⟨i, z, hi, Yp, _⟩, hpl⟩ := hT
 have hzc := hz i z hi Yp (fr E Ω) w
 obtain ⟨h1, h2⟩ := hp.all hs
 obtain ⟨cells, Iu, hall⟩ := Qu (F := fr E Ω) (w := w) (place := fun i => places[i]?) a.eval h1 h2 hzc hfit
 refine ⟨.agg cells, ⟨cells, rfl, ho ▸ hall⟩, fun w' o hop _ => ?_⟩
 have M3 : Instr.fill (fun i => places.toArray[i]?) z.cells (ps.map fun p => (p.1, a.eval p.2)) = some cells := by simpa using Iu
 have hzv : (zeroValue t).run P w' = .ok z w' := by simp [zeroValue, typeInfo, hi, Yp]
 simp [execOp, hop, Instr.build, hzv, run_underlying hu] at hpl M3 ⊢
 simp [hpl, M3]
end Go.Dc
namespace Go.Dc
variable [aq]
variable {P : Program} {E : Env} {N : Nat} {Γ : List (Nat × RP)} {Ω : List OB} {ty : TypeId}
theorem Sat.new {a : Act} {w : World} (hs : Sat E N Γ Ω a w) (o : Obj) : Sat E N Γ Ω a (w.alloc o) :=
 hs.ext ⟨rfl, rfl, rfl, by first | exact fun _ => Nat.le_refl _ | exact fun _ => Nat.le_add_right _ _⟩ (by simp) fun _ hb => bF w o hb
theorem Sat.newFr {a : Act} {w : World} (hs : Sat E N Γ Ω a w) : fr E Ω w.heap.size :=
 ⟨hs.fs _ hs.kp.size, fun h => by have := (hs.bd _ h).1; omega⟩
theorem Sat.agNew {w : World} (o : Obj) : Ag (fr E Ω) (fr E Ω) w (w.alloc o) := ⟨fun _ _ h => h, fun _ hb _ => bF w o hb⟩
def ptr (b off : Nat) : Value := .pointer (some ⟨b, off, none⟩)
theorem Sat.newVar {a : Act} {w : World} (hs : Sat E N Γ Ω a w) {cells : Array Value} {e : TypeId} {bY : List RP} (h : bZ (fr E Ω) w bY cells.toList) :
  Sat E N Γ (Ω ++ [oc w.heap.size bY]) a (w.alloc (.cells cells e)) := by
 refine hs.add ⟨rfl, rfl, rfl, by first | exact fun _ => Nat.le_refl _ | exact fun _ => Nat.le_add_right _ _⟩ (by simp) (fun _ hb => bF w _ hb) (fun b hb => ?_) (by simp [oc]) ?_
 ·rw [show b = w.heap.size from by simpa [oc] using hb]; exact ⟨Nat.le_refl _, by simp⟩
 ·refine ⟨cells, e, fT w _, h.mono ⟨fun b hb hf => Uq hf ?_, fun b hb _ => bF w _ hb⟩⟩
  simp [oc]; omega
theorem uS {e : TypeId} {zs : List RP} (hz : ∃ i z, P.info? e = some i ∧ i.zero = some z ∧ ∀ F w, bZ F w zs z.cells.toList) :
  St P E N (.alloc e) ty Γ Ω [] (fun b : Nat => pv (ptr b 0)) (fun b => Ω ++ [oc b zs]) := by
 intro a w hs
 obtain ⟨i, z, hi, Yp, hzs⟩ := hz
 have hzv : (zeroValue e).run P w = .ok z w := by simp [zeroValue, typeInfo, hi, Yp]
 refine iU (v := ptr w.heap.size 0) (w' := w.alloc (.cells z.cells e)) (fun o ho ht => ?_) ⟨w.heap.size, hs.newVar (hzs _ _), rfl, by simp, fun b hb _ => bF w _ hb, BU (by simp [oc])⟩
 simp [execOp, ho, Instr.alloc, hzv, newVar, newRow, ptr]
theorem L9 {e : TypeId} {x : Operand} {fQ : List RP} (hp : oR E N Γ Ω x fQ) :
  St P E N (.box e x) ty Γ Ω [] (fun b : Nat => pv (ptr b 0)) (fun b => Ω ++ [oc b fQ]) := by
 intro a w hs
 refine iU (v := ptr w.heap.size 0) (w' := w.alloc (.cells (a.eval x).cells e)) (fun o ho ht => ?_) ⟨w.heap.size, hs.newVar (hp a w hs).1, rfl, by simp, fun b hb _ => bF w _ hb, BU (by simp [oc])⟩
 simp [execOp, ho, Instr.box, newVar, newRow, ptr]
theorem r_nilc {x : Operand} {b off : Nat} (hx : dw Γ x = some (pv (ptr b off))) : Rd P E N (.nilCheck x) ty Γ Ω [] (pv (ptr b off)) := .mk fun a w hs => by
 have h1 : a.eval x = ptr b off := hs.op hx
 exact ⟨_, rfl, fun w' o ho _ => by simp [execOp, ho, h1, ptr]⟩
theorem kF {s f fo n : Nat} {x : Operand} {b off : Nat} {fields : Array Go.Field} {fd : Go.Field} (hu : P.underlying s = some (.struct fields)) (hf : fields[f]? = some fd) (ho : fd.offset = fo)
  (hn : ∀ w, (Go.sizeOf fd.type).run P w = .ok (n + 1) w) (hx : dw Γ x = some (pv (ptr b off))) : Rd P E N (.fieldAddr s x f) ty Γ Ω [] (pv (ptr b (off + fo))) := .mk fun a w hs => by
 have h1 : a.eval x = ptr b off := hs.op hx
 exact ⟨_, rfl, fun w' o hop _ => by simp [execOp, hop, h1, ptr, Instr.fieldAt, run_underlying hu, hf, Instr.sureAddr, fieldPlace, hn, ew, ho]⟩
theorem Lw {t e len sz : Nat} {x i : Operand} {b off : Nat} {k : IntKind} {n : Int} (h0 : 0 ≤ n ∧ n < len) (hu : P.underlying t = some (.array len e))
  (hn : ∀ w, (Go.sizeOf e).run P w = .ok sz w) (hx : dw Γ x = some (pv (ptr b off))) (hi : dw Γ i = some (iv k n)) :
  Rd P E N (.indexAddr t x i) ty Γ Ω [] (pv (ptr b (off + n.toNat * sz))) := .mk fun a w hs => by
 have h1 : a.eval x = ptr b off := hs.op hx
 have h2 : a.eval i = .int k n := hs.op hi
 exact ⟨_, rfl, fun w' o hop _ => by simp [execOp, hop, h1, h2, ptr, Instr.indexAt, run_underlying hu, Instr.sureAddr, asIntOf, hn, ew, h0]⟩
theorem oc_load {w : World} {b off n : Nat} {bY fQ : List RP} {F : FP} (jP : (oc b bY).h F w) (LG : (bY.drop off).take n = fQ) (hl : fQ.length = n) :
  ∃ cells ty es, w.heap[b]? = some (.cells cells ty (0, 0)) ∧ bZ F w fQ es ∧ (∀ j, j < n → cells[off + j]? = es[j]?) ∧ es.length = n := by
 obtain ⟨cells, ty, hb, hall⟩ := jP
 refine ⟨cells, ty, (cells.toList.drop off).take n, hb, LG ▸ (hall.drop off).take n, fun j hj => ?_, ?_⟩
 ·rw [List.getElem?_take, if_pos hj, List.getElem?_drop]; simp
 ·have := ((hall.drop off).take n).length
  rw [this, LG, hl]
theorem iD {e : TypeId} {x : Operand} {b off j : Nat} {bY : List RP} {φ : RP} (hg : ∀ w, (isAgg e).run P w = .ok false w) (hx : dw Γ x = some (pv (ptr b off))) (hj : Ω[j]? = some (oc b bY))
  (hφ : bY[off]? = some φ) : Rd P E N (.load e x) ty Γ Ω [j] φ := fun a w hs => by
 have h1 : a.eval x = ptr b off := hs.op hx
 obtain ⟨cells, ct, hb, hall⟩ := hs.l9 hj
 obtain ⟨v, hv, hh⟩ := hall.get hφ
 refine ⟨v, [b], hh, ?_, fun w' hw' o ho _ => ?_⟩
 ·intro b' hb'; rw [List.mem_singleton.1 hb']; exact ⟨bS hb, .inr ⟨j, by simp, _, hj, by simp [oc]⟩⟩
 ·have rQ : w'.heap[b]? = some (.cells cells ct (0, 0)) := by rw [hw' b (by simp)]; exact hb
  have hc : w'.cell? ⟨b, off, none⟩ = some v := by rw [I1 rQ]; simpa using hv
  simp [execOp, ho, h1, ptr, Instr.loadAt, Instr.sureAddr, loadVar, hg, run_load, hc]
theorem iT {e : TypeId} {x : Operand} {b off j n : Nat} {bY fQ : List RP} (hg : ∀ w, (isAgg e).run P w = .ok true w) (hn : ∀ w, (Go.sizeOf e).run P w = .ok n w)
  (hx : dw Γ x = some (pv (ptr b off))) (hj : Ω[j]? = some (oc b bY)) (LG : (bY.drop off).take n = fQ) (hl : Nat.beq fQ.length n = true) : Rd P E N (.load e x) ty Γ Ω [j] (ag fQ) := fun a w hs => by
 have h1 : a.eval x = ptr b off := hs.op hx
 obtain ⟨cells, ct, es, hb, hall, hc, hel⟩ := oc_load (hs.l9 hj) LG (Nat.eq_of_beq_eq_true hl)
 refine ⟨.agg es.toArray, [b], ⟨es.toArray, rfl, by simpa using hall⟩, ?_, fun w' hw' o ho _ => ?_⟩
 ·intro b' hb'; rw [List.mem_singleton.1 hb']; exact ⟨bS hb, .inr ⟨j, by simp, _, hj, by simp [oc]⟩⟩
 ·have rQ : w'.heap[b]? = some (.cells cells ct (0, 0)) := by rw [hw' b (by simp)]; exact hb
  have := run_loadCells_list (P := P) w' ⟨b, off, none⟩ es fun j v hv => by
   have hj : j < es.length := (List.getElem?_eq_some_iff.1 hv).1
   rw [ew, I1 rQ, hc j (by omega), hv]
  rw [hel] at this
  simp [execOp, ho, h1, ptr, Instr.loadAt, Instr.sureAddr, loadVar, hg, hn, this]
theorem BM {e : TypeId} {b off n : Nat} {cells : Array Value} {et : TypeId} {w : World} {v : Value} (hn : ∀ w, (Go.sizeOf e).run P w = .ok n w) (hb : w.heap[b]? = some (.cells cells et (0, 0)))
  (hl : v.cells.size = n) (hfit : off + n ≤ cells.size) (p6 : ∀ u ∈ v.cells.toList, u.oneCell' = true) :
  (storeVar e ⟨b, off, none⟩ v).run P w = .ok () (w.setRow b (cells.toList.take off ++ v.cells.toList ++ cells.toList.drop (off + n)).toArray) := by
 have hst := run_storeCells_at P b off et v.cells.toList 0 cells w hb (by simp [hl]; exact hfit) p6
 simp only [Nat.add_zero, Array.length_toList, hl] at hst
 simp [storeVar, hn, hl, hst]
theorem gm {e : TypeId} {x y : Operand} {b off j n : Nat} {bY fQ out : List RP} (hn : ∀ w, (Go.sizeOf e).run P w = .ok n w)
  (hx : dw Γ x = some (pv (ptr b off))) (hj : Ω[j]? = some (oc b bY)) (hy : oR E N Γ Ω y fQ) (hl : Nat.beq fQ.length n = true) (hfit : Nat.ble (off + n) bY.length = true)
  (ho : bY.take off ++ fQ ++ bY.drop (off + n) = out) : St P E N (.store e x y) ty Γ Ω [j] (fun _ : Unit => pv undef) (fun _ => Ω.set j (oc b out)) := by
 subst ho
 intro a w hs
 have h1 : a.eval x = ptr b off := hs.op hx
 obtain ⟨hall, p6⟩ := hy a w hs
 obtain ⟨cells, ct, hb, hcs⟩ := hs.l9 hj
 have hvl : (a.eval y).cells.size = n := by rw [← Array.length_toList, hall.length]; exact Nat.eq_of_beq_eq_true hl
 have hfit' : off + n ≤ cells.size := by rw [← Array.length_toList, hcs.length]; exact Nat.le_of_ble_eq_true hfit
 have hst := BM (P := P) (w := w) hn hb hvl hfit' p6
 intro o hop ht
 have hr : (execOp a.eval o).run P w = .ok .skip (w.setRow b (cells.toList.take off ++ (a.eval y).cells.toList ++ cells.toList.drop (off + n)).toArray) := by
  simp only [execOp, hop, Instr.storeAt, h1, ptr, Instr.sureAddr]
  simp [hst]
 rw [hr]
 have hlt := bS hb
 refine ⟨(), ?_, rfl, by simp, fun b' hb' hn' => setRow_other w b b' _ fun e => hn' j (by simp) _ hj (by rw [e]; simp [oc]), sK hj fun b hb => .inl hb⟩
 refine hs.upd hj ⟨rfl, rfl, rfl, by first | exact fun _ => Nat.le_refl _ | exact fun _ => Nat.le_add_right _ _⟩ (by simp) (fun b' _ hn' => setRow_other w b b' _ fun e => hn' (by rw [e]; simp [oc])) (fun b' hb' => .inl hb') (by simp [oc]) ?_
 have hag : Ag (fr E Ω) (fr E (Ω.set j (oc b (bY.take off ++ fQ ++ bY.drop (off + n))))) w (w.setRow b (cells.toList.take off ++ (a.eval y).cells.toList ++ cells.toList.drop (off + n)).toArray) :=
  ⟨fun b' _ hf => wo hj hf fun hm => hf.2 (Sat.me hj (b := b') hm), fun b' _ hf => setRow_other w b b' _ fun e => hf.2 (Sat.me hj (b := b') (by rw [e]; simp [oc]))⟩
 refine ⟨_, ct, setRow_heap w b cells _ ct (0, 0) hb, ?_⟩
 exact (((hcs.take off).append hall).append (hcs.drop (off + n))).mono hag
theorem Y8 {α : Type} {e : TypeId} {ρ : iC α} {bytes : Nat} {x y : Operand} {d : List α} {n : Int} {u u0 : α} {hv : Value} {S : List Nat} {j : Nat} (hu : aL d n = some u0) (h : Hr P e ρ bytes)
  (hx : dw Γ x = some (pv (V_ hv ρ.size n))) (hj : Ω[j]? = some (oa ρ hv S d)) (hy : oR E N Γ Ω y (ρ.cp u)) :
  St P E N (.store e x y) ty Γ Ω [j] (fun _ : Unit => pv undef) (fun _ => Ω.set j (oa ρ hv S (d.set n.toNat u))) := by
 intro a w hs
 obtain ⟨h0, h1, hlt, hd⟩ := jB hu
 have Ef : a.eval x = V_ hv ρ.size n := hs.op hx
 obtain ⟨hall, p6⟩ := hy a w hs
 obtain ⟨ad, c, rfl, hc, jP⟩ := hs.l9 hj
 rcases jP with ⟨rfl, _, rfl⟩ | ⟨b, off, cells, ct, rfl, rfl, hb, hsz, hH⟩
 ·omega
 ·have hvl : (a.eval y).cells.size = ρ.size := by rw [← Array.length_toList, hall.length, ρ.len]
  have hle : (n.toNat + 1) * ρ.size ≤ c * ρ.size := Nat.mul_le_mul_right _ (by omega)
  rw [Nat.succ_mul] at hle
  have hst := BM (P := P) (e := e) (off := off + n.toNat * ρ.size) (w := w) h.sizeOf hb hvl (by omega) p6
  intro o hop ht
  have hr : (execOp a.eval o).run P w = .ok .skip (w.setRow b (cells.toList.take (off + n.toNat * ρ.size) ++ (a.eval y).cells.toList ++ cells.toList.drop (off + n.toNat * ρ.size + ρ.size)).toArray) := by
   simp only [execOp, hop, Instr.storeAt, Ef, V_, ew, Instr.sureAddr]
   simp [hst]
  rw [hr]
  refine ⟨(), ?_, rfl, by simp, fun b' hb' hn' => setRow_other w b b' _ fun e => hn' j (by simp) _ hj (by rw [e]; simp [oa]), sK hj fun b hb => .inl hb⟩
  refine hs.upd hj ⟨rfl, rfl, rfl, by first | exact fun _ => Nat.le_refl _ | exact fun _ => Nat.le_add_right _ _⟩ (by simp) (fun b' _ hn' => setRow_other w b b' _ fun e => hn' (by rw [e]; simp [oa])) (fun b' hb' => .inl hb') (by simp [oa]) ?_
  have hag : Ag (fr E Ω) (fr E (Ω.set j (oa ρ (.slice (some ⟨b, off, none⟩) d.length c) [b] (d.set n.toNat u)))) w
    (w.setRow b (cells.toList.take (off + n.toNat * ρ.size) ++ (a.eval y).cells.toList ++ cells.toList.drop (off + n.toNat * ρ.size + ρ.size)).toArray) :=
   ⟨fun b' _ hf => wo hj hf fun hm => hf.2 (Sat.me hj (b := b') hm), fun b' _ hf => setRow_other w b b' _ fun e => hf.2 (Sat.me hj (b := b') (by rw [e]; simp [oa]))⟩
  refine ⟨some ⟨b, off, none⟩, c, by rw [List.length_set], by rw [List.length_set]; exact hc, .inr ⟨b, off, _, ct, rfl, rfl, setRow_heap w b cells _ ct (0, 0) hb, ?_, ?_⟩⟩
  ·simp only [List.size_toArray, List.length_append, List.length_take, List.length_drop, Array.length_toList, hvl]; omega
  ·intro i hi
   rw [List.length_set] at hi
   have hle2 : (i + 1) * ρ.size ≤ c * ρ.size := Nat.mul_le_mul_right _ (by omega)
   rw [Nat.succ_mul] at hle2
   have hll : cells.toList.length = cells.size := Array.length_toList
   have hvl' : (a.eval y).cells.toList.length = ρ.size := by rw [Array.length_toList, hvl]
   have Qr : (cells.toList.take (off + n.toNat * ρ.size)).length = off + n.toNat * ρ.size := by rw [List.length_take]; omega
   by_cases hin : i = n.toNat
   ·subst hin
    refine ⟨(a.eval y).cells.toList, by rw [List.getElem_set_self]; exact hall.mono hag, fun k hk => ?_⟩
    rw [List.getElem?_toArray, List.append_assoc, List.getElem?_append_right (by omega), List.getElem?_append_left (by omega)]
    congr 1; omega
   ·obtain ⟨es, uW, hcs⟩ := hH i hi
    refine ⟨es, by rw [List.getElem_set_ne (Ne.symm hin)]; exact uW.mono hag, fun k hk => ?_⟩
    rw [← hcs k hk, List.getElem?_toArray, List.append_assoc]
    rcases Nat.lt_or_gt_of_ne hin with hlt2 | hgt2
    ·have : (i + 1) * ρ.size ≤ n.toNat * ρ.size := Nat.mul_le_mul_right _ hlt2
     rw [Nat.succ_mul] at this
     rw [List.getElem?_append_left (by omega), List.getElem?_take, if_pos (by omega)]
     simp
    ·have : (n.toNat + 1) * ρ.size ≤ i * ρ.size := Nat.mul_le_mul_right _ hgt2
     rw [Nat.succ_mul] at this
     rw [List.getElem?_append_right (by omega), List.getElem?_append_right (by omega), List.getElem?_drop, Qr, hvl']
     simp
     congr 1; omega
def uB {α : Type} (bytes : Nat) (z : α) (n : Int) : Option (List α) := if 0 ≤ n ∧ bytes * n.toNat ≤ 140737488355328 then some (List.replicate n.toNat z) else none
theorem Z5 {α : Type} {bytes : Nat} {z : α} {n : Int} {d : List α} (h : uB bytes z n = some d) : 0 ≤ n ∧ bytes * n.toNat ≤ 140737488355328 ∧ d = List.replicate n.toNat z := by
 unfold uB at h
 split at h
 ·rename_i hh; exact ⟨hh.1, hh.2, by simpa using h.symm⟩
 ·cases h
theorem s_make {α : Type} {e t : TypeId} {ρ : iC α} {bytes : Nat} {x y : Operand} {k : IntKind} {n : Int} {z : α} {d : List α} (hd : uB bytes z n = some d) (hu : P.underlying t = some (.slice e)) (h : Hr P e ρ bytes)
  (hz : ZeroT P e ρ z) (hx : dw Γ x = some (iv k n)) (hy : dw Γ y = some (iv k n)) :
  St P E N (.makeSlice t x y) ty Γ Ω [] (fun X : Value × List Nat => pv X.1) (fun X => Ω ++ [oa ρ X.1 X.2 d]) := by
 intro a w hs
 obtain ⟨h0, hby, rfl⟩ := Z5 hd
 have h1 : a.eval x = .int k n := hs.op hx
 have h2 : a.eval y = .int k n := hs.op hy
 obtain ⟨i, zv, hi, Yp, hzs⟩ := hz
 obtain ⟨i', hi', his, hib, z', R4, aaA⟩ := h.info
 rw [hi] at hi'; cases hi'
 rw [Yp] at R4; cases R4
 have hbp := h.bpos
 have hn : (n.toNat : Int) = n := Int.toNat_of_nonneg h0
 have hnb : n.toNat ≤ bytes * n.toNat := Nat.le_mul_of_pos_left _ hbp
 have hrun := run_make (P := P) w t e i zv hu hi Yp k k n n h0 (Int.le_refl _) (by rw [hib, ← hn, ← Int.natCast_mul]; omega) (by omega)
 refine iU (v := .slice (some ⟨w.heap.size, 0, none⟩) n.toNat n.toNat) (w' := w.alloc (.cells (madeCells zv.cells (n.toNat * i.size)) e)) (fun o ho ht => ?_)
  ⟨(.slice (some ⟨w.heap.size, 0, none⟩) n.toNat n.toNat, [w.heap.size]), ?_, rfl, by simp, fun b hb _ => bF w _ hb, BU (by simp [oa])⟩
 ·simp [execOp, ho, h1, h2, hrun]
 ·refine hs.add ⟨rfl, rfl, rfl, by first | exact fun _ => Nat.le_refl _ | exact fun _ => Nat.le_add_right _ _⟩ (by simp) (fun _ hb => bF w _ hb) (fun b hb => ?_) (by simp [oa]) ?_
  ·rw [show b = w.heap.size from by simpa [oa] using hb]; exact ⟨Nat.le_refl _, by simp⟩
  ·refine ⟨some ⟨w.heap.size, 0, none⟩, n.toNat, by simp, by simp, .inr ⟨w.heap.size, 0, _, e, rfl, rfl, fT w _, by simp [size_madeCells, his], ?_⟩⟩
   intro q hq
   rw [List.length_replicate] at hq
   refine ⟨zv.cells.toList, by rw [List.getElem_replicate]; exact hzs _ _, fun k hk => ?_⟩
   have hlt : q * ρ.size + k < n.toNat * ρ.size := by
    have : (q + 1) * ρ.size ≤ n.toNat * ρ.size := Nat.mul_le_mul_right _ hq
    rw [Nat.succ_mul] at this; omega
   rw [Nat.zero_add, madeCells, Array.getElem?_map, Array.getElem?_range, his, if_pos hlt]
   simp [aaA, hk, Nat.mod_eq_of_lt hk]
end Go.Dc
