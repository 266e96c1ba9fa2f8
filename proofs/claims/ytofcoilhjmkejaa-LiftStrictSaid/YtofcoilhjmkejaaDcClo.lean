/- Part Dc.Clo of a proof: lemmas. -/
import Derived.Test.YtofcoilhjmkejaaDcDrawI
/-! Function values that have captured; calls that use objects up. -/
namespace Go.Dc
variable {R : Type} {P : Program} {E : Env} {N : Nat} {Γ : List (Nat × RP)} {Ω : List OB} {ty : TypeId}

/-- what a function value captures: values that are known -/
def CapsOk (Γ : List (Nat × RP)) : List Operand → List Value → Prop
  | [], [] => True
  | x :: xs, v :: vs => lkO Γ x = some (pv v) ∧ CapsOk Γ xs vs
  | _, _ => False

theorem CapsOk.eval {a : Act} {w : World} (hs : Sat E N Γ Ω a w) : ∀ {xs : List Operand} {vs : List Value}, CapsOk Γ xs vs → xs.map a.eval = vs
  | [], [], _ => rfl
  | x :: xs, v :: vs, ⟨h1, h2⟩ => by rw [List.map_cons, CapsOk.eval hs h2, show a.eval x = v from hs.op h1]
  | [], _ :: _, h => h.elim
  | _ :: _, [], h => h.elim

theorem r_mkfn {f : FuncId} {xs : List Operand} {vs : List Value} (h : CapsOk Γ xs vs) : Rd P E N (.makeFunc (.func f) #[] xs.toArray) ty Γ Ω [] (pv (.func (.func f) #[] vs.toArray)) := by
  intro a w hs
  refine ⟨_, [], rfl, by simp, fun w' _ o ho _ => ?_⟩
  simp [execOp, ho, Instr.makeFunc, h.eval hs]

/-- those of a list that stay -/
def keepB : List Bool → List OB → List OB
  | true :: m, o :: os => o :: keepB m os
  | false :: m, _ :: os => keepB m os
  | _, _ => []
def DeadB : List Bool → List OB → Prop
  | true :: m, _ :: os => DeadB m os
  | false :: m, o :: os => o = dead ∧ DeadB m os
  | [], [] => True
  | _, _ => False

theorem keepB_ow : ∀ {m : List Bool} {os : List OB}, DeadB m os → ow (keepB m os) = ow os
  | [], [], _ => rfl
  | true :: m, o :: os, h => by
    show ow (o :: keepB m os) = ow (o :: os)
    rw [show ow (o :: keepB m os) = o.S ++ ow (keepB m os) from by simp [ow], show ow (o :: os) = o.S ++ ow os from by simp [ow], keepB_ow (m := m) h]
  | false :: m, o :: os, ⟨h1, h2⟩ => by
    show ow (keepB m os) = ow (o :: os)
    rw [keepB_ow h2, show ow (o :: os) = o.S ++ ow os from by simp [ow], h1]
    simp [dead]
  | [], _ :: _, h => h.elim
  | true :: _, [], h => h.elim
  | false :: _, [], h => h.elim

theorem keepB_mem : ∀ {m : List Bool} {os : List OB}, DeadB m os → ∀ o ∈ os, o ∈ keepB m os ∨ o = dead
  | [], [], _, o, ho => by simp at ho
  | true :: m, p :: os, h, o, ho => by
    rcases List.mem_cons.1 ho with e | e
    · exact .inl (by rw [e]; exact List.mem_cons_self)
    · exact (keepB_mem (m := m) h o e).imp (fun h => List.mem_cons_of_mem _ h) id
  | false :: m, p :: os, ⟨h1, h2⟩, o, ho => by
    rcases List.mem_cons.1 ho with e | e
    · exact .inr (e.trans h1)
    · exact keepB_mem h2 o e
  | [], _ :: _, h, _, _ => h.elim
  | true :: _, [], h, _, _ => h.elim
  | false :: _, [], h, _, _ => h.elim

theorem FnOk.undead {X : Type} {f : FuncId} {φs : List RP} {Ω0 : List OB} {res : X → List RP} {Ω1 Ω2 : X → List OB} (hf : FnOk P f φs Ω0 res Ω1) (h1 : ∀ x, ow (Ω1 x) = ow (Ω2 x))
    (h2 : ∀ x, ∀ o ∈ Ω2 x, o ∈ Ω1 x ∨ o = dead) : FnOk P f φs Ω0 res Ω2 := by
  intro F w vs a1 a2 a3 a4 a5 a6
  refine (hf F w vs a1 a2 a3 a4 a5 a6).mono ?_
  rintro e w' ⟨x, v, he, hk, hbd, hnd, hob, hres⟩
  rw [h1 x] at hbd hnd hres hob
  refine ⟨x, v, he, hk, hbd, hnd, fun o ho => ?_, hres⟩
  rcases h2 x o ho with h3 | h3
  · exact hob o h3
  · rw [h3]; trivial

/-- a call that is handed the objects js, and gives some of them back -/
theorem s_callC {X : Type} {f : FuncId} {x : Operand} {args : List Operand} {caps : List Value} {ats : Array TypeId} {φs : List RP} (js : List Nat) (mask : List Bool) {Ω0 : List OB} {res : X → List RP} {Ω1 : X → List OB} (os ex : X → List OB) (ψ : X → RP)
    (hcall : ∀ args w, (callFunc f args).run P w = .ok (.enter f args) w) (hx : lkO Γ x = some (pv (.func (.func f) #[] caps.toArray)))
    (hf : FnOk P f φs Ω0 res Ω1) (hob : ObjsAt Ω js Ω0) (hex : ∀ x, Ω1 x = keepB mask (os x) ++ ex x) (hdd : ∀ x, DeadB mask (os x)) (hl : ∀ x, js.length = (os x).length)
    (ha : ArgsOk E N Γ Ω frF (args ++ caps.map .const) φs) (hψ : ∀ x F w v, resH F w (res x) v → (ψ x).h F w v) :
    St P E N (.call ⟨.value x, args.toArray, ats⟩) ty Γ Ω js ψ (fun x => setAll js (os x) Ω ++ ex x) := by
  refine s_callI (Ω1 := fun x => os x ++ ex x) hcall hx (hf.undead (fun x => ?_) fun x o ho => ?_) hob (fun _ => rfl) hl ha hψ
  · rw [hex x, ow_append, ow_append, keepB_ow (hdd x)]
  · rw [hex x]
    rcases List.mem_append.1 ho with h | h
    · exact (keepB_mem (hdd x) o h).imp (fun h => List.mem_append_left _ h) id
    · exact .inl (List.mem_append_right _ h)

section
variable {α : Type} {e t : TypeId} {ρ : Rep α} {bytes : Nat} {x : Operand}
/-- the part l..m of a slice -/
def subV (v : Value) (sz l m : Nat) : Value := match v with
  | .slice ad _ c => .slice (if c = l then ad else ad.map (·.add (l * sz))) (m - l) (c - l)
  | v => v

/-- x[lo:hi] beside x, which stays ours -/
theorem r_osub {lo hi : Option Operand} {d d' : List α} {l m : Int} {hv : Value} {S : List Nat} {j : Nat} (hd : slM d l m = some d') (hu : P.underlying t = some (.slice e)) (h : ElT P e ρ bytes)
    (hx : lkO Γ x = some (pv hv)) (hj : Ω[j]? = some (oa ρ hv S d)) (hlo : BdOk Γ 0 lo l) (hhi : BdOk Γ d.length hi m) :
    Rd P E N (.slice t x lo hi none) ty Γ Ω [] (pv (subV hv ρ.size l.toNat m.toNat)) := .mk fun a w hs => by
  obtain ⟨h0, h1, h2, rfl⟩ := slM_some hd
  have hvx : a.eval x = hv := hs.op hx
  obtain ⟨ad, c, rfl, hc, hob⟩ := hs.objAt hj
  obtain ⟨l, rfl⟩ := Int.eq_ofNat_of_zero_le h0
  obtain ⟨m, rfl⟩ := Int.eq_ofNat_of_zero_le (Int.le_trans h0 h1)
  have hl := hlo.val hs
  have hm := hhi.val hs
  have e1 : l ≤ m := by omega
  have e2 : m ≤ d.length := by omega
  refine ⟨_, rfl, fun w' o ho _ => ?_⟩
  have hrun := run_slice (P := P) hu h (ad := ad) (n := d.length) (c := c) (lo := lo.map a.eval) (hi := hi.map a.eval) (l := l) (hh := m)
    (hl.imp (fun ⟨e1, e2⟩ => ⟨e1, by omega⟩) id) (hm.imp (fun ⟨e1, e2⟩ => ⟨e1, by omega⟩) id) e1 (by omega) w'
  simp [execOp, ho, hvx, hrun, subV]

end

section
variable {α : Type} {e t : TypeId} {ρ : Rep α} {bytes : Nat} {x : Operand}
end

/-! the two commonest steps, in few words -/
section
variable {K : KT R} {m : Option R} {ops : Array Oper} {rest : List Oper}
theorem mv1 {x : Operand} {d : Nat} {φ : RP} {pos : String} {aft : Array Edge} (hx : lkO Γ x = some φ) (hd : Nat.blt d N = true) (h : RefL P E N m ops rest ((d, φ) :: Γ) Ω K) : RefL P E N m ops (⟨some d, .move x, ty, pos, aft, none⟩ :: rest) Γ Ω K := s_rd (r_move hx) hd h
theorem as1 {x : Operand} {d : Nat} {φ : RP} {pos : String} {aft : Array Edge} (hx : lkO Γ x = some φ) (hd : Nat.blt d N = true) (h : RefL P E N m ops rest ((d, φ) :: Γ) Ω K) : RefL P E N m ops (⟨some d, .assign x, ty, pos, aft, none⟩ :: rest) Γ Ω K := s_rd (r_assign hx) hd h
end
end Go.Dc
