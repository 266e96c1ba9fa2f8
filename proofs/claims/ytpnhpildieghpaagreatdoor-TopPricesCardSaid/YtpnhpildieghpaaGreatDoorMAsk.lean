/- Part M.Ask of a proof: lemmas. -/
import Derived.Test.YtpnhpildieghpaaGreatDoorDcEqS
import Derived.ChangeKeysEq
import Derived.Lib.LaidTab
import Derived.LaidHandle
import Derived.Lib.Overlaps
import Derived.Test.YtpnhpildieghpaaGreatDoorDcMem4
import Derived.MapKept
set_option linter.unusedSectionVars false
/-! A region that draws its order, proved once: every operation is shown on its own, over what the operations ahead of it leave. -/
namespace Go.Dc
variable [DrawMode]
variable {R : Type} {P : Program} {E : Env} {N : Nat} {Γ Γ' : List (Nat × RP)} {Ω Ω' : List OB} {K : KT R} {m : Option R} {op : Op} {ty : TypeId} {js : List Nat}

/-- what an operation's rule chose -/
inductive XU where
  | none
  | nat (b : Nat)
  | val (x : Value × List Nat)
  | two (a b : XU)
def XU.Nn : XU → Nat | .nat b => b | _ => 0
def XU.V : XU → Value × List Nat | .val x => x | _ => (undef, [])
def XU.A : XU → XU | .two a _ => a | _ => .none
def XU.B : XU → XU | .two _ b => b | _ => .none
def XU.U (_ : XU) : Unit := ()
theorem XU.hN (x : Nat) : ∃ u : XU, u.Nn = x := ⟨.nat x, rfl⟩
theorem XU.hV (x : Value × List Nat) : ∃ u : XU, u.V = x := ⟨.val x, rfl⟩
theorem XU.hU (x : Unit) : ∃ u : XU, u.U = x := ⟨.none, rfl⟩
theorem XU.hP {α β : Type} {f : XU → α} {g : XU → β} (hf : ∀ x, ∃ u, f u = x) (hg : ∀ x, ∃ u, g u = x) (x : α × β) : ∃ u : XU, (f u.A, g u.B) = x := by
  obtain ⟨a, ha⟩ := hf x.1
  obtain ⟨b, hb⟩ := hg x.2
  exact ⟨.two a b, by simp [XU.A, XU.B, ha, hb]⟩

theorem resW.mono {k k' : Value → World → Prop} (h : ∀ v w, k v w → k' v w) : ∀ {r : Result Next}, resW P k r → resW P k' r := by
  intro r hr
  unfold resW at hr ⊢
  split at hr
  · exact h _ _ hr
  · exact h _ _ hr
  · refine hr.mono ?_
    rintro e w ⟨v, rfl, hk⟩
    exact ⟨v, rfl, h _ _ hk⟩
  · exact hr.elim

theorem Eff.ag {w w' : World} (he : Eff Ω Ω' js w w') : Ag (fr E Ω) (fr E Ω') w w' :=
  ⟨fun b hb ⟨h1, h2⟩ => ⟨h1, fun hm => h2 (he.own b hb hm)⟩, fun b hb ⟨_, h2⟩ => he.keep b hb fun _ _ _ hob hbS => h2 (Sat.notin hob hbS)⟩

theorem St.frame {X : Type} {φ : X → RP} {Ω' : X → List OB} (h : St P E N op ty Γ' Ω js φ Ω') (hΓ : ∀ t ψ, lk Γ' t = some ψ → lk Γ t = some ψ) : St P E N op ty Γ Ω js φ Ω' := by
  intro a w hs o ho ht
  refine (h a w (hs.weak hΓ) o ho ht).mono ?_
  rintro v w' ⟨x, h1, h2, h3⟩
  exact ⟨x, ⟨h1.sz, h1.df, fun t ψ ht => ψ.mono h3.ag (hs.sl t ψ ht), h1.ob, h1.nd, h1.bd, h1.kp, h1.fs⟩, h2, h3⟩

/-- a conversion ahead of an operation -/
theorem St.pre {X : Type} {φ : X → RP} {Ω2 : List OB} {Ω' : X → List OB} {js2 : List Nat} (hw : ∀ a w, Sat E N Γ Ω a w → Sat E N Γ' Ω2 a w) (hs1 : ∀ b ∈ ow Ω2, b ∈ ow Ω)
    (hs2 : ∀ j ∈ js2, ∀ ob, Ω2[j]? = some ob → ∀ b ∈ ob.S, ∃ k ∈ js, ∃ oc, Ω[k]? = some oc ∧ b ∈ oc.S)
    (h : St P E N op ty Γ' Ω2 js2 φ Ω') : St P E N op ty Γ Ω js φ Ω' := by
  intro a w hs o ho ht
  refine (h a w (hw a w hs) o ho ht).mono ?_
  rintro v w' ⟨x, h1, h2, h3⟩
  have he : Eff Ω (Ω' x) js w w' := ⟨h3.size, fun b hb hn => h3.keep b hb fun j hj ob hob hbS => by
    obtain ⟨k, hk, oc, hoc, hbS'⟩ := hs2 j hj ob hob b hbS
    exact hn k hk oc hoc hbS', fun b hb hm => hs1 b (h3.own b hb hm)⟩
  exact ⟨x, ⟨h1.sz, h1.df, fun t ψ ht => ψ.mono he.ag (hs.sl t ψ ht), h1.ob, h1.nd, h1.bd, h1.kp, h1.fs⟩, h2, he⟩

theorem St.dec {X : Type} {φ : X → RP} {Ω' : X → List OB} (f : XU → X) (hf : ∀ x, ∃ u, f u = x) (h : St P E N op ty Γ Ω js φ Ω') : St P E N op ty Γ Ω js (fun u => φ (f u)) (fun u => Ω' (f u)) := by
  intro a w hs o ho ht
  refine (h a w hs o ho ht).mono ?_
  rintro v w' ⟨x, h1⟩
  obtain ⟨u, rfl⟩ := hf x
  exact ⟨u, h1⟩

theorem place_perm {A : List OB} {o : OB} {k : Nat} (hk : A[k]? = some dead) : (ow (A.set k o)).Perm (ow (A ++ [o])) := by
  obtain ⟨B, C, hA, hB⟩ := ow_split hk
  rw [hA, ← hB, set_split, ow_mid]
  simp only [ow, List.flatMap_append, List.flatMap_cons, List.flatMap_nil, dead, List.nil_append, List.append_nil, List.append_assoc]
  exact List.Perm.append_left _ List.perm_append_comm

/-- a new object goes into its room -/
theorem St.place {X : Type} {φ : X → RP} {A : X → List OB} {o : X → OB} (k : Nat) (h : St P E N op ty Γ Ω js φ (fun x => A x ++ [o x])) (hk : ∀ x, (A x)[k]? = some dead) :
    St P E N op ty Γ Ω js φ (fun x => (A x).set k (o x)) := by
  intro a w hs p hp ht
  refine (h a w hs p hp ht).mono ?_
  rintro v w' ⟨x, h1, h2, h3⟩
  have hperm := place_perm (o := o x) (hk x)
  have hmem : ∀ b, b ∈ ow ((A x).set k (o x)) ↔ b ∈ ow (A x ++ [o x]) := fun b => hperm.mem_iff
  have ef : fr E ((A x).set k (o x)) = fr E (A x ++ [o x]) := by funext b; simp only [fr, hmem]
  refine ⟨x, ⟨h1.sz, h1.df, by rw [ef]; exact h1.sl, ?_, hperm.nodup_iff.2 h1.nd, fun b hb => h1.bd b ((hmem b).1 hb), h1.kp, h1.fs⟩, by rw [ef]; exact h2, h3.size, h3.keep, fun b hb hm => h3.own b hb ((hmem b).1 hm)⟩
  rw [ef]
  intro y hy
  rcases List.mem_or_eq_of_mem_set hy with h | rfl
  · exact h1.ob y (List.mem_append_left _ h)
  · exact h1.ob _ (by simp)

/-- an operation's account: the choices it names, the operations ahead of it, the objects it writes, those it touches, what it yields and what it leaves -/
structure DO where
  cl : List Nat
  deps : List Nat
  uk : List Nat
  tch : List Nat
  js : List Nat
  φ : List XU → XU → RP
  up : List XU → XU → List OB

def gam (Γ0 : List (Nat × RP)) (L : Nat → Bool) (χ : Nat → XU) : Nat → List Oper → List DO → List (Nat × RP)
  | i, o :: os, D :: Ds => bif L i then putΓ (gam Γ0 L χ (i + 1) os Ds) o.dst (D.φ (D.deps.map χ) (χ i)) else gam Γ0 L χ (i + 1) os Ds
  | _, _, _ => Γ0

def setAll : List Nat → List OB → List OB → List OB
  | k :: ks, o :: os, Ω => setAll ks os (Ω.set k o)
  | _, _, Ω => Ω

def omg (L : Nat → Bool) (χ : Nat → XU) : Nat → List DO → List OB → List OB
  | i, D :: Ds, Ω => omg L χ (i + 1) Ds (bif L i then setAll D.uk (D.up (D.deps.map χ) (χ i)) Ω else Ω)
  | _, [], Ω => Ω

/-! ### lemmas -/
theorem setAll_out {j : Nat} : ∀ {ks : List Nat} {os Ω : List OB}, j ∉ ks → (setAll ks os Ω)[j]? = Ω[j]?
  | [], _, _, _ => by simp [setAll]
  | _ :: _, [], _, _ => by simp [setAll]
  | k :: ks, o :: os, Ω, h => by
    simp only [List.mem_cons, not_or] at h
    simp only [setAll]
    rw [setAll_out h.2, List.getElem?_set_ne (Ne.symm h.1)]

theorem setAll_len : ∀ {ks : List Nat} {os Ω : List OB}, (setAll ks os Ω).length = Ω.length
  | [], _, _ => by simp [setAll]
  | _ :: _, [], _ => by simp [setAll]
  | k :: ks, o :: os, Ω => by simp only [setAll]; rw [setAll_len]; simp

theorem set_comm {k j : Nat} {o p : OB} {Ω : List OB} (h : k ≠ j) : (Ω.set k o).set j p = (Ω.set j p).set k o := List.set_comm _ _ h

/-! ### the region -/
def meets (a b : List Nat) : Bool := a.any (hasN b)
def okOne (ops : Array Oper) (Ds : List DO) (i : Nat) (o : Oper) (D : DO) : Bool :=
  o.guard.isNone && (predsOf o).all (hasN D.cl) &&
  D.cl.all (fun e => Nat.blt e i && (hasN (predsOf o) e || (predsOf o).any fun p => match Ds[p]? with | some Dp => hasN Dp.cl e | none => false)) &&
  D.deps.all (hasN D.cl) && D.uk.all (hasN D.tch) &&
  (Ds.zipIdx.all fun (Dk, k) => !(Nat.blt k i) || !(meets Dk.uk D.tch || meets Dk.tch D.uk) || hasN D.cl k) &&
  (ops.toList.zipIdx.all fun (ok, k) => Nat.beq k i || (match o.dst, ok.dst with | some a, some b => !Nat.beq a b | _, _ => true))

def okI (ops : Array Oper) (Ds : List DO) : Bool :=
  okDraw ops [] && Nat.beq ops.size Ds.length && (ops.toList.zipIdx.all fun (o, i) => match Ds[i]? with | some D => okOne ops Ds i o D | none => false)

def TchEq (Ω pre : List OB) : List Nat → Prop
  | [] => True
  | j :: js => Ω[j]? = pre[j]? ∧ TchEq Ω pre js

/-- the slots that an operation reads, as the operations ahead of it leave them -/
def gamI (Γ0 : List (Nat × RP)) (ops : Array Oper) (lo : List Oper) (Ds : List DO) (χ : Nat → XU) (o : Oper) (D : DO) : List (Nat × RP) :=
  (o.looksAt ops).filterMap fun t => (lk (gam Γ0 (hasN D.cl) χ 0 lo Ds) t).map fun φ => (t, φ)

def OkAll (P : Program) (E : Env) (N : Nat) (ops : Array Oper) (Γ0 : List (Nat × RP)) (Ω0 : List OB) (lo : List Oper) (Da : List DO) : Nat → List Oper → List DO → Prop
  | i, o :: os, D :: Ds =>
    (∀ χ Ω, TchEq Ω (omg (Nat.blt · i) χ 0 Da Ω0) D.tch → St P E N o.op o.type (gamI Γ0 ops lo Da χ o D) Ω D.js (D.φ (D.deps.map χ)) (fun u => setAll D.uk (D.up (D.deps.map χ) u) Ω)) ∧
    (∀ d, o.dst = some d → Nat.blt d N = true) ∧ OkAll P E N ops Γ0 Ω0 lo Da (i + 1) os Ds
  | _, [], [] => True
  | _, _, _ => False

theorem OkAll.get {ops : Array Oper} {Γ0 : List (Nat × RP)} {Ω0 : List OB} {lo : List Oper} {Da : List DO} : ∀ {os : List Oper} {Ds : List DO} {s : Nat}, OkAll P E N ops Γ0 Ω0 lo Da s os Ds → ∀ {k o D}, os[k]? = some o → Ds[k]? = some D →
    (∀ χ Ω, TchEq Ω (omg (Nat.blt · (s + k)) χ 0 Da Ω0) D.tch → St P E N o.op o.type (gamI Γ0 ops lo Da χ o D) Ω D.js (D.φ (D.deps.map χ)) (fun u => setAll D.uk (D.up (D.deps.map χ) u) Ω)) ∧
    (∀ d, o.dst = some d → Nat.blt d N = true)
  | [], [], _, _, k, o, D, h, _ => by simp at h
  | o0 :: os, D0 :: Ds, s, ⟨h1, h2, h3⟩, k, o, D, ho, hD => by
    cases k with
    | zero => simp at ho hD; subst ho; subst hD; exact ⟨h1, h2⟩
    | succ k =>
      have := h3.get (k := k) (by simpa using ho) (by simpa using hD)
      rwa [show s + 1 + k = s + (k + 1) from by omega] at this
  | [], _ :: _, _, h, _, _, _, _, _ => h.elim
  | _ :: _, [], _, h, _, _, _, _, _ => h.elim

theorem ow_room (k : Nat) : ow (Ω ++ List.replicate k dead) = ow Ω := by
  have : ow (List.replicate k dead) = [] := by
    induction k with
    | zero => rfl
    | succ k ih => simp [List.replicate_succ, ow, dead]
  rw [ow_append, this, List.append_nil]

theorem Sat.room {a : Act} {w : World} (hs : Sat E N Γ Ω a w) (k : Nat) : Sat E N Γ (Ω ++ List.replicate k dead) a w := by
  have e := ow_room (Ω := Ω) k
  have ef : fr E (Ω ++ List.replicate k dead) = fr E Ω := by funext x; simp only [fr, e]
  refine ⟨hs.sz, hs.df, by rw [ef]; exact hs.sl, ?_, by rw [e]; exact hs.nd, by rw [e]; exact hs.bd, hs.kp, hs.fs⟩
  rw [ef]
  intro o ho
  rcases List.mem_append.1 ho with h | h
  · exact hs.ob o h
  · rw [(List.mem_replicate.1 h).2]; trivial

/-! ### rules for single operations, over objects that are known in part -/
def Rooms (A : List OB) : List Nat → Prop
  | [] => True
  | k :: ks => A[k]? = some dead ∧ hasN ks k = false ∧ Rooms A ks

theorem Rooms.set {A : List OB} {j : Nat} {o : OB} : ∀ {ks : List Nat}, Rooms A ks → j ∉ ks → Rooms (A.set j o) ks
  | [], _, _ => trivial
  | k :: ks, ⟨h1, h2, h3⟩, hj => by
    simp only [List.mem_cons, not_or] at hj
    exact ⟨by rw [List.getElem?_set_ne hj.1]; exact h1, h2, h3.set hj.2⟩

def ObjsAt (Ω : List OB) : List Nat → List OB → Prop
  | [], [] => True
  | j :: js, o :: os => Ω[j]? = some o ∧ hasN js j = false ∧ ObjsAt Ω js os
  | _, _ => False

theorem ObjsAt.set {Ω : List OB} {j : Nat} {o : OB} : ∀ {ks : List Nat} {os : List OB}, ObjsAt Ω ks os → j ∉ ks → ObjsAt (Ω.set j o) ks os
  | [], [], _, _ => trivial
  | k :: ks, _ :: _, ⟨h1, h2, h3⟩, hj => by
    simp only [List.mem_cons, not_or] at hj
    exact ⟨by rw [List.getElem?_set_ne hj.1]; exact h1, h2, h3.set hj.2⟩
  | [], _ :: _, h, _ => h.elim
  | _ :: _, [], h, _ => h.elim

theorem ObjsAt.picks : ∀ {js : List Nat} {Ω os : List OB}, ObjsAt Ω js os → Picks Ω js os
  | [], _, [], _ => trivial
  | j :: js, Ω, o :: os, ⟨h1, h2, h3⟩ => ⟨h1, (h3.set (fun h => by rw [hasN_iff.2 h] at h2; cases h2)).picks⟩
  | [], _, _ :: _, h => h.elim
  | _ :: _, _, [], h => h.elim

theorem delL_set {k : Nat} {o : OB} : ∀ {js : List Nat} {Ω : List OB}, k ∉ js → delL (Ω.set k o) js = (delL Ω js).set k o
  | [], _, _ => rfl
  | j :: js, Ω, h => by
    simp only [List.mem_cons, not_or] at h
    simp only [delL]
    rw [set_comm h.1, delL_set h.2]

theorem ObjsAt.puts : ∀ {js : List Nat} {Ω os os' : List OB}, ObjsAt Ω js os → js.length = os'.length → Puts (delL Ω js) js os' ∧ putL (delL Ω js) js os' = setAll js os' Ω
  | [], _, [], [], _, _ => ⟨trivial, by simp [putL, setAll, delL]⟩
  | [], _, [], _ :: _, _, h => by simp at h
  | _ :: _, _, _ :: _, [], _, h => by simp at h
  | j :: js, Ω, o :: os, p :: os', ⟨h1, h2, h3⟩, hl => by
    have hj : j ∉ js := fun h => by rw [hasN_iff.2 h] at h2; cases h2
    have e : (delL (Ω.set j dead) js).set j p = delL (Ω.set j p) js := by rw [← delL_set hj, List.set_set]
    have ih := (h3.set (o := p) hj).puts (os' := os') (by simpa using hl)
    refine ⟨⟨?_, ?_⟩, ?_⟩
    · simp only [delL]
      rw [delL_set hj]
      have hlt : ∀ {js : List Nat} {Ω : List OB}, (delL Ω js).length = Ω.length := by
        intro js
        induction js with
        | nil => intros; rfl
        | cons k js ih => intro Ω; simp only [delL]; rw [ih]; simp
      rw [List.getElem?_set_self (by rw [hlt]; exact (List.getElem?_eq_some_iff.1 h1).1)]
    · simp only [delL]; rw [e]; exact ih.1
    · simp only [delL, putL, setAll]; rw [e]; exact ih.2
  | [], _, _ :: _, _, h, _ => h.elim
  | _ :: _, _, [], _, h, _ => h.elim

theorem s_callI {X : Type} {f : FuncId} {x : Operand} {args : List Operand} {caps : List Value} {ats : Array TypeId} {φs : List RP} {js : List Nat} {Ω0 : List OB} {res : X → List RP} {Ω1 os ex : X → List OB} {ψ : X → RP}
    (hcall : ∀ args w, (callFunc f args).run P w = .ok (.enter f args) w) (hx : lkO Γ x = some (pv (.func (.func f) #[] caps.toArray)))
    (hf : FnOk P f φs Ω0 res Ω1) (hob : ObjsAt Ω js Ω0) (hex : ∀ x, Ω1 x = os x ++ ex x) (hl : ∀ x, js.length = (os x).length) (ha : ArgsOk E N Γ Ω frF (args ++ caps.map .const) φs)
    (hψ : ∀ x F w v, resH F w (res x) v → (ψ x).h F w v) :
    St P E N (.call ⟨.value x, args.toArray, ats⟩) ty Γ Ω js ψ (fun x => setAll js (os x) Ω ++ ex x) := by
  have h := s_callO (ty := ty) (ats := ats) hcall hx hf hob.picks hex (fun x => (hob.puts (hl x)).1) ha hψ
  have e : (fun x => putL (delL Ω js) js (os x) ++ ex x) = (fun x => setAll js (os x) Ω ++ ex x) := funext fun x => by rw [(hob.puts (hl x)).2]
  rw [e] at h; exact h

/-- an object is given up ahead of an operation -/
theorem St.frz {X : Type} {φ : X → RP} {Ω' : X → List OB} {j : Nat} {o : OB} (hj : Ω[j]? = some o) (hw : ∀ a w, Sat E N Γ Ω a w → Sat E N Γ' (Ω.set j dead) a w)
    (h : St P E N op ty Γ' (Ω.set j dead) js φ Ω') : St P E N op ty Γ Ω js φ Ω' := by
  have hlt := (List.getElem?_eq_some_iff.1 hj).1
  refine St.pre hw ?_ ?_ h
  · intro b hb
    obtain ⟨A, B, rfl, rfl⟩ := ow_split hj
    rw [set_split] at hb
    rw [ow_mid] at hb ⊢
    simp only [dead, List.nil_append, List.mem_append] at hb ⊢
    exact hb.elim .inl fun h => .inr (.inr h)
  · intro k hk ob hob b hb
    by_cases e : j = k
    · subst e
      rw [List.getElem?_set_self hlt] at hob
      cases hob
      simp [dead] at hb
    · rw [List.getElem?_set_ne e] at hob
      exact ⟨k, hk, ob, hob, hb⟩

theorem St.conv {X : Type} {φ : X → RP} {Ω' : X → List OB} (hw : ∀ a w, Sat E N Γ Ω a w → Sat E N Γ' Ω a w) (h : St P E N op ty Γ' Ω js φ Ω') : St P E N op ty Γ Ω js φ Ω' :=
  St.pre hw (fun _ h => h) (fun k hk ob hob _ hb => ⟨k, hk, ob, hob, hb⟩) h

theorem St.to {X : Type} {φ : X → RP} {Ω' : X → List OB} {φ2 : XU → RP} {Ω2 : XU → List OB} (f : XU → X) (hf : ∀ x, ∃ u, f u = x) (h : St P E N op ty Γ Ω js φ Ω') (h1 : ∀ u, φ2 u = φ (f u)) (h2 : ∀ u, Ω2 u = Ω' (f u)) :
    St P E N op ty Γ Ω js φ2 Ω2 := by
  rw [show φ2 = fun u => φ (f u) from funext h1, show Ω2 = fun u => Ω' (f u) from funext h2]
  exact h.dec f hf
theorem nrm (Ω' : List OB) (h : Ω = Ω') : ∀ a w, Sat E N Γ Ω a w → Sat E N Γ Ω' a w := fun _ _ hs => h ▸ hs
end Go.Dc

/-! Function values that have captured; calls that use objects up. -/
namespace Go.Dc
variable [DrawMode]
variable {R : Type} {P : Program} {E : Env} {N : Nat} {Γ : List (Nat × RP)} {Ω : List OB} {ty : TypeId}

/-- what a function value captures: values that are known -/
def CapsOk (Γ : List (Nat × RP)) : List Operand → List Value → Prop
  | [], [] => True
  | x :: xs, v :: vs => lkO Γ x = some (pv v) ∧ CapsOk Γ xs vs
  | _, _ => False

theorem CapsOk.eval {a : Act} {w : World} (hs : Sat E N Γ Ω a w) : ∀ {xs : List Operand} {vs : List Value}, CapsOk Γ xs vs → xs.map a.eval = vs
  | [], [], _ => rfl
  | x :: xs, v :: vs, ⟨h1, h2⟩ => by rw [List.map_cons, CapsOk.eval hs h2, show a.eval x = v from hs.op h1]
  | [], _ :: _, h => h.elim
  | _ :: _, [], h => h.elim

theorem r_mkfn {f : FuncId} {xs : List Operand} {vs : List Value} (h : CapsOk Γ xs vs) : Rd P E N (.makeFunc (.func f) #[] xs.toArray) ty Γ Ω [] (pv (.func (.func f) #[] vs.toArray)) := by
  intro a w hs
  refine ⟨_, [], rfl, by simp, fun w' _ o ho _ => ?_⟩
  simp [execOp, ho, Instr.makeFunc, h.eval hs]

/-- those of a list that stay -/
def keepB : List Bool → List OB → List OB
  | true :: m, o :: os => o :: keepB m os
  | false :: m, _ :: os => keepB m os
  | _, _ => []
def DeadB : List Bool → List OB → Prop
  | true :: m, _ :: os => DeadB m os
  | false :: m, o :: os => o = dead ∧ DeadB m os
  | [], [] => True
  | _, _ => False

theorem keepB_ow : ∀ {m : List Bool} {os : List OB}, DeadB m os → ow (keepB m os) = ow os
  | [], [], _ => rfl
  | true :: m, o :: os, h => by
    show ow (o :: keepB m os) = ow (o :: os)
    rw [show ow (o :: keepB m os) = o.S ++ ow (keepB m os) from by simp [ow], show ow (o :: os) = o.S ++ ow os from by simp [ow], keepB_ow (m := m) h]
  | false :: m, o :: os, ⟨h1, h2⟩ => by
    show ow (keepB m os) = ow (o :: os)
    rw [keepB_ow h2, show ow (o :: os) = o.S ++ ow os from by simp [ow], h1]
    simp [dead]
  | [], _ :: _, h => h.elim
  | true :: _, [], h => h.elim
  | false :: _, [], h => h.elim

theorem keepB_mem : ∀ {m : List Bool} {os : List OB}, DeadB m os → ∀ o ∈ os, o ∈ keepB m os ∨ o = dead
  | [], [], _, o, ho => by simp at ho
  | true :: m, p :: os, h, o, ho => by
    rcases List.mem_cons.1 ho with e | e
    · exact .inl (by rw [e]; exact List.mem_cons_self)
    · exact (keepB_mem (m := m) h o e).imp (fun h => List.mem_cons_of_mem _ h) id
  | false :: m, p :: os, ⟨h1, h2⟩, o, ho => by
    rcases List.mem_cons.1 ho with e | e
    · exact .inr (e.trans h1)
    · exact keepB_mem h2 o e
  | [], _ :: _, h, _, _ => h.elim
  | true :: _, [], h, _, _ => h.elim
  | false :: _, [], h, _, _ => h.elim

theorem FnOk.undead {X : Type} {f : FuncId} {φs : List RP} {Ω0 : List OB} {res : X → List RP} {Ω1 Ω2 : X → List OB} (hf : FnOk P f φs Ω0 res Ω1) (h1 : ∀ x, ow (Ω1 x) = ow (Ω2 x))
    (h2 : ∀ x, ∀ o ∈ Ω2 x, o ∈ Ω1 x ∨ o = dead) : FnOk P f φs Ω0 res Ω2 := by
  intro F w vs a1 a2 a3 a4 a5 a6 a7
  refine (hf F w vs a1 a2 a3 a4 a5 a6 a7).mono ?_
  rintro e w' ⟨x, v, he, hk, hbd, hnd, hob, hres⟩
  rw [h1 x] at hbd hnd hres hob
  refine ⟨x, v, he, hk, hbd, hnd, fun o ho => ?_, hres⟩
  rcases h2 x o ho with h3 | h3
  · exact hob o h3
  · rw [h3]; trivial

section
variable {α : Type} {e t : TypeId} {ρ : Rep α} {bytes : Nat} {x : Operand}
/-- the part l..m of a slice -/
def subV (v : Value) (sz l m : Nat) : Value := match v with
  | .slice ad _ c => .slice (if c = l then ad else ad.map (·.add (l * sz))) (m - l) (c - l)
  | v => v

/-- x[lo:hi] beside x, which stays ours -/
theorem r_osub {lo hi : Option Operand} {d d' : List α} {l m : Int} {hv : Value} {S : List Nat} {j : Nat} (hd : slM d l m = some d') (hu : P.underlying t = some (.slice e)) (h : ElT P e ρ bytes)
    (hx : lkO Γ x = some (pv hv)) (hj : Ω[j]? = some (oa ρ hv S d)) (hlo : BdOk Γ 0 lo l) (hhi : BdOk Γ d.length hi m) :
    Rd P E N (.slice t x lo hi none) ty Γ Ω [] (pv (subV hv ρ.size l.toNat m.toNat)) := .mk fun a w hs => by
  obtain ⟨h0, h1, h2, rfl⟩ := slM_some hd
  have hvx : a.eval x = hv := hs.op hx
  obtain ⟨ad, c, rfl, hc, hob⟩ := hs.objAt hj
  obtain ⟨l, rfl⟩ := Int.eq_ofNat_of_zero_le h0
  obtain ⟨m, rfl⟩ := Int.eq_ofNat_of_zero_le (Int.le_trans h0 h1)
  have hl := hlo.val hs
  have hm := hhi.val hs
  have e1 : l ≤ m := by omega
  have e2 : m ≤ d.length := by omega
  refine ⟨_, rfl, fun w' o ho _ => ?_⟩
  have hrun := run_slice (P := P) hu h (ad := ad) (n := d.length) (c := c) (lo := lo.map a.eval) (hi := hi.map a.eval) (l := l) (hh := m)
    (hl.imp (fun ⟨e1, e2⟩ => ⟨e1, by omega⟩) id) (hm.imp (fun ⟨e1, e2⟩ => ⟨e1, by omega⟩) id) e1 (by omega) w'
  simp [execOp, ho, hvx, hrun, subV]

theorem zero_get {zs : Array Value} {n i k sz : Nat} (hs : zs.size = sz) (hi : i < n) (hk : k < sz) : (Builtin.zeroCells zs n).toList[i * sz + k]? = zs.toList[k]? := by
  have hlt : i * sz + k < n * sz := by
    have : (i + 1) * sz ≤ n * sz := Nat.mul_le_mul_right _ hi
    rw [Nat.succ_mul] at this; omega
  rw [Array.getElem?_toList, Builtin.zeroCells, Array.getElem?_map, Array.getElem?_range, hs, if_pos hlt]
  have hmod : (i * sz + k) % sz = k := by rw [Nat.mul_comm, Nat.mul_add_mod, Nat.mod_eq_of_lt hk]
  have hk' : k < zs.size := by omega
  simp only [Option.map_some, hmod]
  rw [Array.getElem?_toList, Array.getElem?_eq_getElem hk', getElem!_pos zs k hk']

/-- clear(x[l:m]) -/
theorem s_clear {d d' : List α} {l m : Int} {z : α} {hv : Value} {S : List Nat} {j : Nat} (hd : slM d l m = some d') (hu : P.underlying t = some (.slice e)) (h : ElT P e ρ bytes) (hz : ZeroT P e ρ z)
    (hx : lkO Γ x = some (pv (subV hv ρ.size l.toNat m.toNat))) (hj : Ω[j]? = some (oa ρ hv S d)) :
    St P E N (.call ⟨.builtin .clear, #[x], #[t]⟩) ty Γ Ω [j] (fun _ : Unit => pv (.tuple #[])) (fun _ => Ω.set j (oa ρ hv S (d.take l.toNat ++ List.replicate (m.toNat - l.toNat) z ++ d.drop m.toNat))) := by
  intro a w hs
  obtain ⟨h0, h1, h2, rfl⟩ := slM_some hd
  have hvx : a.eval x = subV hv ρ.size l.toNat m.toNat := hs.op hx
  obtain ⟨ad, c, rfl, hc, hob⟩ := hs.objAt hj
  obtain ⟨i, zv, hi, hzz, hzs⟩ := hz
  obtain ⟨i', hi', his, hib, z', hz', hzsz⟩ := h.info
  rw [hi] at hi'; cases hi'
  rw [hzz] at hz'; cases hz'
  obtain ⟨l, rfl⟩ := Int.eq_ofNat_of_zero_le h0
  obtain ⟨m, rfl⟩ := Int.eq_ofNat_of_zero_le (Int.le_trans h0 h1)
  simp only [Int.toNat_natCast] at hvx ⊢
  have e1 : l ≤ m := by omega
  have e2 : m ≤ d.length := by omega
  by_cases hlm : m = l
  · have hsame : d.take l ++ List.replicate (m - l) z ++ d.drop m = d := by rw [hlm]; simp
    rw [hsame]
    refine opwp_val (v := .tuple #[]) (w' := w) (fun o ho _ => ?_) ⟨(), by rw [set_same hj]; exact hs, rfl, Nat.le_refl _, fun _ _ _ => rfl, fun b _ hb => by rw [set_same hj] at hb; exact hb⟩
    have : (Builtin.clear_ #[t] o.type #[a.eval x]).run P w = .ok (.tuple #[]) w := by
      rw [hvx]
      simp only [subV, hlm, Nat.sub_self]
      unfold Builtin.clear_
      simp [run_underlying hu]
      split <;> simp_all
    simp [execOp, ho, resolve, invoke, builtin, this]
  · rcases hob with ⟨rfl, _, rfl⟩ | ⟨b, off, cells, ct, rfl, rfl, hb, hsz, hH⟩
    · omega
    · have hcl : c ≠ l := by omega
      have hle : m * ρ.size ≤ c * ρ.size := Nat.mul_le_mul_right _ (by omega)
      have hms : (m - l) * ρ.size + l * ρ.size = m * ρ.size := by rw [← Nat.add_mul]; congr 1; omega
      have hzl : (Builtin.zeroCells zv.cells (m - l)).size = (m - l) * ρ.size := by simp [Builtin.zeroCells, hzsz]
      have hat : ∀ u ∈ (Builtin.zeroCells zv.cells (m - l)).toList, u.oneCell' = true := by
        intro u hu
        have hall := hzs (fun _ => True) w
        have hz1 := hall.atoms (ρ.at_ z)
        obtain ⟨q, hq, rfl⟩ := List.mem_iff_getElem.1 hu
        have hq' : q < (m - l) * ρ.size := by simpa [hzl] using hq
        have hp := h.pos
        have hg := zero_get (zs := zv.cells) (n := m - l) (i := q / ρ.size) (k := q % ρ.size) hzsz (Nat.div_lt_of_lt_mul (by rw [Nat.mul_comm]; exact hq')) (Nat.mod_lt _ hp)
        rw [Nat.mul_comm, Nat.div_add_mod, List.getElem?_eq_getElem hq] at hg
        exact hz1 _ (List.mem_of_getElem? hg.symm)
      have hst := run_storeCells_at P b (off + l * ρ.size) ct (Builtin.zeroCells zv.cells (m - l)).toList 0 cells w hb (by simp [hzl]; omega) hat
      simp only [Nat.add_zero, Array.length_toList, hzl] at hst
      intro o hop ht
      have hr : (execOp a.eval o).run P w = .ok (.value (.tuple #[])) (w.setRow b (cells.toList.take (off + l * ρ.size) ++ (Builtin.zeroCells zv.cells (m - l)).toList ++ cells.toList.drop (off + l * ρ.size + (m - l) * ρ.size)).toArray) := by
        have hc1 : (Builtin.clear_ #[t] o.type #[a.eval x]).run P w = .ok (.tuple #[]) (w.setRow b (cells.toList.take (off + l * ρ.size) ++ (Builtin.zeroCells zv.cells (m - l)).toList ++ cells.toList.drop (off + l * ρ.size + (m - l) * ρ.size)).toArray) := by
          rw [hvx]
          obtain ⟨k, hk⟩ : ∃ k, m - l = k + 1 := ⟨m - l - 1, by omega⟩
          simp only [subV, if_neg hcl, Option.map_some, addr_add]
          rw [hk] at hst ⊢
          unfold Builtin.clear_
          simp [run_underlying hu, zeroValue, typeInfo, hi, hzz, hst]
        simp [execOp, hop, resolve, invoke, builtin, hc1]
      rw [hr]
      refine ⟨(), ?_, rfl, by simp, fun b' hb' hn' => setRow_other w b b' _ fun e => hn' j (by simp) _ hj (by rw [e]; simp [oa]), own_set hj fun b hb => .inl hb⟩
      refine hs.upd hj ⟨rfl, rfl, rfl, by first | exact fun _ => Nat.le_refl _ | exact fun _ => Nat.le_add_right _ _⟩ (by simp) (fun b' _ hn' => setRow_other w b b' _ fun e => hn' (by rw [e]; simp [oa])) (fun b' hb' => .inl hb') (by simp [oa]) ?_
      have hlen : (d.take l ++ List.replicate (m - l) z ++ d.drop m).length = d.length := by simp; omega
      have hag : Ag (fr E Ω) (fr E (Ω.set j (oa ρ (.slice (some ⟨b, off, none⟩) d.length c) [b] (d.take l ++ List.replicate (m - l) z ++ d.drop m)))) w
          (w.setRow b (cells.toList.take (off + l * ρ.size) ++ (Builtin.zeroCells zv.cells (m - l)).toList ++ cells.toList.drop (off + l * ρ.size + (m - l) * ρ.size)).toArray) :=
        ⟨fun b' _ hf => fr_set hj hf fun hm => hf.2 (Sat.notin hj (b := b') hm), fun b' _ hf => setRow_other w b b' _ fun e => hf.2 (Sat.notin hj (b := b') (by rw [e]; simp [oa]))⟩
      have hll : cells.toList.length = cells.size := Array.length_toList
      have hzl' : (Builtin.zeroCells zv.cells (m - l)).toList.length = (m - l) * ρ.size := by rw [Array.length_toList, hzl]
      have htk : (cells.toList.take (off + l * ρ.size)).length = off + l * ρ.size := by rw [List.length_take]; omega
      refine ⟨some ⟨b, off, none⟩, c, by rw [hlen], by rw [hlen]; exact hc, .inr ⟨b, off, _, ct, rfl, rfl, setRow_heap w b cells _ ct (0, 0) hb, ?_, ?_⟩⟩
      · simp only [List.size_toArray, List.length_append, List.length_take, List.length_drop, Array.length_toList, hzl]; omega
      · intro q hq
        rw [hlen] at hq
        have hle2 : (q + 1) * ρ.size ≤ c * ρ.size := Nat.mul_le_mul_right _ (by omega)
        rw [Nat.succ_mul] at hle2
        by_cases hq1 : q < l
        · obtain ⟨es, hes, hcs⟩ := hH q hq
          have hl2 : (q + 1) * ρ.size ≤ l * ρ.size := Nat.mul_le_mul_right _ hq1
          rw [Nat.succ_mul] at hl2
          refine ⟨es, ?_, fun k hk => ?_⟩
          · have : (d.take l ++ List.replicate (m - l) z ++ d.drop m)[q] = d[q] := by
              rw [List.getElem_append_left (by simp; omega), List.getElem_append_left (by simp; omega), List.getElem_take]
            rw [this]; exact hes.mono hag
          · rw [← hcs k hk, List.getElem?_toArray, List.append_assoc, List.getElem?_append_left (by omega), List.getElem?_take, if_pos (by omega)]; simp
        · by_cases hq2 : q < m
          · refine ⟨zv.cells.toList, ?_, fun k hk => ?_⟩
            · have : (d.take l ++ List.replicate (m - l) z ++ d.drop m)[q] = z := by
                rw [List.getElem_append_left (by simp; omega), List.getElem_append_right (by simp; omega), List.getElem_replicate]
              rw [this]; exact hzs _ _
            · have hm2 : (q + 1) * ρ.size ≤ m * ρ.size := Nat.mul_le_mul_right _ hq2
              have hl2 : l * ρ.size ≤ q * ρ.size := Nat.mul_le_mul_right _ (by omega)
              rw [Nat.succ_mul] at hm2
              have hql : (q - l) * ρ.size + l * ρ.size = q * ρ.size := by rw [← Nat.add_mul]; congr 1; omega
              rw [List.getElem?_toArray, List.append_assoc, List.getElem?_append_right (by omega), htk, List.getElem?_append_left (by omega),
                show off + q * ρ.size + k - (off + l * ρ.size) = (q - l) * ρ.size + k from by omega]
              exact zero_get hzsz (by omega) hk
          · obtain ⟨es, hes, hcs⟩ := hH q hq
            have hm2 : m * ρ.size ≤ q * ρ.size := Nat.mul_le_mul_right _ (by omega)
            refine ⟨es, ?_, fun k hk => ?_⟩
            · have : (d.take l ++ List.replicate (m - l) z ++ d.drop m)[q] = d[q] := by
                rw [List.getElem_append_right (by simp; omega), List.getElem_drop]
                congr 1; simp; omega
              rw [this]; exact hes.mono hag
            · rw [← hcs k hk, List.getElem?_toArray, List.getElem?_append_right (by rw [List.length_append, htk, hzl']; omega), List.length_append, htk, hzl', List.getElem?_drop]
              simp
              congr 1; omega
end

section
variable {α : Type} {e t : TypeId} {ρ : Rep α} {bytes : Nat} {x : Operand}
end

/-! the two commonest steps, in few words -/
section
variable {K : KT R} {m : Option R} {ops : Array Oper} {rest : List Oper}
theorem mv1 {x : Operand} {d : Nat} {φ : RP} {pos : String} {aft : Array Edge} (hx : lkO Γ x = some φ) (hd : Nat.blt d N = true) (h : RefL P E N m ops rest ((d, φ) :: Γ) Ω K) : RefL P E N m ops (⟨some d, .move x, ty, pos, aft, none⟩ :: rest) Γ Ω K := s_rd (r_move hx) hd h
theorem as1 {x : Operand} {d : Nat} {φ : RP} {pos : String} {aft : Array Edge} (hx : lkO Γ x = some φ) (hd : Nat.blt d N = true) (h : RefL P E N m ops rest ((d, φ) :: Γ) Ω K) : RefL P E N m ops (⟨some d, .assign x, ty, pos, aft, none⟩ :: rest) Γ Ω K := s_rd (r_assign hx) hd h
end
end Go.Dc

/-! Arrays that are compared. -/
namespace Go.Dc
variable [DrawMode]
variable {P : Program} {α : Type} [DecidableEq α] {ρ : Rep α}

def EqAs (P : Program) (e : TypeId) : List Value → List Value → Bool → Prop
  | [], [], r => r = true
  | x :: xs, y :: ys, r => ∃ b r', EqC P e x y b ∧ EqAs P e xs ys r' ∧ r = (b && r')
  | _, _, _ => False

theorem EqAs.run {e : TypeId} (hg : ∀ w, (isAgg e).run P w = .ok false w) : ∀ {xs ys : List Value} {r : Bool}, EqAs P e xs ys r → ∀ (X Y : List Value) (k : Nat), X.drop k = xs → Y.drop k = ys →
    ∀ (d : Nat) (w : World), (Op.eqItems (d + 1) e 1 ⟨X⟩ ⟨Y⟩ (List.range' k xs.length)).run P w = .ok r w
  | [], [], _, h, _, _, _, _, _, _, _ => by rw [show _ = true from h]; simp [Op.eqItems]
  | x :: xs, y :: ys, r, ⟨b, r', h4, h5, h6⟩, X, Y, k, hX, hY, d, w => by
    have hx : X[k]? = some x := by
      have e : (X.drop k)[0]? = some x := by rw [hX]; rfl
      rwa [List.getElem?_drop, Nat.add_zero] at e
    have hy : Y[k]? = some y := by
      have e : (Y.drop k)[0]? = some y := by rw [hY]; rfl
      rwa [List.getElem?_drop, Nat.add_zero] at e
    have hX' : X.drop (k + 1) = xs := by rw [← List.drop_drop, hX]; rfl
    have hY' : Y.drop (k + 1) = ys := by rw [← List.drop_drop, hY]; rfl
    have hr := EqAs.run hg h5 X Y (k + 1) hX' hY' d w
    simp only [List.length_cons, List.range'_succ, Op.eqItems]
    simp [part, hg, hx, hy, h4.run, hr, h6]
    cases b <;> simp
  | [], _ :: _, _, h, _, _, _, _, _, _, _ => h.elim
  | _ :: _, [], _, h, _, _, _, _, _, _, _ => h.elim

theorem eqT_array {t e : TypeId} {n : Nat} {i : TypeInfo} (hu : P.underlying t = some (.array n e)) (hi : P.info? e = some i) (h1 : i.size = 1) (hga : ∀ w, (isAgg e).run P w = .ok false w) (hg : P.eqGuardType P.depth t = false)
    (h : ∀ (x y : α) (F : FP) (w : World) (cs ds : List Value), AllP F w (ρ.cp x) cs → AllP F w (ρ.cp y) ds → cs.length = n ∧ ∃ r, EqAs P e cs ds r ∧ r = decide (x = y)) : EqT P t ρ := ⟨hg, fun x y F w cs ds hc hd w' => by
  obtain ⟨hl, r, h3, h4⟩ := h x y F w cs.toList ds.toList hc hd
  show (Op.equalIn (9998 + 1 + 1) t (.agg cs) (.agg ds)).run P w' = _
  have hcs : P.cellsOf e = 1 := by simp [Program.cellsOf, hi, h1]
  rw [run_equalIn_array _ _ _ _ hu hi, ← h4, hcs, List.range_eq_range', ← hl]
  exact h3.run hga cs.toList ds.toList 0 rfl rfl _ _⟩
end Go.Dc

/-! Tables of the program's packages: a global array of which the cells are known. -/
namespace Go.Dc
variable [DrawMode]
variable {R : Type} {P : Program} {E : Env} {N : Nat} {Γ : List (Nat × RP)} {Ω : List OB} {ty : TypeId}

/-- a table: the global g holds the data d -/
def tbO {α : Type} (ρ : Rep α) (g : Nat) (d : List α) : OB where
  S := []
  h := fun F w => F g ∧ ∃ cells ty fz, w.heap[g]? = some (.cells cells ty fz) ∧ SlH ρ F w cells 0 d
  mono := by
    rintro F F' w w' ag hs ⟨hF, cells, ty, fz, h1, h2⟩
    have hb := size_of_get h1
    exact ⟨ag.f g hb hF, cells, ty, fz, by rw [ag.s g hb hF]; exact h1, h2.mono ag⟩

end Go.Dc

/-! Laws that lean on a table of the library's. -/
namespace Go.Dc
variable [DrawMode]
open Go.ChangeShapes Go.WideShapes Go.RowKit
variable {P : Program}

theorem calls_trueT {X : Type} {f : FuncId} {φs : List RP} {W : World} {args : Array Value} {Ω0 : List OB} {res : X → List RP} {Ω1 : X → List OB} (h : FnOk P f φs Ω0 res Ω1) (hr : ∀ x, res x = [bv true]) (hS : ow Ω0 = []) (htb : TInv (fun _ => True) W)
    (hob : ∀ o ∈ Ω0, o.h (fun _ => True) W) (ha : AllP (fun _ => True) W φs args.toList) : Calls P f args W fun e W' => e = .returned (.bool true) ∧ Kept [] W W' := by
  have h1 := h (fun _ => True) W args.toList (fun _ _ => trivial) (fun _ _ => trivial) (fun b hb => by rw [hS] at hb; simp at hb) (by rw [hS]; simp)
    (fun o ho => o.mono (.refl fun b _ _ => ⟨trivial, by rw [hS]; simp⟩) (fun _ _ => rfl) (hob o ho)) (AllP.mono (.refl fun b _ _ => ⟨trivial, by rw [hS]; simp⟩) ha) (htb.mono fun b _ _ => ⟨⟨trivial, by rw [hS]; simp⟩, rfl⟩)
  refine h1.mono fun e W' ⟨x, v, he, hk, _, _, _, hv⟩ => ?_
  rw [hr] at hv
  rw [hS] at hk
  exact ⟨by rw [he]; exact congrArg _ hv, hk⟩
end Go.Dc

set_option linter.unusedVariables false
/-! More structs among the arguments of a law. -/
namespace Go.Dc
open Go.ChangeShapes Go.WideShapes Go.RowKit
variable {P : Program}

end Go.Dc

/-! A call that looks at what is ours, and whose result is not used again. -/
namespace Go.Dc
/-- some value of one cell -/
def anyc : RP := ⟨fun _ _ v => v.oneCell' = true, fun _ h => h⟩
theorem anyc_at : anyc.At := fun h => h
theorem AllP.any {F F' : FP} {w : World} : ∀ {φs : List RP} {vs : List Value}, (∀ φ ∈ φs, φ.At) → AllP F w φs vs → AllP F' w (φs.map fun _ => anyc) vs
  | [], [], _, _ => trivial
  | φ :: φs, v :: vs, h0, ⟨h1, h2⟩ => ⟨h0 φ (by simp) h1, AllP.any (fun ψ hψ => h0 ψ (by simp [hψ])) h2⟩
  | [], _ :: _, _, h => h.elim
  | _ :: _, [], _, h => h.elim
end Go.Dc

/-! Pointers to shared data, or nil. -/
namespace Go.Dc
variable [DrawMode]
variable {R S : Type} {P : Program} {E : Env} {N : Nat} {Γ Γ' : List (Nat × RP)} {Ω Ω' : List OB} {ty : TypeId} {α β : Type} {ρ : Rep α}

/-- nil, or the address of data that stand in shared memory -/
def oea (ρ : Rep α) : Option α → RP
  | none => pv (.pointer none)
  | some x => ea ρ x

theorem oea_ptr {o : Option α} {F : FP} {w : World} {v : Value} (h : (oea ρ o).h F w v) : ∃ p, v = .pointer p ∧ p.isSome = o.isSome := by
  cases o with
  | none => exact ⟨none, h, rfl⟩
  | some x => obtain ⟨b, off, _, _, _, _, hv, _⟩ := h; exact ⟨_, hv, rfl⟩

theorem Sat.freezeO {a : Act} {w : World} {j : Nat} {o : OB} (hs : Sat E N Γ Ω a w) (hj : Ω[j]? = some o) : Sat E N Γ (Ω.set j dead) a w := by
  obtain ⟨A, B, rfl, rfl⟩ := ow_split hj
  have hsub : ∀ b, b ∈ ow (A ++ dead :: B) → b ∈ ow (A ++ o :: B) := fun b hb => by
    rw [ow_mid] at hb ⊢
    simp [dead] at hb
    simp only [List.mem_append]
    exact hb.imp id .inr
  rw [set_split]
  have hf : ∀ b, b < w.heap.size → fr E (A ++ o :: B) b → fr E (A ++ dead :: B) b := fun _ _ ⟨h1, h2⟩ => ⟨h1, fun hb => h2 (hsub _ hb)⟩
  refine ⟨hs.sz, hs.df, fun t φ ht => φ.mono (.refl hf) (hs.sl t φ ht), fun q hq => ?_, ?_, fun b hb => hs.bd b (hsub b hb), hs.kp, hs.fs⟩
  · rcases List.mem_append.1 hq with h | h
    · exact q.mono (.refl hf) (fun _ _ => rfl) (hs.ob q (by simp [h]))
    · rcases List.mem_cons.1 h with h | h
      · subst h; exact trivial
      · exact q.mono (.refl hf) (fun _ _ => rfl) (hs.ob q (by simp [h]))
  · have := hs.nd
    rw [ow_mid] at this ⊢
    simp only [dead, List.nil_append]
    exact this.sublist (List.Sublist.append (List.Sublist.refl _) (List.sublist_append_right _ _))

theorem r_optc {x : Operand} {o : Option α} {y : α} (h : o = some y) (hx : lkO Γ x = some (oea ρ o)) : Rd P E N (.nilCheck x) ty Γ Ω [] (ea ρ y) := .mk fun a w hs => by
  subst h
  have h1 : (ea ρ y).h (fr E Ω) w (a.eval x) := hs.op hx
  obtain ⟨b, off, cells, ty', fz, es, hv, h2⟩ := h1
  exact ⟨_, ⟨b, off, cells, ty', fz, es, hv, h2⟩, fun w' o ho _ => by simp [execOp, ho, hv]⟩

theorem r_optneq {t e : Nat} {yt : TypeId} {x y : Operand} {o : Option α} (hu : P.underlying t = some (.pointer e)) (hx : lkO Γ x = some (oea ρ o)) (hy : lkO Γ y = some (pv (.pointer none))) :
    Rd P E N (.binOp .neq t x y yt) ty Γ Ω [] (bv o.isSome) := .mk fun a w hs => by
  obtain ⟨p, h1, hp⟩ := oea_ptr (hs.op hx)
  have h2 : a.eval y = .pointer none := hs.op hy
  refine ⟨_, rfl, fun w' o' ho _ => ?_⟩
  have he : (Op.equal t (.pointer p) (.pointer none)).run P w' = .ok p.isNone w' := by
    unfold Op.equal
    rw [show Op.maxDepth = 9999 + 1 from rfl, Op.equalIn, Sem.run_bind, run_underlying hu]
    cases p <;> rfl
  have hg : (eqGuard .neq t x y (.pointer p) (.pointer none)).run P w' = .ok () w' := by unfold eqGuard; cases p <;> rfl
  have hb : binOp .neq t (.pointer p) (.pointer none) = (do pure (.bool (!(← Op.equal t (.pointer p) (.pointer none))))) := rfl
  rw [← hp]
  simp [execOp, ho, h1, h2, hg, hb, he]
end Go.Dc

/-! Parts of owned slices: a slice that is lengthened within its room, copied into, or cut out of. -/
namespace Go.Dc
variable [DrawMode]
variable {R : Type} {P : Program} {E : Env} {N : Nat} {Γ : List (Nat × RP)} {Ω : List OB} {ty : TypeId}

def capV (v : Value) : Nat := match v with | .slice _ _ c => c | _ => 0

section rows
variable {α : Type} {ρ : Rep α} {F : FP} {w : World}
/-- the memory of an owned slice: what stands ahead, the elements, what stands behind -/
theorem oa_row {ad : Option Addr} {n c : Nat} {S : List Nat} {d : List α} (h : (oa ρ (.slice ad n c) S d).h F w) (hc : 0 < c) :
    ∃ b off ct A es B, ad = some ⟨b, off, none⟩ ∧ S = [b] ∧ n = d.length ∧ w.heap[b]? = some (.cells (A ++ es ++ B).toArray ct (0, 0)) ∧ A.length = off ∧ AllP F w (d.flatMap ρ.cp) es ∧
      off + c * ρ.size ≤ (A ++ es ++ B).length ∧ d.length ≤ c ∧ es.length = d.length * ρ.size := by
  obtain ⟨ad', c', e, hdc, hob⟩ := h
  injection e with e1 e2 e3
  subst e1; subst e2; subst e3
  rcases hob with ⟨rfl, _, rfl⟩ | ⟨b, off, cells, ct, rfl, rfl, hb, hsz, hH⟩
  · omega
  · obtain ⟨es, hes, hcs⟩ := hH.list
    have hel : es.length = d.length * ρ.size := by rw [hes.length, cp_len]
    have hle : d.length * ρ.size ≤ c * ρ.size := Nat.mul_le_mul_right _ hdc
    have hll : cells.toList.length = cells.size := Array.length_toList
    have hmid : (cells.toList.drop off).take es.length = es := by
      apply List.ext_getElem?
      intro k
      rw [List.getElem?_take, List.getElem?_drop]
      by_cases hk : k < es.length
      · rw [if_pos hk, ← hcs k (by omega), Array.getElem?_toList]
      · rw [if_neg hk, List.getElem?_eq_none (by omega)]
    have hcut : cells.toList.take off ++ es ++ cells.toList.drop (off + es.length) = cells.toList := by
      rw [← hmid, List.append_assoc]
      conv => rhs; rw [← List.take_append_drop off cells.toList]
      congr 1
      rw [hmid]
      conv => rhs; rw [← List.take_append_drop es.length (cells.toList.drop off), hmid, List.drop_drop]
    refine ⟨b, off, ct, cells.toList.take off, es, cells.toList.drop (off + es.length), rfl, rfl, rfl, ?_, ?_, hes, ?_, hdc, hel⟩
    · rw [hcut]; simpa using hb
    · rw [List.length_take]; omega
    · rw [hcut]; omega

theorem row_oa {b off ct c n : Nat} {A es B L : List Value} {d : List α} (hb : w.heap[b]? = some (.cells L.toArray ct (0, 0))) (hL : L = A ++ es ++ B) (hA : A.length = off) (hes : AllP F w (d.flatMap ρ.cp) es)
    (hsz : off + c * ρ.size ≤ L.length) (hc : d.length ≤ c) (hn : n = d.length) : (oa ρ (.slice (some ⟨b, off, none⟩) n c) [b] d).h F w := by
  subst hn
  refine ⟨_, c, rfl, hc, .inr ⟨b, off, _, ct, rfl, rfl, hb, by simpa using hsz, SlH.of hes fun k hk => ?_⟩⟩
  have hel : es.length = d.length * ρ.size := by rw [hes.length, cp_len]
  subst hL
  rw [List.getElem?_toArray, List.append_assoc, List.getElem?_append_right (by omega), List.getElem?_append_left (by omega)]
  congr 1; omega

theorem flat_take (d : List α) (k : Nat) : (d.take k).flatMap ρ.cp = (d.flatMap ρ.cp).take (k * ρ.size) := by
  induction d generalizing k with
  | nil => simp
  | cons x d ih =>
    cases k with
    | zero => simp
    | succ k =>
      have e : (k + 1) * ρ.size - ρ.size = k * ρ.size := by rw [Nat.succ_mul]; omega
      rw [List.take_succ_cons, List.flatMap_cons, List.flatMap_cons, ih, List.take_append, ρ.len, e]
      congr 1
      exact (List.take_of_length_le (by rw [ρ.len, Nat.succ_mul]; omega)).symm
theorem flat_drop (d : List α) (k : Nat) : (d.drop k).flatMap ρ.cp = (d.flatMap ρ.cp).drop (k * ρ.size) := by
  induction d generalizing k with
  | nil => simp
  | cons x d ih =>
    cases k with
    | zero => simp
    | succ k =>
      have e : (k + 1) * ρ.size - ρ.size = k * ρ.size := by rw [Nat.succ_mul]; omega
      have e2 : (ρ.cp x).drop ((k + 1) * ρ.size) = [] := List.drop_eq_nil_of_le (by rw [ρ.len, Nat.succ_mul]; omega)
      rw [List.drop_succ_cons, List.flatMap_cons, ih, List.drop_append, ρ.len, e, e2, List.nil_append]
theorem all_take {es : List Value} {d : List α} (h : AllP F w (d.flatMap ρ.cp) es) (k : Nat) : AllP F w ((d.take k).flatMap ρ.cp) (es.take (k * ρ.size)) := by
  rw [flat_take]; exact h.take _
theorem all_drop {es : List Value} {d : List α} (h : AllP F w (d.flatMap ρ.cp) es) (k : Nat) : AllP F w ((d.drop k).flatMap ρ.cp) (es.drop (k * ρ.size)) := by
  rw [flat_drop]; exact h.drop _
end rows

section
variable {α : Type} {e t : TypeId} {ρ : Rep α} {bytes : Nat} {x y : Operand} {hv : Value} {S : List Nat} {d : List α} {j : Nat}

theorem Sat.cap {a : Act} {w : World} (hs : Sat E N Γ Ω a w) (hj : Ω[j]? = some (oa ρ hv S d)) : d.length ≤ capV hv := by
  obtain ⟨ad, c, rfl, hc, _⟩ := hs.objAt hj
  exact hc

/-- x[l:m:k] -/
def sub3V (v : Value) (sz l m k : Nat) : Value := match v with
  | .slice ad _ _ => .slice (if k = l then ad else ad.map (·.add (l * sz))) (m - l) (k - l)
  | v => v
/-! ### writing into the row of an owned slice -/
/-- the frame of such a write -/
theorem row_post {a : Act} {w : World} (hs : Sat E N Γ Ω a w) {b : Nat} {ad : Option Addr} {n c : Nat} {hv' : Value} {d' : List α} {cells' : Array Value} (hj : Ω[j]? = some (oa ρ (.slice ad n c) [b] d))
    (hnew : ∀ F w', Ag (fr E Ω) F w w' → w'.os = w.os → w' = w.setRow b cells' → (oa ρ hv' [b] d').h F w') :
    Sat E N Γ (Ω.set j (oa ρ hv' [b] d')) a (w.setRow b cells') ∧ Eff Ω (Ω.set j (oa ρ hv' [b] d')) [j] w (w.setRow b cells') := by
  refine ⟨?_, by simp, fun b' hb' hn' => setRow_other w b b' _ fun e => hn' j (by simp) _ hj (by rw [e]; simp [oa]), own_set hj fun b hb => .inl hb⟩
  refine hs.upd hj ⟨rfl, rfl, rfl, by first | exact fun _ => Nat.le_refl _ | exact fun _ => Nat.le_add_right _ _⟩ (by simp) (fun b' _ hn' => setRow_other w b b' _ fun e => hn' (by rw [e]; simp [oa])) (fun b' hb' => .inl hb') (by simp [oa]) ?_
  refine hnew _ _ ⟨fun b' _ hf => fr_set hj hf fun hm => hf.2 (Sat.notin hj (b := b') hm), fun b' _ hf => setRow_other w b b' _ fun e => hf.2 (Sat.notin hj (b := b') (by rw [e]; simp [oa]))⟩ rfl rfl
end
end Go.Dc

/-! Copying within and into owned slices; appending to parts of them. -/
namespace Go.Dc
variable [DrawMode]
variable {P : Program} {E : Env} {N : Nat} {Γ : List (Nat × RP)} {Ω : List OB} {ty : TypeId}

section
variable {α : Type} {e t : TypeId} {ρ : Rep α} {bytes : Nat} {x y : Operand} {hv : Value} {S : List Nat} {d : List α} {j : Nat}

theorem run_copy_call {a : Act} {o : Oper} (ho : o.op = .call ⟨.builtin .copy, #[x, y], #[t, t]⟩) {vx vy v : Value} (hx : a.eval x = vx) (hy : a.eval y = vy)
    {w w' : World} (h : (Builtin.copy_ #[t, t] o.type #[vx, vy]).run P w = .ok v w') : (execOp a.eval o).run P w = .ok (.value v) w' := by
  simp [execOp, ho, resolve, invoke, builtin, hx, hy, h]

/-- cells that go over into a row -/
theorem run_copy_to (hu : P.underlying t = some (.slice e)) (h : ElT P e ρ bytes) {w : World} {b p n c m yc q : Nat} {ya : Option Addr} {ct : TypeId} {L news : List Value} {ty : TypeId}
    (hb : w.heap[b]? = some (.cells L.toArray ct (0, 0))) (hq : q = Nat.min m n)
    (hn : (Builtin.firstCells ρ.size q (.slice ya m yc)).run P w = .ok news.toArray w) (hfit : p + news.length ≤ L.length) (h1 : ∀ v ∈ news, v.oneCell' = true) :
    (Builtin.copy_ #[t, t] ty #[.slice (some ⟨b, p, none⟩) n c, .slice ya m yc]).run P w = .ok (goInt q) (w.setRow b (L.take p ++ news ++ L.drop (p + news.length)).toArray) := by
  obtain ⟨i, hi, his, _⟩ := h.info
  have hst := run_storeCells_at P b p ct news 0 L.toArray w hb (by simpa using hfit) h1
  simp only [Nat.add_zero] at hst
  subst hq
  simp [Builtin.copy_, run_underlying hu, Builtin.lenOf, sizeOf, typeInfo, hi, his, hn, hst]

theorem subV_at {b off n c l m : Nat} (hl : c ≠ l) : subV (.slice (some ⟨b, off, none⟩) n c) ρ.size l m = .slice (some ⟨b, off + l * ρ.size, none⟩) (m - l) (c - l) := by
  simp [subV, hl, addr_add]

/-- cells go over into a part of what is ours -/
theorem copy_core {a : Act} {w : World} {l m m' yc : Nat} {ya : Option Addr} {d' : List α} {es' : List Value} (hs : Sat E N Γ Ω a w) (hj : Ω[j]? = some (oa ρ hv S d)) (hlm : l < m) (hm : m ≤ d.length) (hu : P.underlying t = some (.slice e)) (h : ElT P e ρ bytes)
    (hm' : d'.length = m') (hes' : AllP (fr E Ω) w (d'.flatMap ρ.cp) es')
    (hsrc : d'.length * ρ.size = 0 ∨ ∃ b off cells ty fz, ya = some ⟨b, off, none⟩ ∧ w.heap[b]? = some (.cells cells ty fz) ∧ ∀ j, j < d'.length * ρ.size → cells[off + j]? = es'[j]?)
    (hvx : a.eval x = subV hv ρ.size l m) (hvy : a.eval y = .slice ya m' yc) :
    opwp P (.call ⟨.builtin .copy, #[x, y], #[t, t]⟩) ty a.eval w fun v w' => ∃ _ : Unit, Sat E N Γ (Ω.set j (oa ρ hv S (d.take l ++ d'.take (m - l) ++ d.drop (l + min d'.length (m - l))))) a w' ∧
      v = .int .i64 ((min d'.length (m - l) : Nat) : Int) ∧ Eff Ω (Ω.set j (oa ρ hv S (d.take l ++ d'.take (m - l) ++ d.drop (l + min d'.length (m - l))))) [j] w w' := by
  have hob := hs.objAt hj
  obtain ⟨ad, c, rfl, hdc, _⟩ := id hob
  obtain ⟨b, off, ct, A, es, B, rfl, rfl, hn, hb, hA, hes, hsz, _, hel⟩ := oa_row hob (by omega)
  rw [subV_at (by omega)] at hvx
  subst hm'
  obtain ⟨q, hq⟩ : ∃ q, q = min d'.length (m - l) := ⟨_, rfl⟩
  have hq1 : q ≤ d'.length := by omega
  have hq2 : q ≤ m - l := by omega
  have hel' : es'.length = d'.length * ρ.size := by rw [hes'.length, cp_len]
  have hqs : q * ρ.size ≤ d'.length * ρ.size := Nat.mul_le_mul_right _ hq1
  have hql : (es'.take (q * ρ.size)).length = q * ρ.size := by rw [List.length_take, hel']; omega
  have hlq : l * ρ.size + q * ρ.size ≤ d.length * ρ.size := by rw [← Nat.add_mul]; exact Nat.mul_le_mul_right _ (by omega)
  have hls : l * ρ.size ≤ d.length * ρ.size := by omega
  have hf := run_fc (P := P) (size := ρ.size) (m := q) (yc := yc) (ya := ya) (news := es'.take (q * ρ.size)) (w := w) hql
    (hsrc.imp (fun h0 => by omega) fun ⟨b2, off2, cells2, ty2, fz2, h1, h2, h3⟩ => ⟨b2, off2, cells2, ty2, fz2, h1, h2, fun k hk => by
      rw [h3 k (by omega), List.getElem?_take, if_pos hk]⟩)
  have hf' : (Builtin.firstCells ρ.size q (.slice ya d'.length yc)).run P w = .ok (es'.take (q * ρ.size)).toArray w := by
    cases ya <;> simpa [Builtin.firstCells] using hf
  have hr := fun ty' => run_copy_to (P := P) (ty := ty') hu h (b := b) (p := off + l * ρ.size) (n := m - l) (c := c - l) (m := d'.length) (yc := yc) (q := q) (ya := ya) hb
    hq hf' (by rw [hql]; simp only [List.length_append, hel]; omega) (fun v hv => cp_atoms d' hes' v (List.mem_of_mem_take hv))
  refine opwp_val (fun o ho ht => run_copy_call ho hvx hvy (hr _)) ?_
  have htk : d'.take (m - l) = d'.take q := by
    rcases Nat.le_total d'.length (m - l) with h | h
    · rw [hq, Nat.min_eq_left h, List.take_of_length_le h, List.take_of_length_le (Nat.le_refl _)]
    · rw [hq, Nat.min_eq_right h]
  rw [htk, ← hq]
  have hpost := row_post (cells' := ((A ++ es ++ B).take (off + l * ρ.size) ++ es'.take (q * ρ.size) ++ (A ++ es ++ B).drop (off + l * ρ.size + (es'.take (q * ρ.size)).length)).toArray)
    (hv' := .slice (some ⟨b, off, none⟩) d.length c) (d' := d.take l ++ d'.take q ++ d.drop (l + q)) hs hj fun F w' hag _ hw' => by
    subst hw'
    have hd1 : (A ++ es ++ B).drop (off + l * ρ.size + (es'.take (q * ρ.size)).length) = es.drop ((l + q) * ρ.size) ++ B := by
      rw [hql, List.append_assoc, List.drop_append, List.drop_eq_nil_of_le (by omega), List.nil_append, hA, List.drop_append_of_le_length (by rw [hel]; omega)]
      congr 2; rw [Nat.add_mul]; omega
    have ht1 : (A ++ es ++ B).take (off + l * ρ.size) = A ++ es.take (l * ρ.size) := by
      rw [List.append_assoc, List.take_append, List.take_of_length_le (by omega), hA, Nat.add_sub_cancel_left, List.take_append_of_le_length (by rw [hel]; omega)]
    refine row_oa (ct := ct) (A := A) (es := es.take (l * ρ.size) ++ es'.take (q * ρ.size) ++ es.drop ((l + q) * ρ.size)) (B := B) (setRow_heap w b _ _ ct (0, 0) hb) ?_ hA ?_ ?_ ?_ ?_
    · rw [hd1, ht1]; simp
    · rw [List.flatMap_append, List.flatMap_append]
      exact ((all_take (hes.mono hag) l).append (all_take (hes'.mono hag) q)).append (all_drop (hes.mono hag) (l + q))
    · rw [hd1, ht1]
      simp only [List.length_append, List.length_take, List.length_drop, hel, hel'] at hsz ⊢
      rw [Nat.add_mul]; omega
    · simp; omega
    · simp; omega
  exact ⟨(), hpost.1, rfl, hpost.2⟩

/-- copy(x[l:m], y), y common -/
theorem s_copyS {l m : Nat} {d' : List α} (hlm : l < m) (hm : m ≤ d.length) (hu : P.underlying t = some (.slice e)) (h : ElT P e ρ bytes)
    (hx : lkO Γ x = some (pv (subV hv ρ.size l m))) (hj : Ω[j]? = some (oa ρ hv S d)) (hy : lkO Γ y = some (slv ρ d')) :
    St P E N (.call ⟨.builtin .copy, #[x, y], #[t, t]⟩) ty Γ Ω [j] (fun _ : Unit => iv .i64 ((min d'.length (m - l) : Nat) : Int)) (fun _ => Ω.set j (oa ρ hv S (d.take l ++ d'.take (m - l) ++ d.drop (l + min d'.length (m - l))))) := by
  intro a w hs
  obtain ⟨ya, yc, hvy, hyc, hyat⟩ := hs.op hy
  obtain ⟨es', hes', hnc⟩ := sl_news hyat
  exact copy_core hs hj hlm hm hu h rfl hes' (hnc.imp id fun ⟨b, off, cells, ty, fz, h1, _, h3, h4⟩ => ⟨b, off, cells, ty, fz, h1, h3, h4⟩) (hs.op hx) hvy

/-- copy(x[l:m], z[l2:m2]), both ours -/
theorem s_copyO {l m l2 m2 j2 : Nat} {hv2 : Value} {S2 : List Nat} {d2 : List α} (hlm : l < m) (hm : m ≤ d.length) (hlm2 : l2 < m2) (hm2 : m2 ≤ d2.length) (hu : P.underlying t = some (.slice e)) (h : ElT P e ρ bytes)
    (hx : lkO Γ x = some (pv (subV hv ρ.size l m))) (hj : Ω[j]? = some (oa ρ hv S d)) (hy : lkO Γ y = some (pv (subV hv2 ρ.size l2 m2))) (hj2 : Ω[j2]? = some (oa ρ hv2 S2 d2)) :
    St P E N (.call ⟨.builtin .copy, #[x, y], #[t, t]⟩) ty Γ Ω [j] (fun _ : Unit => iv .i64 ((min ((d2.take m2).drop l2).length (m - l) : Nat) : Int))
      (fun _ => Ω.set j (oa ρ hv S (d.take l ++ ((d2.take m2).drop l2).take (m - l) ++ d.drop (l + min ((d2.take m2).drop l2).length (m - l))))) := by
  intro a w hs
  have hvy : a.eval y = _ := hs.op hy
  have hob := hs.objAt hj2
  obtain ⟨ad, c, rfl, hdc, _⟩ := id hob
  obtain ⟨b, off, ct, A, es, B, rfl, rfl, hn, hb, hA, hes, hsz, _, hel⟩ := oa_row hob (by omega)
  rw [subV_at (by omega)] at hvy
  have hdl : ((d2.take m2).drop l2).length = m2 - l2 := by simp; omega
  have hml : (m2 - l2) * ρ.size + l2 * ρ.size = m2 * ρ.size := by rw [← Nat.add_mul]; congr 1; omega
  have hmd : m2 * ρ.size ≤ d2.length * ρ.size := Nat.mul_le_mul_right _ hm2
  refine copy_core (es' := (es.take (m2 * ρ.size)).drop (l2 * ρ.size)) hs hj hlm hm hu h hdl (all_drop (all_take hes m2) l2) (.inr ⟨b, off + l2 * ρ.size, _, ct, (0, 0), rfl, hb, fun k hk => ?_⟩) (hs.op hx) hvy
  rw [hdl] at hk
  rw [List.getElem?_toArray, List.append_assoc, List.getElem?_append_right (by omega), List.getElem?_append_left (by omega), List.getElem?_drop, List.getElem?_take, if_pos (by omega)]
  congr 1; omega

end
end Go.Dc

/-! A part of a slice with zeros appended; do two slices overlap. -/
namespace Go.Dc
variable [DrawMode]
variable {P : Program} {E : Env} {N : Nat} {Γ : List (Nat × RP)} {Ω : List OB} {ty : TypeId}

section
variable {α : Type} {e t yt : TypeId} {ρ : Rep α} {bytes : Nat} {x y : Operand} {hv : Value} {S : List Nat} {d : List α} {j : Nat}

end
end Go.Dc

set_option linter.unusedSimpArgs false
/-! Reasoning about the plain models. -/
namespace Go.Dc

variable {α β γ σ ρ : Type} {P Q : α → Prop}

/-- the model answers, and the answer is of Q -/
def T (m : Option α) (Q : α → Prop) : Prop := ∃ r, m = some r ∧ Q r

theorem T.bind {m : Option α} {f : α → Option β} {Q : β → Prop} (h : T m P) (k : ∀ a, P a → T (f a) Q) : T (Option.bind m f) Q := by
  obtain ⟨a, rfl, ha⟩ := h
  exact k a ha
theorem T.ret {a : α} (h : Q a) : T (some a) Q := ⟨a, rfl, h⟩
theorem T.mono {m : Option α} (h : T m P) (k : ∀ a, P a → Q a) : T m Q := let ⟨a, h1, h2⟩ := h; ⟨a, h1, k a h2⟩
theorem T.letM {x : β} {k : β → Option α} (h : T (k x) Q) : T (letM x k) Q := h
theorem T.join {f : β → Option α} {g : (β → Option α) → Option α} (h : T (g f) Q) : T (joinM f g) Q := h
theorem T.cond {b : Bool} {x y : Option α} (h1 : b = true → T x Q) (h2 : b = false → T y Q) : T (bif b then x else y) Q := by
  cases b
  · exact h2 rfl
  · exact h1 rfl
theorem T.of {m : Option α} {a : α} (h : m = some a) (hq : Q a) : T m Q := ⟨a, h, hq⟩
theorem T.eq {m : Option α} {a : α} (h : T m (· = a)) : m = some a := by obtain ⟨b, h1, rfl⟩ := h; exact h1
theorem T.and {m : Option α} (h1 : T m P) (h2 : T m Q) : T m (fun a => P a ∧ Q a) := by
  obtain ⟨a, e, hp⟩ := h1; obtain ⟨b, e2, hq⟩ := h2
  rw [e] at e2; cases e2
  exact ⟨a, e, hp, hq⟩

theorem T.loop {f : σ → Option (Sum ρ σ)} {Q : ρ → Prop} (I : σ → Prop) (μ : σ → Nat) {s : σ} (h0 : I s)
    (step : ∀ s, I s → T (f s) fun o => match o with | .inl r => Q r | .inr s' => I s' ∧ μ s' < μ s) : T (loopC f s) Q := by
  obtain ⟨r, h1, h2⟩ := loopC_total I Q μ (fun s hs => by
    obtain ⟨o, h1, h2⟩ := step s hs
    match o, h1, h2 with
    | .inl r, h1, h2 => exact .inl ⟨r, h1, h2⟩
    | .inr s', h1, h2 => exact .inr ⟨s', h1, h2⟩) s h0
  exact ⟨r, h1, h2⟩

theorem joinM_eq {f : β → Option α} {g : (β → Option α) → Option α} : joinM f g = g f := rfl

/-! ### lists -/
theorem idxM_eq {d : List α} {n : Int} (h0 : 0 ≤ n) (h1 : n.toNat < d.length) : idxM d n = some d[n.toNat] := by
  unfold idxM; rw [if_pos h0, List.getElem?_eq_getElem h1]
theorem idxM_nat {d : List α} {n : Nat} (h1 : n < d.length) : idxM d (n : Int) = some d[n] := by
  rw [idxM_eq (by omega) (by simpa using h1)]; simp
theorem slM_eq {d : List α} {lo hi : Int} (h0 : 0 ≤ lo) (h1 : lo ≤ hi) (h2 : hi ≤ d.length) : slM d lo hi = some ((d.take hi.toNat).drop lo.toNat) := by
  unfold slM; rw [if_pos ⟨h0, h1, h2⟩]
theorem appM_eq {b : Nat} {d e : List α} (h : (d.length + e.length) * b ≤ 140737488355328) : appM b d e = some (d ++ e) := by
  unfold appM; rw [if_pos h]
theorem mkM_eq {b : Nat} {z : α} {n : Int} (h0 : 0 ≤ n) (h : b * n.toNat ≤ 140737488355328) : mkM b z n = some (List.replicate n.toNat z) := by
  unfold mkM; rw [if_pos ⟨h0, h⟩]

/-! ### integers -/
theorem wrap64 {x : Int} (h0 : -9223372036854775808 ≤ x) (h1 : x ≤ 9223372036854775807) : IntKind.wrap .i64 x = x := by
  simp [IntKind.wrap, IntKind.signed, IntKind.bits]; omega
theorem iadd64 {x y : Int} (h0 : -9223372036854775808 ≤ x + y) (h1 : x + y ≤ 9223372036854775807) : iadd .i64 x y = x + y := wrap64 h0 h1
theorem isub64 {x y : Int} (h0 : -9223372036854775808 ≤ x - y) (h1 : x - y ≤ 9223372036854775807) : isub .i64 x y = x - y := wrap64 h0 h1
theorem ishr_eq {x y : Int} (h0 : 0 ≤ y) (h1 : y ≤ 64) : ishr .i64 x y = x / 2 ^ y.toNat := by
  unfold ishr
  rw [Nat.min_eq_left (by simp [IntKind.bits]; omega), Int.fdiv_eq_ediv_of_nonneg _ (Int.le_of_lt (Int.pow_pos (show (0 : Int) < 2 by decide)))]
theorem ishl_eq {x y : Int} (h1 : y ≤ 64) : ishl .i64 x y = IntKind.wrap .i64 (x * 2 ^ y.toNat) := by
  unfold ishl
  rw [Nat.min_eq_left (by simp [IntKind.bits]; omega)]

end Go.Dc

/-! More on loops and lists of the plain models. -/
namespace Go.Dc
variable {α β γ σ ρ τ : Type} {Q : ρ → Prop}

abbrev onO (Q : ρ → Prop) (I : σ → Prop) (o : Sum ρ σ) : Prop := match o with | .inl r => Q r | .inr s => I s

theorem T.loopM {f : σ → Option (Sum ρ σ)} (I : σ → Prop) (μ : σ → Nat) {s : σ} (h0 : I s)
    (step : ∀ s, I s → T (f s) (onO Q fun s' => I s' ∧ μ s' < μ s)) : T (loopC f s) Q :=
  T.loop I μ h0 fun s hs => (step s hs).mono fun o ho => by
    match o, ho with
    | .inl r, h => exact h
    | .inr s', h => exact h

theorem T.joinP {S : Type} {f : S → Option ρ} {g : (S → Option ρ) → Option ρ} (P : S → Prop) (h1 : ∀ x, P x → T (f x) Q) (h2 : ∀ k : S → Option ρ, (∀ x, P x → T (k x) Q) → T (g k) Q) : T (joinM f g) Q := h2 f h1

theorem T.loopK {f : σ → Option (Sum ρ σ)} (n : Nat) (I : Nat → σ → Prop) {s : σ} (h0 : I 0 s)
    (step : ∀ k s, I k s → T (f s) (onO Q fun s' => k < n ∧ I (k + 1) s')) : T (loopC f s) Q := by
  suffices h : ∀ m k s, n + 1 - k ≤ m → I k s → T (loopC f s) Q from h _ 0 s (Nat.le_refl _) h0
  intro m
  induction m with
  | zero =>
    intro k s hm hs
    obtain ⟨o, h1, h2⟩ := step k s hs
    rw [loopC_eq, h1]
    match o, h2 with
    | .inl r, h2 => exact ⟨r, rfl, h2⟩
    | .inr s', h2 => have := h2.1; omega
  | succ m ih =>
    intro k s hm hs
    obtain ⟨o, h1, h2⟩ := step k s hs
    rw [loopC_eq, h1]
    match o, h2 with
    | .inl r, h2 => exact ⟨r, rfl, h2⟩
    | .inr s', h2 => exact ih (k + 1) s' (by have := h2.1; omega) h2.2

theorem some_bind {a : α} {f : α → Option β} : Option.bind (some a) f = f a := rfl
theorem sumK_inr {A B R : Type} {kr : A → Option R} {kb : B → Option R} {b : B} : sumK kr kb (.inr b) = kb b := rfl

/-! ### getD -/
theorem idxM_getD {d : List α} {z : α} {n : Nat} (h : n < d.length) : idxM d (n : Int) = some (d.getD n z) := by
  rw [idxM_nat h]; simp [List.getD, h]
theorem getD_set {d : List α} {i j : Nat} {x z : α} (hi : i < d.length) : (d.set i x).getD j z = if i = j then x else d.getD j z := by
  by_cases e : i = j
  · subst e; simp [List.getD, hi]
  · simp [List.getD, List.getElem?_set_ne e, e]
theorem getD_rep {n i : Nat} {x : α} : (List.replicate n x).getD i x = x := by
  by_cases h : i < n
  · simp [List.getD, h]
  · simp [List.getD, h]
theorem mkM_T {b : Nat} {z : α} {n : Nat} (h : b * n ≤ 140737488355328) : mkM b z (n : Int) = some (List.replicate n z) := by
  rw [mkM_eq (by omega) (by simpa using h)]; simp
theorem iadd1 {n : Nat} (h : n ≤ 4611686018427387904) : iadd .i64 (n : Int) 1 = ((n + 1 : Nat) : Int) := by
  rw [iadd64 (by omega) (by omega)]; rfl
theorem isub1 {n : Nat} (h : n ≤ 4611686018427387904) : isub .i64 (n : Int) 1 = (n : Int) - 1 := isub64 (by omega) (by omega)
end Go.Dc

/-! What slices.Delete and slices.Insert make of lists, and the steps that their walks share. -/
namespace Go.Dc
variable [DrawMode]
variable {P : Program} {E : Env} {N : Nat} {Γ : List (Nat × RP)} {Ω : List OB} {ty : TypeId}

theorem Rd.to {op : Op} {J : List Nat} {φ ψ : RP} (h : Rd P E N op ty Γ Ω J φ) (e : φ = ψ) : Rd P E N op ty Γ Ω J ψ := e ▸ h

section
variable {α : Type} {ρ : Rep α} {hv : Value} {S : List Nat} {d d' : List α} {j : Nat}
end

/-- s without s[i:j] -/
def delM {α : Type} (s : List α) (i j : Int) : Option (List α) := if 0 ≤ i ∧ i ≤ j ∧ j ≤ s.length then some (s.take i.toNat ++ s.drop j.toNat) else none
/-- s with x at i -/
def insM {α : Type} (bytes : Nat) (s : List α) (i : Int) (v : List α) : Option (List α) :=
  if 0 ≤ i ∧ i ≤ s.length ∧ v.length = 1 ∧ (s.length + 1) * bytes ≤ 140737488355328 then some (s.take i.toNat ++ v ++ s.drop i.toNat) else none
section
variable {α : Type} {s d : List α} {i j : Int} {bytes : Nat} {v r : List α} {z p : α} {n : Nat}
end
/-! a struct that holds slices of ours, and is only looked at -/
def UpO (Ω : List OB) : List RP → List RP → Prop
  | [], [] => True
  | φ :: φs, ψ :: ψs => (φ = ψ ∨ (∃ (α : Type) (ρ : Rep α) (hv : Value) (S : List Nat) (d : List α) (j : Nat), φ = pv hv ∧ Ω[j]? = some (oa ρ hv S d) ∧ ψ = slv ρ d) ∨
      ∃ (α : Type) (ρ : Rep α), φ = pv (.slice none 0 0) ∧ ψ = slv ρ []) ∧ UpO Ω φs ψs
  | _, _ => False
theorem UpO.all {a : Act} {w : World} (hs : Sat E N Γ Ω a w) : ∀ {φs ψs : List RP} {vs : List Value}, UpO Ω φs ψs → AllP (fr E Ω) w φs vs → AllP (fun _ => True) w ψs vs
  | [], [], [], _, _ => trivial
  | φ :: φs, ψ :: ψs, v :: vs, ⟨h1, h2⟩, ⟨h3, h4⟩ => by
    refine ⟨?_, UpO.all hs h2 h4⟩
    rcases h1 with rfl | ⟨α, ρ, hv, S, d, j, rfl, hj, rfl⟩ | ⟨α, ρ, rfl, rfl⟩
    · exact φ.mono (.refl fun _ _ _ => trivial) h3
    · rw [show v = hv from h3]; exact oa_sl (hs.objAt hj) (fun _ _ _ => trivial) (fun _ _ => trivial)
    · exact nil_sl h3
  | [], [], _ :: _, _, h => h.elim
  | [], _ :: _, _, h, _ => h.elim
  | _ :: _, [], _, h, _ => h.elim
  | _ :: _, _ :: _, [], _, h => h.elim
end Go.Dc

/-! Bytes of strings; strings put together; slices whose capacity is full; copying within one slice. -/
namespace Go.Dc
variable [DrawMode]
variable {P : Program} {E : Env} {N : Nat} {Γ : List (Nat × RP)} {Ω : List OB} {ty : TypeId}

/-- s[i] -/
def sidxM (s : ByteArray) (i : Int) : Option Int := if 0 ≤ i then (s[i.toNat]?).map fun b => (b.toNat : Int) else none

theorem r_sidx {t : TypeId} {x i : Operand} {k : IntKind} {s : ByteArray} {n y : Int} (h : sidxM s n = some y) (hu : P.underlying t = some .string) (hx : lkO Γ x = some (sv s)) (hi : lkO Γ i = some (iv k n)) :
    Rd P E N (.index t x i) ty Γ Ω [] (iv .u8 y) := .mk fun a w hs => by
  have h1 : a.eval x = .string s := hs.op hx
  have h2 : a.eval i = .int k n := hs.op hi
  unfold sidxM at h
  by_cases h0 : 0 ≤ n
  · rw [if_pos h0] at h
    cases hb : s[n.toNat]? with
    | none => rw [hb] at h; cases h
    | some b =>
      rw [hb] at h
      cases h
      exact ⟨_, rfl, fun w' o ho _ => by simp [execOp, ho, h1, h2, Instr.index, asIntOf, run_underlying hu, h0, hb]⟩
  · rw [if_neg h0] at h; cases h

/-- a + b -/
def sconM (a b : ByteArray) : Option ByteArray := if ((a.size + b.size : Nat) : Int) > IntKind.i64.max then none else some (a ++ b)

theorem r_sadd {t yt : TypeId} {x y : Operand} {s u r : ByteArray} (h : sconM s u = some r) (hx : lkO Γ x = some (sv s)) (hy : lkO Γ y = some (sv u)) : Rd P E N (.binOp .add t x y yt) ty Γ Ω [] (sv r) := .mk fun a w hs => by
  have h1 : a.eval x = .string s := hs.op hx
  have h2 : a.eval y = .string u := hs.op hy
  unfold sconM at h
  by_cases h0 : ((s.size + u.size : Nat) : Int) > IntKind.i64.max
  · rw [if_pos h0] at h; cases h
  · rw [if_neg h0] at h
    cases h
    have hg : ∀ w', (eqGuard .add t x y (.string s) (.string u)).run P w' = .ok () w' := fun w' => by unfold eqGuard; rfl
    have hb : binOp .add t (.string s) (.string u) = Op.stringOp .add s u := rfl
    exact ⟨_, rfl, fun w' o ho _ => by
      have hm : IntKind.i64.max = 9223372036854775807 := by decide
      simp [execOp, ho, h1, h2, hg, hb, Op.stringOp]
      omega⟩

section
variable {α : Type} {e t : TypeId} {ρ : Rep α} {bytes : Nat} {x y : Operand} {hv : Value} {S : List Nat} {d : List α} {j : Nat}

/-- a slice whose capacity is its length -/
def slf {α : Type} (ρ : Rep α) (d : List α) : RP :=
  ⟨fun F w v => ∃ a, v = .slice a d.length d.length ∧ SlAt ρ F w a d, fun ag ⟨a, h1, h3⟩ => ⟨a, h1, h3.mono ag⟩⟩

theorem r_full {hi mx : Operand} {k1 k2 : IntKind} (hu : P.underlying t = some (.slice e)) (h : ElT P e ρ bytes) (hx : lkO Γ x = some (slv ρ d)) (hhi : lkO Γ hi = some (iv k1 (d.length : Int))) (hmx : lkO Γ mx = some (iv k2 (d.length : Int))) :
    Rd P E N (.slice t x none (some hi) (some mx)) ty Γ Ω [] (slf ρ d) := .mk fun a w hs => by
  obtain ⟨ad, c, hv, hc, hat⟩ := hs.op hx
  have e2 : a.eval hi = .int k1 (d.length : Int) := hs.op hhi
  have e3 : a.eval mx = .int k2 (d.length : Int) := hs.op hmx
  by_cases h0 : d = []
  · subst h0
    refine ⟨.slice (if 0 = 0 then ad else ad.map (·.add (0 * ρ.size))) 0 0, ⟨_, rfl, fun h => absurd rfl h⟩, fun w' o ho _ => ?_⟩
    have hb : (Instr.sliceBounds true 0 c none (some (.int k1 (([] : List α).length : Int))) (some (.int k2 (([] : List α).length : Int)))).run P w' = .ok (0, 0, 0) w' := by
      simp [Instr.sliceBounds, Instr.sliceBound, asIntOf]
    have hb' : (Instr.sliceBounds true 0 c none (some (.int k1 0)) (some (.int k2 0))).run P w' = .ok (0, 0, 0) w' := by simpa using hb
    simp [execOp, ho, hv, e2, e3, Instr.sliceAt, run_underlying hu, Instr.slice, hb', h.sizeOf]
  · obtain ⟨b, off, cells, ty', fz, rfl, hF, hb0, hH⟩ := hat h0
    refine ⟨.slice (some ⟨b, off, none⟩) d.length d.length, ⟨_, rfl, fun _ => ⟨b, off, cells, ty', fz, rfl, hF, hb0, hH⟩⟩, fun w' o ho _ => ?_⟩
    have hb : (Instr.sliceBounds true d.length c none (some (.int k1 (d.length : Int))) (some (.int k2 (d.length : Int)))).run P w' = .ok (0, d.length, d.length) w' := by
      simp [Instr.sliceBounds, Instr.sliceBound, asIntOf, hc]
    have hne : d.length ≠ 0 := fun e => h0 (List.eq_nil_of_length_eq_zero e)
    simp [execOp, ho, hv, e2, e3, Instr.sliceAt, run_underlying hu, Instr.slice, hb, h.sizeOf, hne, addr_add]

/-- append to such a slice: it is made anew -/
theorem s_appendF {d' d'' : List α} (hd : appM bytes d d' = some d'') (hne : Nat.ble 1 d'.length = true) (hu : P.underlying t = some (.slice e)) (h : ElT P e ρ bytes)
    (hx : lkO Γ x = some (slf ρ d)) (hy : lkO Γ y = some (slv ρ d')) :
    St P E N (.call ⟨.builtin .append, #[x, y], #[t, t]⟩) ty Γ Ω [] (fun X : Value × List Nat => pv X.1) (fun X => Ω ++ [oa ρ X.1 X.2 d'']) := by
  intro a w hs
  obtain ⟨hsz, rfl⟩ := appM_some hd
  have hne' : 1 ≤ d'.length := Nat.le_of_ble_eq_true hne
  obtain ⟨base, hvx, hxat⟩ := hs.op hx
  obtain ⟨ya, yc, hvy, hyc, hyat⟩ := hs.op hy
  obtain ⟨i, hi, his, hib, z, hz, hzs⟩ := h.info
  obtain ⟨news, hnews, hnc⟩ := sl_news hyat
  have hnl : news.length = d'.length * ρ.size := by rw [hnews.length, cp_len]
  obtain ⟨es, hes, hec⟩ := sl_news hxat
  have hnum := app_num hsz h.bpos (show d.length < d.length + d'.length by omega)
  have hf := run_fc (P := P) (size := i.size) (m := d'.length) (yc := yc) (ya := ya) (news := news) (w := w.drew) (by rw [his, hnl])
    (by rw [his]; exact hnc.imp id fun ⟨b, off, cells, ty, fz, h1, _, h3, h4⟩ => ⟨b, off, cells, ty, fz, h1, h3, h4⟩)
  have hold := run_fc (P := P) (size := i.size) (m := d.length) (yc := d.length) (ya := base) (news := es) (w := w.drew) (by rw [his, hes.length, cp_len])
    (by rw [his]; exact hec.imp id fun ⟨b, off, cells, ty, fz, h1, _, h3, h4⟩ => ⟨b, off, cells, ty, fz, h1, h3, h4⟩)
  have hr := run_app_grow (P := P) t ty e i z hu hi hz hold hf (by omega) hnum.1 (by rw [hib]; exact hnum.2)
  have hst : ∀ b, b < w.heap.size → ∀ o, (w.drew.alloc o).heap[b]? = w.heap[b]? := fun b hb o => heap_alloc_lt w.drew o hb
  refine opwp_val (fun o ho ht => run_append_call ho hvx hvy (by rw [ht]; exact hr)) ⟨(.slice (some ⟨w.heap.size, 0, none⟩) (d.length + d'.length) (grownCap w (d.length + d'.length) d.length e), [w.heap.size]), ?_, rfl, by simp, fun b hb _ => hst b hb _, own_add (by simp [oa])⟩
  refine hs.add ⟨rfl, rfl, rfl, by first | exact fun _ => Nat.le_refl _ | exact fun _ => Nat.le_add_right _ _⟩ (by simp) (fun b hb => hst b hb _) (fun b hb => ?_) (by simp [oa]) ?_
  · rw [show b = w.heap.size from by simpa [oa] using hb]; exact ⟨Nat.le_refl _, by show _ < (w.drew.alloc _).heap.size; rw [World.size_alloc]; exact Nat.lt_succ_self _⟩
  · have hag : ∀ o, Ag (fr E Ω) (fr E (Ω ++ [oa ρ (.slice (some ⟨w.heap.size, 0, none⟩) (d.length + d'.length) (grownCap w (d.length + d'.length) d.length e)) [w.heap.size] (d ++ d')])) w (w.drew.alloc o) := fun o =>
      ⟨fun b hb hf => fr_add hf (fun hm => by
        have : b = w.heap.size := (by simpa [oa] using hm)
        omega), fun b hb _ => hst b hb _⟩
    refine grown_oa (hes.mono (hag _)) (hnews.mono (hag _)) rfl (heap_alloc_new' w.drew _) ?_ grow_cap
    simp [Builtin.zeroCells, hzs]

/-- what copy(d[l:m], d[l2:m2]) makes of d -/
def cpO {α : Type} (d : List α) (l m l2 m2 : Int) : List α := d.take l.toNat ++ ((d.take m2.toNat).drop l2.toNat).take (m.toNat - l.toNat) ++ d.drop (l.toNat + min ((d.take m2.toNat).drop l2.toNat).length (m.toNat - l.toNat))

theorem subV_slice {ad : Option Addr} {n c l m : Nat} : subV (.slice ad n c) ρ.size l m = .slice (if c = l then ad else ad.map (·.add (l * ρ.size))) (m - l) (c - l) := rfl

theorem s_copyW {l m l2 m2 : Int} {d1 d2 : List α} (h1 : slM d l m = some d1) (h2 : slM d l2 m2 = some d2) (hu : P.underlying t = some (.slice e)) (h : ElT P e ρ bytes)
    (hx : lkO Γ x = some (pv (subV hv ρ.size l.toNat m.toNat))) (hj : Ω[j]? = some (oa ρ hv S d)) (hy : lkO Γ y = some (pv (subV hv ρ.size l2.toNat m2.toNat))) :
    St P E N (.call ⟨.builtin .copy, #[x, y], #[t, t]⟩) ty Γ Ω [j] (fun _ : Unit => iv .i64 ((min d2.length d1.length : Nat) : Int)) (fun _ => Ω.set j (oa ρ hv S (cpO d l m l2 m2))) := by
  obtain ⟨a0, a1, a2, rfl⟩ := slM_some h1
  obtain ⟨b0, b1, b2, rfl⟩ := slM_some h2
  have e1 : ((d.take m.toNat).drop l.toNat).length = m.toNat - l.toNat := by simp; omega
  rw [e1]
  by_cases hc : l.toNat < m.toNat ∧ l2.toNat < m2.toNat
  · exact s_copyO hc.1 (by omega) hc.2 (by omega) hu h hx hj hy hj
  · have hz : Nat.min (m2.toNat - l2.toNat) (m.toNat - l.toNat) = 0 := by
      generalize m2.toNat = p at *; generalize l2.toNat = q at *; generalize m.toNat = r at *; generalize l.toNat = s at *
      simp only [Nat.min_def]; split <;> omega
    intro a w hs
    have hvx : a.eval x = _ := hs.op hx
    have hvy : a.eval y = _ := hs.op hy
    obtain ⟨ad, c, rfl, hdc, hob⟩ := hs.objAt hj
    rw [subV_slice] at hvx hvy
    obtain ⟨i, hi, his, _⟩ := h.info
    have e2 : ((d.take m2.toNat).drop l2.toNat).length = m2.toNat - l2.toNat := by simp; omega
    have hn : min ((d.take m2.toNat).drop l2.toNat).length (m.toNat - l.toNat) = 0 := by rw [e2]; exact hz
    have hdd : cpO d l m l2 m2 = d := by
      unfold cpO
      rw [hn, Nat.add_zero]
      have : ((d.take m2.toNat).drop l2.toNat).take (m.toNat - l.toNat) = [] := List.eq_nil_of_length_eq_zero (by rw [List.length_take, e2, Nat.min_comm]; exact hz)
      rw [this, List.append_nil, List.take_append_drop]
    have hfc : ∀ ya yc, (Builtin.firstCells i.size 0 (.slice ya (m2.toNat - l2.toNat) yc)).run P w = .ok #[] w := fun ya yc => by
      have := run_fc (P := P) (size := i.size) (m := 0) (yc := yc) (ya := ya) (news := []) (w := w) (by simp) (.inl (by simp))
      cases ya <;> exact this
    have hr : (Builtin.copy_ #[t, t] ty #[.slice (if c = l.toNat then ad else ad.map (·.add (l.toNat * ρ.size))) (m.toNat - l.toNat) (c - l.toNat), .slice (if c = l2.toNat then ad else ad.map (·.add (l2.toNat * ρ.size))) (m2.toNat - l2.toNat) (c - l2.toNat)]).run P w = .ok (goInt 0) w := by
      simp only [Builtin.copy_]
      cases hq : (if c = l.toNat then ad else ad.map (·.add (l.toNat * ρ.size))) with
      | none => simp [run_underlying hu, Builtin.lenOf, sizeOf, typeInfo, hi, hz, hfc]
      | some q => simp [run_underlying hu, Builtin.lenOf, sizeOf, typeInfo, hi, hz, hfc, storeCells]
    refine opwp_val (fun o ho ht => run_copy_call ho hvx hvy (by rw [ht]; exact hr)) ⟨(), ?_, ?_, Nat.le_refl _, fun _ _ _ => rfl, fun b hb hm => ?_⟩
    · rw [hdd, set_same hj]; exact hs
    · rw [hn]; rfl
    · rw [hdd, set_same hj] at hm; exact hm
end
end Go.Dc

/-! Byte arrays and their lists. -/
namespace Go.Dc

theorem ba_loop (bs : ByteArray) : ∀ n i r, bs.size - i ≤ n → ByteArray.toList.loop bs i r = r.reverse ++ bs.data.toList.drop i := by
  intro n
  induction n with
  | zero =>
    intro i r h
    rw [ByteArray.toList.loop, if_neg (by omega), List.drop_eq_nil_of_le (by simp; exact Nat.le_of_sub_eq_zero (by have : bs.data.size = bs.size := rfl; omega)), List.append_nil]
  | succ n ih =>
    intro i r h
    rw [ByteArray.toList.loop]
    by_cases hi : i < bs.size
    · have hi' : i < bs.data.toList.length := by simpa using hi
      rw [if_pos hi, ih _ _ (by omega), List.drop_eq_getElem_cons hi']
      have : bs.get! i = bs.data.toList[i] := by
        show bs.data[i]! = _
        rw [getElem!_pos bs.data i hi]; simp
      rw [this]; simp
    · rw [if_neg hi, List.drop_eq_nil_of_le (by simp; exact Nat.le_of_sub_eq_zero (by have : bs.data.size = bs.size := rfl; omega)), List.append_nil]

theorem ba_toList (bs : ByteArray) : bs.toList = bs.data.toList := by
  unfold ByteArray.toList
  rw [ba_loop bs _ 0 [] (Nat.le_refl _)]; simp

theorem ba_inj {a b : ByteArray} : a.toList = b.toList ↔ a = b := by
  rw [ba_toList, ba_toList]
  constructor
  · intro h
    have := Array.toList_inj.1 h
    cases a; cases b; simp only at this; rw [this]
  · rintro rfl; rfl
theorem ba_beq {a b : ByteArray} : (a.toList == b.toList) = decide (a = b) := by
  rw [Bool.eq_iff_iff, beq_iff_eq, decide_eq_true_iff, ba_inj]
end Go.Dc

/-! Maps that are owned. -/
namespace Go.Dc
variable [DrawMode]
variable {P : Program} {E : Env} {N : Nat} {Γ : List (Nat × RP)} {Ω : List OB} {ty : TypeId} {α β : Type} [DecidableEq α] {κ : Rep α} {ν : Rep β} {kt : TypeId}

/-- the entries stand for the pairs -/
def Ents {α β : Type} (κ : Rep α) (ν : Rep β) (F : FP) (w : World) (l : List MapEntry) (d : List (α × β)) : Prop :=
  l.length = d.length ∧ ∀ (i : Nat) (e : MapEntry) (p : α × β), l[i]? = some e → d[i]? = some p → (sh κ p.1).h F w e.key ∧ (sh ν p.2).h F w e.val
theorem Ents.mono {α β : Type} {κ : Rep α} {ν : Rep β} {F F' : FP} {w w' : World} (a : Ag F F' w w') {l : List MapEntry} {d : List (α × β)} (h : Ents κ ν F w l d) : Ents κ ν F' w' l d :=
  ⟨h.1, fun i e p h1 h2 => let ⟨q1, q2⟩ := h.2 i e p h1 h2; ⟨(sh κ p.1).mono a q1, (sh ν p.2).mono a q2⟩⟩

/-- a map that is owned -/
def om {α β : Type} (κ : Rep α) (ν : Rep β) (b : Nat) (d : List (α × β)) : OB where
  S := [b]
  h := fun F w => ∃ es clock, w.heap[b]? = some (.map es clock) ∧ Ents κ ν F w es.toList d ∧ (∀ e ∈ es.toList, e.born < clock) ∧ (es.toList.map (·.born)).Nodup
  mono := by
    rintro F F' w w' ag hs ⟨es, clock, h1, h2, h3⟩
    exact ⟨es, clock, by rw [hs b (by simp)]; exact h1, h2.mono ag, h3⟩

def mapIx (d : List (α × β)) (x : α) : Option Nat := d.findIdx? fun p => decide (p.1 = x)
def mapPut (d : List (α × β)) (x : α) (y : β) : List (α × β) := match mapIx d x with | some i => d.set i (x, y) | none => d ++ [(x, y)]
def mapHas (d : List (α × β)) (x : α) : Bool := (mapIx d x).isSome
def mapGet (d : List (α × β)) (x : α) (z : β) : β := match mapIx d x with | some i => (d[i]?.map (·.2)).getD z | none => z

/-- keys that can be looked for -/
structure KeyT {α : Type} [DecidableEq α] (P : Program) (kt : TypeId) (κ : Rep α) : Prop where
  check : ∀ (x : α) (F : FP) (w : World) (v : Value), (sh κ x).h F w v → ∀ (e : Bool) (w' : World), (Instr.checkKey e 10000 kt v).run P w' = .ok () w'
  eq : ∀ (x y : α) (F : FP) (w : World) (u v : Value), (sh κ x).h F w u → (sh κ y).h F w v → ∀ (w' : World), (Op.equal kt u v).run P w' = .ok (decide (x = y)) w'
  stay : ∀ (x : α) (F : FP) (w : World) (u v : Value), (sh κ x).h F w u → (sh κ x).h F w v → Instr.sameBits 10000 u v = true
  now : ∀ (k : TypeDesc), P.underlying kt = some k → ∀ (u v : Value) (r : Bool), Instr.sameNow k u v = some r → ∀ w', (Op.equal kt u v).run P w' = .ok r w'
  und : ∃ k, P.underlying kt = some k

theorem run_findAsking (hK : KeyT P kt κ) {F : FP} {w : World} {x : α} {v : Value} (hx : (sh κ x).h F w v) : ∀ {l : List MapEntry} {d : List (α × β)}, Ents κ ν F w l d → ∀ (n : Nat) (w' : World),
    ∃ r, (Instr.findAsking kt v l n).run P w' = .ok r w' ∧ r.map (·.1) = (mapIx d x).map (n + ·) ∧ ∀ i u, r = some (i, u) → ∃ e, n ≤ i ∧ l[i - n]? = some e ∧ e.val = u
  | [], [], _, n, w' => ⟨none, rfl, rfl, by simp⟩
  | e :: l, p :: d, h, n, w' => by
    obtain ⟨h1, h2⟩ := h.2 0 e p rfl rfl
    have ht : Ents κ ν F w l d := ⟨by have := h.1; simp at this; exact this, fun i e' p' a b => h.2 (i + 1) e' p' (by simpa using a) (by simpa using b)⟩
    have he := hK.eq x p.1 F w v e.key hx h1 w'
    by_cases c : x = p.1
    · refine ⟨some (n, e.val), ?_, ?_, fun i u hr => ?_⟩
      · simp [Instr.findAsking, he, c]
      · simp [mapIx, List.findIdx?_cons, c]
      · simp only [Option.some.injEq, Prod.mk.injEq] at hr
        obtain ⟨rfl, rfl⟩ := hr
        exact ⟨e, Nat.le_refl _, by simp, rfl⟩
    · obtain ⟨r, r1, r2, r3⟩ := run_findAsking hK hx ht (n + 1) w'
      refine ⟨r, ?_, ?_, fun i u hr => ?_⟩
      · simp [Instr.findAsking, he, c, r1]
      · rw [r2]
        have c' : ¬ p.1 = x := fun e => c e.symm
        simp only [mapIx, List.findIdx?_cons, c', decide_false, Bool.false_eq_true, if_false, Option.map_map]
        congr 1
        funext z
        simp only [Function.comp]; omega
      · obtain ⟨e', q1, q2, q3⟩ := r3 i u hr
        refine ⟨e', by omega, ?_, q3⟩
        rw [show i - n = (i - (n + 1)) + 1 by omega, List.getElem?_cons_succ]; exact q2
  | [], _ :: _, h, _, _ => by have := h.1; simp at this
  | _ :: _, [], h, _, _ => by have := h.1; simp at this

theorem findNow_eq (hK : KeyT P kt κ) {k : TypeDesc} (hk : P.underlying kt = some k) {v : Value} : ∀ {l : List MapEntry} {n : Nat} {r : Option (Nat × Value)}, Instr.findNow k v l n = some r → ∀ w', (Instr.findAsking kt v l n).run P w' = .ok r w'
  | [], n, r, h, w' => by simp only [Instr.findNow, Option.some.injEq] at h; subst h; rfl
  | e :: l, n, r, h, w' => by
    simp only [Instr.findNow] at h
    split at h
    · rename_i hs
      have := hK.now k hk v e.key true hs w'
      simp only [Option.some.injEq] at h; subst h
      simp [Instr.findAsking, this]
    · rename_i hs
      have := hK.now k hk v e.key false hs w'
      have ih := findNow_eq hK hk h w'
      simp [Instr.findAsking, this, ih]
    · cases h
theorem run_find (hK : KeyT P kt κ) {F : FP} {w : World} {x : α} {v : Value} (hx : (sh κ x).h F w v) {l : List MapEntry} {d : List (α × β)} (h : Ents κ ν F w l d) (w' : World) :
    ∃ r, (Instr.findKey kt v l).run P w' = .ok r w' ∧ r.map (·.1) = mapIx d x ∧ ∀ i u, r = some (i, u) → ∃ e, l[i]? = some e ∧ e.val = u := by
  obtain ⟨r, r1, r2, r3⟩ := run_findAsking hK hx h 0 w'
  obtain ⟨k, hk⟩ := hK.und
  refine ⟨r, ?_, by simpa using r2, fun i u hr => by obtain ⟨e, _, q2, q3⟩ := r3 i u hr; exact ⟨e, by simpa using q2, q3⟩⟩
  unfold Instr.findKey
  simp only [Sem.run_bind, run_underlying hk, Result.andThen]
  cases hf : Instr.findNow k v l 0 with
  | none => exact r1
  | some r' =>
    have := findNow_eq hK hk hf w'
    rw [r1] at this
    simp only [Result.ok.injEq, and_true] at this
    subst this; rfl

/-- strings as keys -/
theorem keyT_str {kt : TypeId} (hu : P.underlying kt = some .string) : KeyT P kt rS where
  check := fun x F w v h e w' => by
    have hv : v = .string x := h
    subst hv
    exact MapKept.run_checkKey (n := 9999) hu (k := .string x) (show MapKept.IsKey .string (.string x) from trivial) e
  eq := fun x y F w u v h1 h2 w' => by
    have e1 : u = .string x := h1
    have e2 : v = .string y := h2
    subst e1; subst e2
    have := run_equalIn_string w' 9999 kt x y hu
    show (Op.equalIn 10000 kt (.string x) (.string y)).run P w' = _
    rw [this]
    rw [ba_beq]
  stay := fun x F w u v h1 h2 => by
    have e1 : u = .string x := h1
    have e2 : v = .string x := h2
    subst e1; subst e2
    exact MapKept.sameBits_self (d := .string) (k := .string x) (show MapKept.IsKey .string (.string x) from trivial) _
  now := fun k hk u v r h w' => by
    rw [hu] at hk; cases hk
    cases u <;> cases v <;> simp [Instr.sameNow] at h
    subst h
    rename_i a b
    have := run_equalIn_string w' 9999 kt a b hu
    show (Op.equalIn 10000 kt (.string a) (.string b)).run P w' = _
    rw [this, ba_beq]; congr 1
    rw [Bool.eq_iff_iff, MapKept.bytes_beq, decide_eq_true_iff]
  und := ⟨_, hu⟩

/-! ### operations -/
theorem s_mkmap (κ : Rep α) (ν : Rep β) {t : TypeId} : St P E N (.makeMap t none) ty Γ Ω [] (fun b : Nat => pv (.map (some b))) (fun b => Ω ++ [om κ ν b []]) := by
  intro a w hs
  refine opwp_val (v := .map (some w.heap.size)) (w' := w.alloc (.map #[] 0)) (fun o ho ht => ?_) ⟨w.heap.size, ?_, rfl, by simp, fun b hb _ => heap_alloc_lt w _ hb, own_add (by simp [om])⟩
  · have : (Instr.makeMap t none).run P w = .ok (.map (some w.heap.size)) (w.alloc (.map #[] 0)) := rfl
    simp [execOp, ho, this]
  · refine hs.add ⟨rfl, rfl, rfl, by first | exact fun _ => Nat.le_refl _ | exact fun _ => Nat.le_add_right _ _⟩ (by simp) (fun _ hb => heap_alloc_lt w _ hb) (fun b hb => ?_) (by simp [om]) ?_
    · rw [show b = w.heap.size from by simpa [om] using hb]; exact ⟨Nat.le_refl _, by simp⟩
    · exact ⟨#[], 0, heap_alloc_new' w _, ⟨rfl, by simp⟩, by simp, by simp⟩

theorem s_mput {t kt et : TypeId} {m k v : Operand} {b j : Nat} {d : List (α × β)} {x : α} {y : β} (hu : P.underlying t = some (.map kt et)) (hK : KeyT P kt κ) (hm : lkO Γ m = some (pv (.map (some b))))
    (hj : Ω[j]? = some (om κ ν b d)) (hk : lkO Γ k = some (sh κ x)) (hv : lkO Γ v = some (sh ν y)) : St P E N (.mapUpdate t m k v) ty Γ Ω [j] (fun _ : Unit => pv undef) (fun _ => Ω.set j (om κ ν b (mapPut d x y))) := by
  intro a w hs
  have h1 : a.eval m = .map (some b) := hs.op hm
  have h2 := hs.op hk
  have h3 := hs.op hv
  obtain ⟨es, clock, hb, hE, hB, hN⟩ := hs.objAt hj
  obtain ⟨r, r1, r2, r3⟩ := run_find hK h2 hE w
  have hck := hK.check x _ _ _ h2 false w
  have fin : ∀ es' clock', Ents κ ν (fr E Ω) w es'.toList (mapPut d x y) → (∀ e ∈ es'.toList, e.born < clock') → (es'.toList.map (·.born)).Nodup →
      ∃ x' : Unit, Sat E N Γ (Ω.set j (om κ ν b (mapPut d x y))) a { w with heap := w.heap.setIfInBounds b (.map es' clock') } ∧ (pv undef).h (fr E (Ω.set j (om κ ν b (mapPut d x y)))) { w with heap := w.heap.setIfInBounds b (.map es' clock') } undef ∧ Eff Ω (Ω.set j (om κ ν b (mapPut d x y))) [j] w { w with heap := w.heap.setIfInBounds b (.map es' clock') } := by
    intro es' clock' q1 q2 q3
    have hset := MapKept.heap_set (o' := .map es' clock') hb
    have hlt := size_of_get hb
    refine ⟨(), ?_, rfl, by simp, fun b' hb' hn' => hset.2 b' fun e => hn' j (by simp) _ hj (by rw [e]; simp [om]), own_set hj fun b hb => .inl hb⟩
    refine hs.upd hj ⟨rfl, rfl, rfl, by first | exact fun _ => Nat.le_refl _ | exact fun _ => Nat.le_add_right _ _⟩ (by simp) (fun b' _ hn' => hset.2 b' fun e => hn' (by rw [e]; simp [om])) (fun b' hb' => .inl hb') (by simp [om]) ?_
    have hag : Ag (fr E Ω) (fr E (Ω.set j (om κ ν b (mapPut d x y)))) w { w with heap := w.heap.setIfInBounds b (.map es' clock') } :=
      ⟨fun b' _ hf => fr_set hj hf fun hm => hf.2 (Sat.notin hj (b := b') hm), fun b' _ hf => hset.2 b' fun e => hf.2 (Sat.notin hj (b := b') (by rw [e]; simp [om]))⟩
    exact ⟨es', clock', hset.1, q1.mono hag, q2, q3⟩
  intro o hop ht
  cases hr : r with
  | none =>
    rw [hr] at r1 r2
    have hix : mapIx d x = none := by simpa using r2.symm
    have hrun : (execOp a.eval o).run P w = .ok .skip { w with heap := w.heap.setIfInBounds b (.map (es.push ⟨a.eval k, a.eval v, clock⟩) (clock + 1)) } := by
      simp [execOp, hop, h1, Instr.mapUpdate, run_underlying hu, MapKept.run_getObj_map hb, hck, r1, MapKept.run_setObj_map _ hb]
    rw [hrun]
    refine fin _ _ ?_ ?_ ?_
    · unfold mapPut; rw [hix]
      refine ⟨by simp [hE.1], fun i e p e1 e2 => ?_⟩
      rw [Array.toList_push] at e1
      have hl := hE.1
      rcases Nat.lt_or_ge i d.length with hlt | hge
      · rw [List.getElem?_append_left (by omega)] at e1
        rw [List.getElem?_append_left (by omega)] at e2
        exact hE.2 i e p e1 e2
      · rw [List.getElem?_append_right (by omega)] at e1
        rw [List.getElem?_append_right (by omega)] at e2
        rw [show i - es.toList.length = i - d.length by rw [hl]] at e1
        rcases Nat.eq_zero_or_pos (i - d.length) with h0 | h0
        · rw [h0] at e1 e2
          simp only [List.getElem?_cons_zero, Option.some.injEq] at e1 e2
          subst e1; subst e2
          exact ⟨h2, h3⟩
        · rw [List.getElem?_eq_none (by simp; omega)] at e2; cases e2
    · intro e he
      simp only [Array.toList_push, List.mem_append, List.mem_singleton] at he
      rcases he with he | rfl
      · have := hB e he; omega
      · exact Nat.lt_succ_self _
    · rw [Array.toList_push, List.map_append]
      refine List.nodup_append.2 ⟨hN, by simp, fun p hp q hq e => ?_⟩
      simp only [List.map_cons, List.map_nil, List.mem_singleton] at hq
      obtain ⟨e', he', rfl⟩ := List.mem_map.1 hp
      have := hB e' he'; omega
  | some iu =>
    obtain ⟨i, u⟩ := iu
    obtain ⟨e, he, rfl⟩ := r3 i u hr
    rw [hr] at r1 r2
    have hix : mapIx d x = some i := by simpa using r2.symm
    have hid : ∃ p, d[i]? = some p ∧ p.1 = x := by
      unfold mapIx at hix
      rw [List.findIdx?_eq_some_iff_getElem] at hix
      obtain ⟨hlt, hp, _⟩ := hix
      exact ⟨d[i], List.getElem?_eq_getElem hlt, of_decide_eq_true hp⟩
    obtain ⟨p, hp, rfl⟩ := hid
    have he2 : es[i]? = some e := by simpa using he
    have hst := hK.stay p.1 _ _ _ _ (hE.2 i e p he hp).1 h2
    have hrun : (execOp a.eval o).run P w = .ok .skip { w with heap := w.heap.setIfInBounds b (.map (es.modify i fun e => { e with key := a.eval k, val := a.eval v }) clock) } := by
      simp [execOp, hop, h1, Instr.mapUpdate, run_underlying hu, MapKept.run_getObj_map hb, hck, r1, MapKept.run_setObj_map _ hb, Instr.keyThatStays, he2, hst]
    rw [hrun]
    have hlt : i < es.toList.length := (List.getElem?_eq_some_iff.1 he).1
    have hml : (es.modify i fun e => { e with key := a.eval k, val := a.eval v }).toList = es.toList.set i { e with key := a.eval k, val := a.eval v } := by
      apply List.ext_getElem?
      intro n
      rw [Array.getElem?_toList, Array.getElem?_modify]
      by_cases c : i = n
      · subst c; rw [if_pos rfl, he2, List.getElem?_set_self hlt]; rfl
      · rw [if_neg c, List.getElem?_set_ne c, Array.getElem?_toList]
    refine fin _ _ ?_ ?_ ?_
    · unfold mapPut; rw [hix, hml]
      refine ⟨by simp [hE.1], fun n e' p' e1 e2 => ?_⟩
      by_cases c : i = n
      · subst c
        rw [List.getElem?_set_self hlt] at e1
        rw [List.getElem?_set_self (by rw [← hE.1]; exact hlt)] at e2
        simp only [Option.some.injEq] at e1 e2
        subst e1; subst e2
        exact ⟨h2, h3⟩
      · rw [List.getElem?_set_ne c] at e1
        rw [List.getElem?_set_ne c] at e2
        exact hE.2 n e' p' e1 e2
    · rw [hml]
      intro e' he'
      rcases List.mem_or_eq_of_mem_set he' with he' | rfl
      · exact hB e' he'
      · exact hB e (List.mem_of_getElem? he)
    · rw [hml, List.map_set]
      have : (es.toList.map (·.born)).set i e.born = es.toList.map (·.born) := by
        apply List.ext_getElem?
        intro n
        by_cases c : i = n
        · subst c; rw [List.getElem?_set_self (by simpa using hlt), List.getElem?_map, he]; rfl
        · rw [List.getElem?_set_ne c]
      rw [this]; exact hN

/-- v, ok := m[k] -/
theorem r_mget {t kt et : TypeId} {m k : Operand} {b j : Nat} {d : List (α × β)} {x : α} {z : β} (hu : P.underlying t = some (.map kt et)) (hK : KeyT P kt κ) (hz : ∃ zv, (∀ w, (zeroValue et).run P w = .ok zv w) ∧ ∀ F w, (sh ν z).h F w zv)
    (hm : lkO Γ m = some (pv (.map (some b)))) (hj : Ω[j]? = some (om κ ν b d)) (hk : lkO Γ k = some (sh κ x)) : Rd P E N (.lookup t m k true) ty Γ Ω [j] (tup [sh ν (mapGet d x z), bv (mapHas d x)]) := fun a w hs => by
  have h1 : a.eval m = .map (some b) := hs.op hm
  have h2 := hs.op hk
  obtain ⟨es, clock, hb, hE, _⟩ := hs.objAt hj
  obtain ⟨zv, z1, z2⟩ := hz
  obtain ⟨r, r1, r2, r3⟩ := run_find hK h2 hE w
  cases hr : r with
  | none =>
    rw [hr] at r2
    have hix : mapIx d x = none := by simpa using r2.symm
    refine ⟨.tuple #[zv, .bool false], [b], ⟨#[zv, .bool false], rfl, ?_, ?_, trivial⟩, ?_, fun w' hw' o ho _ => ?_⟩
    · unfold mapGet; rw [hix]; exact z2 _ _
    · unfold mapHas; rw [hix]; rfl
    · intro b' hb'; rw [List.mem_singleton.1 hb']; exact ⟨size_of_get hb, .inr ⟨j, by simp, _, hj, by simp [om]⟩⟩
    · have hb2 : w'.heap[b]? = some (.map es clock) := by rw [hw' b (by simp)]; exact hb
      obtain ⟨r', r1', r2', _⟩ := run_find hK h2 hE w'
      have : r' = none := by rw [hix] at r2'; simpa using r2'
      subst this
      simp [execOp, ho, h1, Instr.lookup, run_underlying hu, MapKept.run_getObj_map hb2, hK.check x _ _ _ h2, r1', z1]
  | some iu =>
    obtain ⟨i, u⟩ := iu
    obtain ⟨e, he, rfl⟩ := r3 i u hr
    rw [hr] at r2
    have hix : mapIx d x = some i := by simpa using r2.symm
    have hlt : i < d.length := by rw [← hE.1]; exact (List.getElem?_eq_some_iff.1 he).1
    refine ⟨.tuple #[e.val, .bool true], [b], ⟨#[e.val, .bool true], rfl, ?_, ?_, trivial⟩, ?_, fun w' hw' o ho _ => ?_⟩
    · have eg : mapGet d x z = d[i].2 := by unfold mapGet; rw [hix]; simp [hlt]
      rw [eg]
      exact (hE.2 i e d[i] he (List.getElem?_eq_getElem hlt)).2
    · unfold mapHas; rw [hix]; rfl
    · intro b' hb'; rw [List.mem_singleton.1 hb']; exact ⟨size_of_get hb, .inr ⟨j, by simp, _, hj, by simp [om]⟩⟩
    · have hb2 : w'.heap[b]? = some (.map es clock) := by rw [hw' b (by simp)]; exact hb
      obtain ⟨r', r1', r2', r3'⟩ := run_find hK h2 hE w'
      have : ∃ u', r' = some (i, u') := by
        rw [hix] at r2'
        cases r' with
        | none => simp at r2'
        | some q => simp at r2'; exact ⟨q.2, by rw [← r2']⟩
      obtain ⟨u', rfl⟩ := this
      obtain ⟨e', he', rfl⟩ := r3' i u' rfl
      rw [he] at he'; cases he'
      simp [execOp, ho, h1, Instr.lookup, run_underlying hu, MapKept.run_getObj_map hb2, hK.check x _ _ _ h2, r1']

/-! ### strings in their order -/
theorem r_sgeq {t yt : TypeId} {x y : Operand} {s u : ByteArray} (hx : lkO Γ x = some (sv s)) (hy : lkO Γ y = some (sv u)) : Rd P E N (.binOp .geq t x y yt) ty Γ Ω [] (bv (!Op.bytesLess s.toList u.toList)) :=
  str_of hx hy (fun _ _ => rfl) fun w => by simp [binOp, Op.stringOp]
end Go.Dc

/-! Arrays of numbers, however long, as variables. -/
namespace Go.Dc
variable [DrawMode]
variable {P : Program} {E : Env} {N : Nat} {Γ : List (Nat × RP)} {Ω : List OB} {ty : TypeId}

/-- an element of an array of n numbers -/
def vidxM (n : Nat) (d : List Int) (i : Int) : Option Int := if d.length = n then idxM d i else none
theorem vidx_len {n : Nat} {d : List Int} {i y : Int} (h : vidxM n d i = some y) : d.length = n := by
  unfold vidxM at h; split at h
  · assumption
  · cases h
theorem vidx_idx {n : Nat} {d : List Int} {i y : Int} (h : vidxM n d i = some y) : idxM d i = some y := by
  have hl := vidx_len h
  unfold vidxM at h; rwa [if_pos hl] at h
theorem map_iv (k : IntKind) (d : List Int) : d.map (iv k) = d.flatMap (rI k).cp := by
  induction d with
  | nil => rfl
  | cons x d ih => rw [List.map_cons, List.flatMap_cons, ih]; rfl
theorem r_vload {e : TypeId} {x : Operand} {b j : Nat} {k : IntKind} {d : List Int} {n : Int} {y : Int} (hy : idxM d n = some y) (hg : ∀ w, (isAgg e).run P w = .ok false w)
    (hx : lkO Γ x = some (pv (ptr b (0 + n.toNat)))) (hj : Ω[j]? = some (oc b (d.map (iv k)))) : Rd P E N (.load e x) ty Γ Ω [j] (iv k y) :=
  r_acload (ρ := rI k) (off := 0) hy hg hx hj (by rw [← map_iv, List.drop_zero, List.take_of_length_le (by simp)]) rfl rfl
theorem s_vstore {e : TypeId} {x v : Operand} {b j : Nat} {k : IntKind} {d : List Int} {n : Int} {y u : Int} (hy : idxM d n = some y) (hn : ∀ w, (Go.sizeOf e).run P w = .ok 1 w)
    (hx : lkO Γ x = some (pv (ptr b (0 + n.toNat)))) (hj : Ω[j]? = some (oc b (d.map (iv k)))) (hv : PartOk E N Γ Ω v [iv k u]) : St P E N (.store e x v) ty Γ Ω [j] (fun _ : Unit => pv undef) (fun _ => Ω.set j (oc b ((d.set n.toNat u).map (iv k)))) :=
  s_acstore (off := 0) hy hn hx hj hv (Nat.ble_eq_true_of_le (by simp)) fun i hi e => by
    subst e
    simp only [Int.toNat_natCast, Nat.zero_add]
    rw [List.map_set]
    have hlt : i < (d.map (iv k)).length := by simpa using hi
    rw [List.set_eq_take_append_cons_drop, if_pos hlt]
    simp

end Go.Dc

/-! A machine of plain data, that stands for code: values, objects, states, and what they say of the heap. -/
namespace Go.Dc

inductive Ty where
  | int (k : IntKind)
  | bool
  | str
  | sl (t : Ty)
  | op (t : Ty)
  | st (n : Nat)
  | mp (k v : Ty)
  | vec (k : IntKind)
  deriving DecidableEq

class SDen where
  den : Nat → Type

section
variable [SDen]
def Ty.den : Ty → Type
  | .int _ => Int
  | .bool => Bool
  | .str => ByteArray
  | .sl t => List t.den
  | .op t => Option t.den
  | .st n => SDen.den n
  | .mp k v => List (k.den × v.den)
  | .vec _ => List Int

structure Dyn where
  t : Ty
  d : t.den
end

theorem oea_at {α : Type} {ρ : Rep α} {o : Option α} : (oea ρ o).At := by
  intro F w v h
  cases o with
  | none => rw [show v = _ from h]; rfl
  | some x => obtain ⟨_, _, _, _, _, _, e, _⟩ := h; rw [e]; rfl
def rOp {α : Type} (ρ : Rep α) : Rep (Option α) := one (oea ρ) fun _ => oea_at

class SRep extends SDen where
  rep : (n : Nat) → Rep (SDen.den n)
  agg : ∀ n, (rep n).agg = true

variable [SRep]
def Ty.rep : (t : Ty) → Rep t.den
  | .int k => rI k
  | .bool => rB
  | .str => rS
  | .sl t => rSl t.rep
  | .op t => rOp t.rep
  | .st n => SRep.rep n
  | .mp k v => Dc.one (fun _ : List (k.den × v.den) => anyc) fun _ => fun h => h
  | .vec _ => Dc.one (fun _ : List Int => anyc) fun _ => fun h => h

/-- of one cell -/
def Ty.one : Ty → Bool
  | .st _ => false
  | _ => true

theorem Ty.one_agg {t : Ty} (h : t.one = true) : t.rep.agg = false := by
  cases t <;> first | rfl | cases h

/-- what is known of an entry: it stands in another one -/
inductive Src where
  | el (ds : Nat) (ix : Int)
  | fl (y fo : Nat)
  | ve (ds : Nat) (ix : Int)
  | vf (ds : Nat) (ix : Int) (off len : Nat)
structure Ent where
  t : Ty
  d : t.den
  src : Option Src

inductive Cap where
  | ptr (o h : Nat)
  | fn (f : Nat)
  | nilp
  deriving DecidableEq

def pjG (d : List Int) (j : Nat) : Option Int := d[j]?
inductive At where
  | vr (i : Nat)
  | ci (k : IntKind) (n : Int)
  | cb (b : Bool)
  | ck (s : ByteArray)
  | nl
  | own (o h : Nat)
  | ptr (o h off : Nat)
  | mp (o h : Nat)
  | fn (f : Nat) (cs : List Cap)
  | nilf
  | nilp
  | ea (i : Nat)
  | fu (i : Nat)
  | oea (o h y : Nat)
  | oef (o h z : Nat)
  | pj (i j : Nat)
  | vs (o h off i c : Nat)
  | sb (o h a b sz : Nat)
  | junk

inductive Sh where
  | undef
  | vl (g : Bool) (l : List At)
  | tup (l : List (Bool × List At))

inductive MO where
  | dead
  | oa (h i : Nat)
  | oc (h : Nat) (l : List At)

structure Hd where
  hv : Value
  S : List Nat
  b : Nat
  one : hv.oneCell' = true

def lkE : List (Nat × Ent) → Nat → Option Ent
  | [], _ => none
  | (k, e) :: r, i => bif Nat.beq k i then some e else lkE r i

def RP.no : RP := ⟨fun _ _ _ => False, fun _ h => h⟩
def OB.no : OB := ⟨[], fun _ _ => False, fun _ _ h => h⟩

/-- entries and handles -/
structure Cx where
  n : Nat
  env : List (Nat × Ent)
  η : Nat → Hd

def Cap.ok (n : Nat) : Cap → Bool
  | .ptr _ h => Nat.blt h n
  | _ => true
def Cap.val (η : Nat → Hd) : Cap → Value
  | .ptr _ h => Dc.ptr (η h).b 0
  | .fn f => .func (.func f) #[] #[]
  | .nilp => .pointer none

def At.rp (c : Cx) : At → RP
  | .vr i => match lkE c.env i with
    | some e => bif e.t.one then sh e.t.rep e.d else RP.no
    | none => RP.no
  | .ci k n => iv k n
  | .cb b => bv b
  | .ck s => sv s
  | .nl => pv (.slice none 0 0)
  | .own _ h => bif Nat.blt h c.n then pv (c.η h).hv else RP.no
  | .ptr _ h off => bif Nat.blt h c.n then pv (Dc.ptr (c.η h).b off) else RP.no
  | .mp _ h => bif Nat.blt h c.n then pv (.map (some (c.η h).b)) else RP.no
  | .fn f cs => bif cs.all (Cap.ok c.n) then pv (.func (.func f) #[] (cs.map (Cap.val c.η)).toArray) else RP.no
  | .nilf => pv .nilFunc
  | .nilp => pv (.pointer none)
  | .ea i => match lkE c.env i with
    | some e => Dc.ea e.t.rep e.d
    | none => RP.no
  | .fu i => match lkE c.env i with
    | some ⟨.sl t, d, _⟩ => slf t.rep d
    | _ => RP.no
  | .oea _ h y => match lkE c.env y with
    | some ⟨t, _, some (.el _ ix)⟩ => bif Nat.blt h c.n then pv (elA (c.η h).hv t.rep.size ix) else RP.no
    | some ⟨_, _, some (.ve _ ix)⟩ => bif Nat.blt h c.n then pv (Dc.ptr (c.η h).b (0 + ix.toNat)) else RP.no
    | some ⟨_, _, some (.vf _ ix off _)⟩ => bif Nat.blt h c.n then pv (Dc.ptr (c.η h).b (off + ix.toNat)) else RP.no
    | _ => RP.no
  | .oef _ h z => match lkE c.env z with
    | some ⟨_, _, some (.fl y fo)⟩ => (match lkE c.env y with
      | some ⟨t, _, some (.el _ ix)⟩ => bif Nat.blt h c.n then pv (elF (c.η h).hv t.rep.size ix fo) else RP.no
      | _ => RP.no)
    | _ => RP.no
  | .pj i j => match lkE c.env i with
    | some ⟨.vec k, d, _⟩ => (match pjG d j with
      | some x => iv k x
      | none => RP.no)
    | _ => RP.no
  | .vs _ h off i cp => match lkE c.env i with
    | some ⟨.int _, l, _⟩ => bif Nat.blt h c.n then pv (.slice (some ⟨(c.η h).b, off, none⟩) (Int.toNat l) cp) else RP.no
    | _ => RP.no
  | .sb _ h a b sz => match lkE c.env a, lkE c.env b with
    | some ⟨.int _, l, _⟩, some ⟨.int _, m, _⟩ => bif Nat.blt h c.n then pv (subV (c.η h).hv sz (Int.toNat l) (Int.toNat m)) else RP.no
    | _, _ => RP.no
  | .junk => anyc

def vrp (c : Cx) (g : Bool) (l : List At) : RP := bif g then ag (l.map (At.rp c)) else (l.map (At.rp c)).headD RP.no

def Sh.rp (c : Cx) : Sh → RP
  | .undef => pv Go.undef
  | .vl g l => vrp c g l
  | .tup l => Dc.tup (l.map (fun x => vrp c x.1 x.2))

def Ent.asSl (e : Ent) : Option ((t : Ty) × List t.den) :=
  match e with
  | ⟨.sl t, d, _⟩ => some ⟨t, d⟩
  | _ => none

/-- the object of data: a slice of ours, or a map -/
def Dyn.ob (D : Dyn) (h : Hd) : OB := match D with
  | ⟨.sl t, d⟩ => Dc.oa t.rep h.hv h.S d
  | ⟨.mp k v, d⟩ => Dc.om k.rep v.rep h.b d
  | ⟨.vec k, d⟩ => Dc.oc h.b (List.map (iv k) d)
  | _ => OB.no

def MO.ob (c : Cx) : MO → OB
  | .dead => Dc.dead
  | .oa h i => match lkE c.env i with
    | some e => bif Nat.blt h c.n then Dyn.ob ⟨e.t, e.d⟩ (c.η h) else OB.no
    | none => OB.no
  | .oc h l => bif Nat.blt h c.n then Dc.oc (c.η h).b (l.map (At.rp c)) else OB.no

structure Ext (c c' : Cx) : Prop where
  n : c.n ≤ c'.n
  env : ∀ i e, lkE c.env i = some e → lkE c'.env i = some e
  η : ∀ h, h < c.n → c'.η h = c.η h

theorem Ext.refl (c : Cx) : Ext c c := ⟨Nat.le_refl _, fun _ _ h => h, fun _ _ => rfl⟩
theorem Ext.trans {a b c : Cx} (h : Ext a b) (k : Ext b c) : Ext a c :=
  ⟨Nat.le_trans h.n k.n, fun i e he => k.env i e (h.env i e he), fun x hx => (k.η x (Nat.lt_of_lt_of_le hx h.n)).trans (h.η x hx)⟩

theorem blt_mono {h n m : Nat} (hb : Nat.blt h n = true) (hm : n ≤ m) : Nat.blt h m = true := by
  simp only [Nat.blt_eq] at hb ⊢; omega

/-- what holds of a value goes on to say the same -/
theorem At.rp_eq {c c' : Cx} (hx : Ext c c') {a : At} {F : FP} {w : World} {v : Value} (h : (a.rp c).h F w v) : a.rp c' = a.rp c := by
  have hno : ∀ {F : FP} {w : World} {v : Value}, RP.no.h F w v → False := fun h => h
  cases a with
  | vr i =>
    simp only [At.rp] at h ⊢
    cases he : lkE c.env i with
    | none => rw [he] at h; exact h.elim
    | some e => rw [hx.env i e he]
  | ea i =>
    simp only [At.rp] at h ⊢
    cases he : lkE c.env i with
    | none => rw [he] at h; exact h.elim
    | some e => rw [hx.env i e he]
  | fu i =>
    simp only [At.rp] at h ⊢
    cases he : lkE c.env i with
    | none => rw [he] at h; exact h.elim
    | some e => rw [hx.env i e he]
  | own o k =>
    simp only [At.rp] at h ⊢
    cases hb : Nat.blt k c.n with
    | false => rw [hb] at h; exact h.elim
    | true => rw [blt_mono hb hx.n, hx.η k (by simpa [Nat.blt_eq] using hb)]
  | ptr o k off =>
    simp only [At.rp] at h ⊢
    cases hb : Nat.blt k c.n with
    | false => rw [hb] at h; exact h.elim
    | true => rw [blt_mono hb hx.n, hx.η k (by simpa [Nat.blt_eq] using hb)]
  | mp o k =>
    simp only [At.rp] at h ⊢
    cases hb : Nat.blt k c.n with
    | false => rw [hb] at h; exact h.elim
    | true => rw [blt_mono hb hx.n, hx.η k (by simpa [Nat.blt_eq] using hb)]
  | fn f cs =>
    simp only [At.rp] at h ⊢
    cases hb : cs.all (Cap.ok c.n) with
    | false => rw [hb] at h; exact h.elim
    | true =>
      have h1 : ∀ x ∈ cs, Cap.ok c.n x = true := List.all_eq_true.1 hb
      have h2 : cs.all (Cap.ok c'.n) = true := List.all_eq_true.2 fun x hx' => by
        have := h1 x hx'
        cases x with
        | ptr o k => exact blt_mono this hx.n
        | _ => rfl
      have h3 : cs.map (Cap.val c'.η) = cs.map (Cap.val c.η) := List.map_congr_left fun x hx' => by
        have := h1 x hx'
        cases x with
        | ptr o k => simp only [Cap.val]; rw [hx.η k (by simpa [Cap.ok, Nat.blt_eq] using this)]
        | _ => rfl
      rw [h2, h3]
  | oea o k y =>
    simp only [At.rp] at h ⊢
    split at h
    · rename_i t d ds ix he
      rw [hx.env y _ he]
      simp only
      cases hb : Nat.blt k c.n with
      | false => rw [hb] at h; exact h.elim
      | true => rw [blt_mono hb hx.n, hx.η k (by simpa [Nat.blt_eq] using hb)]
    · rename_i t d ds ix he
      rw [hx.env y _ he]
      simp only
      cases hb : Nat.blt k c.n with
      | false => rw [hb] at h; exact h.elim
      | true => rw [blt_mono hb hx.n, hx.η k (by simpa [Nat.blt_eq] using hb)]
    · rename_i t d ds ix off ln he
      rw [hx.env y _ he]
      simp only
      cases hb : Nat.blt k c.n with
      | false => rw [hb] at h; exact h.elim
      | true => rw [blt_mono hb hx.n, hx.η k (by simpa [Nat.blt_eq] using hb)]
    · exact h.elim
  | pj i j =>
    simp only [At.rp] at h ⊢
    cases he : lkE c.env i with
    | none => rw [he] at h; exact h.elim
    | some e => rw [hx.env i e he]
  | vs o k off i cp =>
    simp only [At.rp] at h ⊢
    split at h
    · rename_i kd l s he
      rw [hx.env i _ he]
      simp only
      cases hb : Nat.blt k c.n with
      | false => rw [hb] at h; exact h.elim
      | true => rw [blt_mono hb hx.n, hx.η k (by simpa [Nat.blt_eq] using hb)]
    · exact h.elim
  | sb o k a b sz =>
    simp only [At.rp] at h ⊢
    split at h
    · rename_i k1 l1 s1 k2 l2 s2 he1 he2
      rw [hx.env a _ he1, hx.env b _ he2]
      simp only
      cases hb : Nat.blt k c.n with
      | false => rw [hb] at h; exact h.elim
      | true => rw [blt_mono hb hx.n, hx.η k (by simpa [Nat.blt_eq] using hb)]
    · exact h.elim
  | oef o k z =>
    simp only [At.rp] at h ⊢
    split at h
    · rename_i t d y fo he
      rw [hx.env z _ he]
      simp only
      split at h
      · rename_i t2 d2 ds ix he2
        rw [hx.env y _ he2]
        simp only
        cases hb : Nat.blt k c.n with
        | false => rw [hb] at h; exact h.elim
        | true => rw [blt_mono hb hx.n, hx.η k (by simpa [Nat.blt_eq] using hb)]
      · exact h.elim
    · exact h.elim
  | _ => rfl

theorem atl_eq {c c' : Cx} (hx : Ext c c') {F : FP} {w : World} : ∀ {l : List At} {vs : List Value}, AllP F w (l.map (At.rp c)) vs → l.map (At.rp c') = l.map (At.rp c)
  | [], _, _ => rfl
  | a :: l, v :: vs, ⟨h1, h2⟩ => by rw [List.map_cons, List.map_cons, At.rp_eq hx h1, atl_eq hx h2]
  | _ :: _, [], h => h.elim

theorem vrp_eq {c c' : Cx} (hx : Ext c c') {g : Bool} {l : List At} {F : FP} {w : World} {v : Value} (h : (vrp c g l).h F w v) : vrp c' g l = vrp c g l := by
  unfold vrp at h ⊢
  cases g with
  | true => obtain ⟨cs, _, h⟩ := h; simp only [cond_true]; rw [atl_eq hx h]
  | false =>
    cases l with
    | nil => rfl
    | cons a l => exact At.rp_eq hx h

theorem vrpl_eq {c c' : Cx} (hx : Ext c c') {F : FP} {w : World} : ∀ {l : List (Bool × List At)} {vs : List Value}, AllP F w (l.map (fun x => vrp c x.1 x.2)) vs → (l.map fun x => vrp c' x.1 x.2) = l.map fun x => vrp c x.1 x.2
  | [], _, _ => rfl
  | a :: l, v :: vs, ⟨h1, h2⟩ => by rw [List.map_cons, List.map_cons, vrp_eq hx h1, vrpl_eq hx h2]
  | _ :: _, [], h => h.elim

theorem Sh.rp_eq {c c' : Cx} (hx : Ext c c') {s : Sh} {F : FP} {w : World} {v : Value} (h : (s.rp c).h F w v) : s.rp c' = s.rp c := by
  cases s with
  | undef => rfl
  | vl g l => exact vrp_eq hx h
  | tup l => obtain ⟨cs, _, h⟩ := h; simp only [Sh.rp]; rw [vrpl_eq hx h]

theorem MO.ob_eq {c c' : Cx} (hx : Ext c c') {o : MO} {F : FP} {w : World} (h : (o.ob c).h F w) : o.ob c' = o.ob c := by
  cases o with
  | dead => rfl
  | oa k i =>
    simp only [MO.ob] at h ⊢
    cases he : lkE c.env i with
    | none => rw [he] at h; exact h.elim
    | some e =>
      rw [hx.env i e he]; rw [he] at h
      simp only at h ⊢
      cases hb : Nat.blt k c.n with
      | false => rw [hb] at h; exact h.elim
      | true => rw [blt_mono hb hx.n, hx.η k (by simpa [Nat.blt_eq] using hb)]
  | oc k l =>
    simp only [MO.ob] at h ⊢
    cases hb : Nat.blt k c.n with
    | false => rw [hb] at h; exact h.elim
    | true =>
      rw [hb] at h
      rw [blt_mono hb hx.n, hx.η k (by simpa [Nat.blt_eq] using hb)]
      obtain ⟨cells, ty, _, hl⟩ := h
      rw [atl_eq hx hl]

/-! ### states -/
structure MSt where
  n : Nat
  env : List (Nat × Ent)
  G : List (Nat × Sh)
  O : List MO

def MSt.cx (s : MSt) (η : Nat → Hd) : Cx := ⟨s.n, s.env, η⟩
def gma (c : Cx) (G : List (Nat × Sh)) : List (Nat × RP) := G.map fun x => (x.1, x.2.rp c)
def oma (c : Cx) (O : List MO) : List OB := O.map (MO.ob c)

def lkG : List (Nat × Sh) → Nat → Option Sh
  | [], _ => none
  | (t, s) :: r, i => bif Nat.beq t i then some s else lkG r i

theorem lk_gma {c : Cx} {G : List (Nat × Sh)} {t : Nat} : lk (gma c G) t = (lkG G t).map (Sh.rp c) := by
  induction G with
  | nil => rfl
  | cons x r ih =>
    obtain ⟨s, v⟩ := x
    simp only [gma, List.map_cons, lk, lkG]
    cases Nat.beq s t with
    | true => rfl
    | false => exact ih

/-- what is known of entries -/
def SrcOk (env : List (Nat × Ent)) (e : Ent) : Prop := match e.src with
  | none => True
  | some (.el ds ix) => ∃ (l : List e.t.den) (s : Option Src), lkE env ds = some ⟨.sl e.t, l, s⟩ ∧ idxM l ix = some e.d
  | some (.fl y fo) => ∃ ey : Ent, lkE env y = some ey ∧ ((ey.t.rep.cp ey.d).drop fo).take e.t.rep.size = e.t.rep.cp e.d ∧ fo + e.t.rep.size ≤ ey.t.rep.size
  | some (.ve ds ix) => ∃ (k : IntKind) (l : List Int) (s : Option Src) (y : Int), lkE env ds = some ⟨.vec k, l, s⟩ ∧ idxM l ix = some y ∧ e = ⟨.int k, y, some (.ve ds ix)⟩
  | some (.vf ds ix off len) => ∃ (k : IntKind) (l : List Int) (s : Option Src) (y : Int), lkE env ds = some ⟨.vec k, l, s⟩ ∧ idxM l ix = some y ∧ ix < (len : Int) ∧ e = ⟨.int k, y, some (.vf ds ix off len)⟩

structure WF (n : Nat) (env : List (Nat × Ent)) : Prop where
  lt : ∀ i e, lkE env i = some e → i < n
  src : ∀ i e, lkE env i = some e → SrcOk env e

variable [DrawMode] {R : Type} {P : Program} {E : Env} {N : Nat} {K : KT R} {m : Option R}

theorem Sat.mext {c c' : Cx} {G : List (Nat × Sh)} {O : List MO} {a : Act} {w : World} (hs : Sat E N (gma c G) (oma c O) a w) (hx : Ext c c') : Sat E N (gma c' G) (oma c' O) a w := by
  have hO : oma c' O = oma c O := List.map_congr_left fun o ho => MO.ob_eq hx (hs.ob _ (List.mem_map_of_mem ho))
  rw [hO]
  refine hs.weak fun t φ h => ?_
  rw [lk_gma] at h ⊢
  cases hg : lkG G t with
  | none => rw [hg] at h; cases h
  | some s =>
    rw [hg] at h; cases h
    have h1 := hs.sl t (s.rp c) (by rw [lk_gma, hg]; rfl)
    rw [Sh.rp_eq hx h1]; rfl

end Go.Dc

/-! What an operation asks, and what it comes to. -/
namespace Go.Dc
variable [SRep] [DrawMode] {R : Type} {P : Program} {E : Env} {N : Nat} {K : KT R} {m : Option R} {op : Op} {ty : TypeId} {n : Nat} {env : List (Nat × Ent)} {G : List (Nat × Sh)} {O : List MO}

inductive Ask (α : Type) : Type 1 where
  | ret (a : α)
  | bind {β : Type} (m : Option β) (k : β → Ask α)
  | cond (b : Bool) (x y : Ask α)
  | fail

def Ask.run {α : Type} : Ask α → (α → Option R) → Option R
  | .ret a, c => c a
  | .bind m k, c => Option.bind m fun b => (k b).run c
  | .cond b x y, c => bif b then x.run c else y.run c
  | .fail, _ => none

def AskOk {α : Type} (Q : α → Prop) : Ask α → Prop
  | .ret a => Q a
  | .bind m k => ∀ b, m = some b → AskOk Q (k b)
  | .cond b x y => (b = true → AskOk Q x) ∧ (b = false → AskOk Q y)
  | .fail => True

theorem ref_ask {α : Type} {Q : α → Prop} {Φ : R → Prop} {c : α → Option R} : ∀ {r : Ask α}, AskOk Q r → (∀ a, Q a → RefG (c a) Φ) → RefG (r.run c) Φ
  | .ret a, h, hc => hc a h
  | .bind m k, h, hc => pull fun b hb => ref_ask (h b hb) hc
  | .cond true x y, h, hc => ref_ask (r := x) (h.1 rfl) hc
  | .cond false x y, h, hc => ref_ask (r := y) (h.2 rfl) hc
  | .fail, _, _ => fun r hr => by cases hr

theorem AskOk.mono {α : Type} {Q Q' : α → Prop} (hq : ∀ a, Q a → Q' a) : ∀ {r : Ask α}, AskOk Q r → AskOk Q' r
  | .ret a, h => hq a h
  | .bind m k, h => fun b hb => (h b hb).mono hq
  | .cond _ _ _, h => ⟨fun e => (h.1 e).mono hq, fun e => (h.2 e).mono hq⟩
  | .fail, _ => trivial

/-- a partial function as_ a question that is not asked -/
def Ask.of {α β : Type} (x : Option β) (k : β → Ask α) : Ask α := match x with
  | some b => k b
  | none => .fail
theorem AskOk.of {α β : Type} {Q : α → Prop} {x : Option β} {k : β → Ask α} (h : ∀ b, x = some b → AskOk Q (k b)) : AskOk Q (Ask.of x k) := by
  cases x with
  | none => trivial
  | some b => exact h b rfl
def Ask.when {α : Type} (b : Bool) (k : Ask α) : Ask α := bif b then k else .fail
theorem AskOk.when {α : Type} {Q : α → Prop} {b : Bool} {k : Ask α} (h : b = true → AskOk Q k) : AskOk Q (Ask.when b k) := by
  cases b with
  | false => trivial
  | true => exact h rfl

/-- what an operation comes to: its value, new entries, how many new handles, objects that change, new objects -/
structure OpR where
  val : Sh
  add : List Ent
  nh : Nat
  upd : List (Nat × MO)
  new : List MO

def keyed : Nat → List Ent → List (Nat × Ent) → List (Nat × Ent)
  | _, [], env => env
  | n, e :: es, env => keyed (n + 1) es ((n, e) :: env)
def updO : List (Nat × MO) → List MO → List MO
  | [], O => O
  | (j, o) :: r, O => updO r (O.set j o)

def OpR.n' (r : OpR) (n : Nat) : Nat := n + r.add.length + r.nh
def OpR.env' (r : OpR) (n : Nat) (env : List (Nat × Ent)) : List (Nat × Ent) := keyed n r.add env
def OpR.O' (r : OpR) (O : List MO) : List MO := updO r.upd O ++ r.new
def OpR.cx' (r : OpR) (n : Nat) (env : List (Nat × Ent)) (η : Nat → Hd) : Cx := ⟨r.n' n, r.env' n env, η⟩

theorem lkE_cons {n i : Nat} {e : Ent} {env : List (Nat × Ent)} : lkE ((n, e) :: env) i = if i = n then some e else lkE env i := by
  simp only [lkE]
  by_cases h : i = n
  · subst h; simp
  · rw [beq_ne (Ne.symm h), if_neg h]; rfl

theorem SrcOk.mono {env env' : List (Nat × Ent)} (h : ∀ i e, lkE env i = some e → lkE env' i = some e) {x : Ent} (hx : SrcOk env x) : SrcOk env' x := by
  unfold SrcOk at hx ⊢
  split
  · trivial
  · rename_i ds ix he
    rw [he] at hx
    obtain ⟨l, s, h1, h2⟩ := hx
    exact ⟨l, s, h _ _ h1, h2⟩
  · rename_i y fo he
    rw [he] at hx
    obtain ⟨ey, h1, h2⟩ := hx
    exact ⟨ey, h _ _ h1, h2⟩
  · rename_i ds ix he
    rw [he] at hx
    obtain ⟨k, l, s, y, h1, h2, h3⟩ := hx
    exact ⟨k, l, s, y, h _ _ h1, h2, h3⟩
  · rename_i ds ix off ln he
    rw [he] at hx
    obtain ⟨k, l, s, y, h1, h2, h3, h4⟩ := hx
    exact ⟨k, l, s, y, h _ _ h1, h2, h3, h4⟩
theorem SrcOk.none {env : List (Nat × Ent)} {e : Ent} (h : e.src = Option.none) : SrcOk env e := by unfold SrcOk; rw [h]; trivial

theorem WF.cons (h : WF n env) {e : Ent} (he : SrcOk env e) : WF (n + 1) ((n, e) :: env) := by
  have hold : ∀ i x, lkE env i = some x → lkE ((n, e) :: env) i = some x := fun i x hx => by
    have := h.lt i x hx
    rw [lkE_cons, if_neg (by omega)]; exact hx
  have hup : ∀ {x : Ent}, SrcOk env x → SrcOk ((n, e) :: env) x := fun {x} hx => hx.mono hold
  refine ⟨fun i x hi => ?_, fun i x hi => ?_⟩
  · rw [lkE_cons] at hi
    by_cases e1 : i = n
    · omega
    · rw [if_neg e1] at hi; have := h.lt i x hi; omega
  · rw [lkE_cons] at hi
    by_cases e1 : i = n
    · rw [if_pos e1] at hi; cases hi; exact hup he
    · rw [if_neg e1] at hi; exact hup (h.src i x hi)

theorem WF.le (h : WF n env) {n' : Nat} (hn : n ≤ n') : WF n' env := ⟨fun i e he => Nat.lt_of_lt_of_le (h.lt i e he) hn, h.src⟩

theorem keyed_ok : ∀ {es : List Ent} {n : Nat} {env : List (Nat × Ent)}, WF n env → (∀ e ∈ es, SrcOk env e) → WF (n + es.length) (keyed n es env) ∧ ∀ i x, lkE env i = some x → lkE (keyed n es env) i = some x
  | [], n, env, h, _ => ⟨h, fun _ _ h => h⟩
  | e :: es, n, env, h, he => by
    have hold : ∀ i x, lkE env i = some x → lkE ((n, e) :: env) i = some x := fun i x hx => by
      have := h.lt i x hx
      rw [lkE_cons, if_neg (by omega)]; exact hx
    obtain ⟨h1, h2⟩ := keyed_ok (es := es) (h.cons (he e (by simp))) (fun x hx => (he x (by simp [hx])).mono hold)
    refine ⟨?_, fun i x hx => h2 i x (hold i x hx)⟩
    rw [show n + (e :: es).length = n + 1 + es.length from by simp; omega]
    exact h1

/-- entries that do not hang on others -/
def noSrc (es : List Ent) : Prop := ∀ e ∈ es, e.src = none
theorem noSrc.ok {es : List Ent} (h : noSrc es) : ∀ e ∈ es, SrcOk env e := fun e he => .none (h e he)

abbrev Agr (n : Nat) (η : Nat → Hd) := { η' : Nat → Hd // ∀ h, h < n → η' h = η h }

/-- operations that only look -/
def isQuiet : Op → Bool
  | .move _ => true
  | .pick _ _ _ => true
  | .build _ _ => true
  | .load _ _ => true
  | .nilCheck _ => true
  | .binOp _ _ _ _ _ => true
  | .unOp _ _ _ => true
  | .convert _ _ _ => true
  | .makeFunc _ _ _ => true
  | .slice _ _ _ _ _ => true
  | .fieldAddr _ _ _ => true
  | .field _ _ _ => true
  | .indexAddr _ _ _ => true
  | .index _ _ _ => true
  | .extract _ _ => true
  | .lookup _ _ _ _ => true
  | .call ⟨.builtin .len, _, _⟩ => true
  | .call ⟨.builtin .min, _, _⟩ => true
  | .call ⟨.builtin .max, _, _⟩ => true
  | _ => false
/-- the place an address stands for -/
def addrO : Option Sh → List Nat
  | some (.vl false [.ptr o _ _]) => [o]
  | some (.vl false [.oea o _ _]) => [o]
  | some (.vl false [.oef o _ _]) => [o]
  | some (.vl false [.mp o _]) => [o]
  | _ => []
def readO (G : List (Nat × Sh)) : Op → List Nat
  | .load _ (.tmp t) => addrO (lkG G t)
  | .lookup _ (.tmp t) _ _ => addrO (lkG G t)
  | _ => []

theorem Rd.mono {Γ : List (Nat × RP)} {Ω : List OB} {J J' : List Nat} {φ : RP} (h : Rd P E N op ty Γ Ω J φ) (hJ : ∀ j ∈ J, j ∈ J') : Rd P E N op ty Γ Ω J' φ := fun a w hs => by
  obtain ⟨v, B, h1, h2, h3⟩ := h a w hs
  exact ⟨v, B, h1, fun b hb => ⟨(h2 b hb).1, (h2 b hb).2.imp id fun ⟨j, hj, h⟩ => ⟨j, hJ j hj, h⟩⟩, h3⟩

/-- the operation comes to r -/
structure OpOk (P : Program) (E : Env) (N : Nat) (op : Op) (ty : TypeId) (n : Nat) (env : List (Nat × Ent)) (G : List (Nat × Sh)) (O : List MO) (r : OpR) : Prop where
  src : ∀ e ∈ r.add, SrcOk env e
  rd : isQuiet op = true → r.upd = [] → r.new = [] → r.nh = 0 → ∀ η, Rd P E N op ty (gma ⟨n, env, η⟩ G) (oma ⟨n, env, η⟩ O) (readO G op) (r.val.rp (r.cx' n env η))
  st : ∀ η, St P E N op ty (gma ⟨n, env, η⟩ G) (oma ⟨n, env, η⟩ O) (r.upd.map (·.1)) (fun x : Agr n η => r.val.rp (r.cx' n env x.1)) (fun x => oma (r.cx' n env x.1) (r.O' O))

theorem OpOk.ext {r : OpR} (hw : WF n env) (h : ∀ e ∈ r.add, SrcOk env e) {η : Nat → Hd} (x : Agr n η) : Ext ⟨n, env, η⟩ (r.cx' n env x.1) :=
  ⟨by simp only [OpR.cx', OpR.n']; omega, fun i e he => (keyed_ok hw h).2 i e he, x.2⟩
theorem OpR.wf {r : OpR} (hw : WF n env) (h : ∀ e ∈ r.add, SrcOk env e) : WF (r.n' n) (r.env' n env) :=
  (keyed_ok hw h).1.le (by simp only [OpR.n']; omega)

theorem oma_good {c c' : Cx} (hx : Ext c c') {O : List MO} {Γ : List (Nat × RP)} {a : Act} {w : World} (hs : Sat E N Γ (oma c O) a w) : oma c' O = oma c O :=
  List.map_congr_left fun o ho => MO.ob_eq hx (hs.ob _ (List.mem_map_of_mem ho))

theorem oma_set {c c' : Cx} (hx : Ext c c') {O : List MO} {Γ : List (Nat × RP)} {a : Act} {w : World} {j : Nat} {mo : MO} {o : OB} (hmo : mo.ob c' = o) (hs : Sat E N Γ ((oma c O).set j o) a w) :
    oma c' (O.set j mo) = (oma c O).set j o := by
  refine List.ext_getElem? fun i => ?_
  unfold oma
  by_cases e : j = i
  · subst e
    by_cases hlt : j < O.length
    · rw [List.getElem?_map, List.getElem?_set_self hlt, List.getElem?_set_self (by simpa using hlt), Option.map_some, hmo]
    · rw [List.getElem?_eq_none (by simp; omega), List.getElem?_eq_none (by simp; omega)]
  · rw [List.getElem?_map, List.getElem?_set_ne e, List.getElem?_set_ne e, List.getElem?_map]
    cases ho : O[i]? with
    | none => rfl
    | some q =>
      simp only [Option.map_some]
      have hq : (((oma c O).set j o))[i]? = some (q.ob c) := by rw [List.getElem?_set_ne e]; simp [oma, ho]
      rw [MO.ob_eq hx (hs.ob _ (List.mem_of_getElem? hq))]

theorem oma_add {c c' : Cx} (hx : Ext c c') {O : List MO} {Γ : List (Nat × RP)} {a : Act} {w : World} {mo : MO} {o : OB} (hmo : mo.ob c' = o) (hs : Sat E N Γ (oma c O ++ [o]) a w) :
    oma c' (O ++ [mo]) = oma c O ++ [o] := by
  have h1 : oma c' O = oma c O := List.map_congr_left fun q hq => MO.ob_eq hx (hs.ob _ (List.mem_append_left _ (List.mem_map_of_mem hq)))
  unfold oma at h1 ⊢
  rw [List.map_append, h1]; simp [hmo]

theorem St.to' {X Y : Type} {Γ : List (Nat × RP)} {Ω : List OB} {js : List Nat} {φ : X → RP} {Ω' : X → List OB} {ψ : Y → RP} {Ω2 : Y → List OB} (h : St P E N op ty Γ Ω js φ Ω')
    (hy : ∀ x a w, Sat E N Γ (Ω' x) a w → ∃ y, Ω2 y = Ω' x ∧ ψ y = φ x) : St P E N op ty Γ Ω js ψ Ω2 := by
  intro a w hs o ho ht
  refine (h a w hs o ho ht).mono ?_
  rintro v w' ⟨x, h1, h2, h3⟩
  obtain ⟨y, e1, e2⟩ := hy x a w' h1
  exact ⟨y, by rw [e1]; exact h1, by rw [e1, e2]; exact h2, by rw [e1]; exact h3⟩

/-- an operation that only looks -/
theorem OpOk.rdJ (hw : WF n env) {val : Sh} {add : List Ent} (hs : ∀ e ∈ add, SrcOk env e) {J : List Nat} (hJ : ∀ j ∈ J, j ∈ readO G op) (h : ∀ η, Rd P E N op ty (gma ⟨n, env, η⟩ G) (oma ⟨n, env, η⟩ O) J (val.rp ⟨n + add.length, keyed n add env, η⟩)) :
    OpOk P E N op ty n env G O ⟨val, add, 0, [], []⟩ := by
  refine ⟨hs, fun _ _ _ _ η => (h η).mono hJ, fun η => (St.ofRd (h η)).to' fun _ a w hsat => ⟨⟨η, fun _ _ => rfl⟩, ?_, rfl⟩⟩
  simp only [OpR.O', updO, List.append_nil]
  exact oma_good (OpOk.ext hw (r := ⟨val, add, 0, [], []⟩) hs ⟨η, fun _ _ => rfl⟩) hsat
theorem OpOk.rd' (hw : WF n env) {val : Sh} {add : List Ent} (hs : ∀ e ∈ add, SrcOk env e) (h : ∀ η, Rd P E N op ty (gma ⟨n, env, η⟩ G) (oma ⟨n, env, η⟩ O) [] (val.rp ⟨n + add.length, keyed n add env, η⟩)) :
    OpOk P E N op ty n env G O ⟨val, add, 0, [], []⟩ := OpOk.rdJ hw hs (fun j hj => by simp at hj) h

theorem Sat.mextΓ {c c' : Cx} {G : List (Nat × Sh)} {Ω : List OB} {a : Act} {w : World} (hx : Ext c c') {d : Nat} {φ : RP} (hs : Sat E N ((d, φ) :: gma c G) Ω a w) {s : Sh} (he : s.rp c' = φ) : Sat E N (gma c' ((d, s) :: G)) Ω a w := by
  refine hs.weak fun t ψ h => ?_
  have h' : lk ((d, s.rp c') :: gma c' G) t = some ψ := h
  by_cases e : d = t
  · subst e; rw [lk_cons_eq] at h' ⊢; rw [← he]; exact h'
  · rw [lk_cons_ne e] at h' ⊢
    rw [lk_gma] at h' ⊢
    cases hg : lkG G t with
    | none => rw [hg] at h'; cases h'
    | some q =>
      rw [hg] at h'
      have h1 := hs.sl t (q.rp c) (by rw [lk_cons_ne e, lk_gma, hg]; rfl)
      simp only [Option.map_some] at h' ⊢
      rw [← Sh.rp_eq hx h1]; exact h'
theorem Sat.mextΓ0 {c c' : Cx} {G : List (Nat × Sh)} {Ω : List OB} {a : Act} {w : World} (hx : Ext c c') (hs : Sat E N (gma c G) Ω a w) : Sat E N (gma c' G) Ω a w := by
  refine hs.weak fun t ψ h' => ?_
  rw [lk_gma] at h' ⊢
  cases hg : lkG G t with
  | none => rw [hg] at h'; cases h'
  | some q =>
    rw [hg] at h'
    have h1 := hs.sl t (q.rp c) (by rw [lk_gma, hg]; rfl)
    simp only [Option.map_some] at h' ⊢
    rw [← Sh.rp_eq hx h1]; exact h'

variable {ops : Array Oper} {rest : List Oper}
/-- one operation in its order -/
theorem OpOk.step (hw : WF n env) {r : OpR} (h : OpOk P E N op ty n env G O r) {η : Nat → Hd} {d : Nat} {pos : String} {aft : Array Edge} (hd : Nat.blt d N = true)
    (hk : ∀ x : Agr n η, RefL P E N m ops rest (gma (r.cx' n env x.1) ((d, r.val) :: G)) (oma (r.cx' n env x.1) (r.O' O)) K) :
    RefL P E N m ops (⟨some d, op, ty, pos, aft, none⟩ :: rest) (gma ⟨n, env, η⟩ G) (oma ⟨n, env, η⟩ O) K := by
  have hst := h.st η
  exact s_st hst hd fun x => b_of (fun a w hs => Sat.mextΓ (OpOk.ext hw h.src x) hs rfl) (hk x)
theorem OpOk.step0 (hw : WF n env) {r : OpR} (h : OpOk P E N op ty n env G O r) {η : Nat → Hd} {pos : String} {aft : Array Edge}
    (hk : ∀ x : Agr n η, RefL P E N m ops rest (gma (r.cx' n env x.1) G) (oma (r.cx' n env x.1) (r.O' O)) K) :
    RefL P E N m ops (⟨none, op, ty, pos, aft, none⟩ :: rest) (gma ⟨n, env, η⟩ G) (oma ⟨n, env, η⟩ O) K := by
  have hst := h.st η
  exact s_st0 hst fun x => b_of (fun a w hs => Sat.mextΓ0 (OpOk.ext hw h.src x) hs) (hk x)
end Go.Dc
