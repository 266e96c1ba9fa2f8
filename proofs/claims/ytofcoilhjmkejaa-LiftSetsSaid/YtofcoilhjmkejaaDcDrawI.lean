/- Part Dc.DrawI of a proof: lemmas. -/
import Derived.Test.YtofcoilhjmkejaaDcEqS
/-! A region that draws its order, proved once: every operation is shown on its own, over what the operations ahead of it leave. -/
namespace Go.Dc
variable {R : Type} {P : Program} {E : Env} {N : Nat} {Γ Γ' : List (Nat × RP)} {Ω Ω' : List OB} {K : KT R} {m : Option R} {op : Op} {ty : TypeId} {js : List Nat}

/-- what an operation's rule chose -/
inductive XU where
  | none
  | nat (b : Nat)
  | val (x : Value × List Nat)
  | two (a b : XU)
def XU.Nn : XU → Nat | .nat b => b | _ => 0
def XU.V : XU → Value × List Nat | .val x => x | _ => (undef, [])
def XU.A : XU → XU | .two a _ => a | _ => .none
def XU.B : XU → XU | .two _ b => b | _ => .none
def XU.U (_ : XU) : Unit := ()
theorem XU.hN (x : Nat) : ∃ u : XU, u.Nn = x := ⟨.nat x, rfl⟩
theorem XU.hV (x : Value × List Nat) : ∃ u : XU, u.V = x := ⟨.val x, rfl⟩
theorem XU.hP {α β : Type} {f : XU → α} {g : XU → β} (hf : ∀ x, ∃ u, f u = x) (hg : ∀ x, ∃ u, g u = x) (x : α × β) : ∃ u : XU, (f u.A, g u.B) = x := by
  obtain ⟨a, ha⟩ := hf x.1
  obtain ⟨b, hb⟩ := hg x.2
  exact ⟨.two a b, by simp [XU.A, XU.B, ha, hb]⟩

theorem resW.mono {k k' : Value → World → Prop} (h : ∀ v w, k v w → k' v w) : ∀ {r : Result Next}, resW P k r → resW P k' r := by
  intro r hr
  unfold resW at hr ⊢
  split at hr
  · exact h _ _ hr
  · exact h _ _ hr
  · refine hr.mono ?_
    rintro e w ⟨v, rfl, hk⟩
    exact ⟨v, rfl, h _ _ hk⟩
  · exact hr.elim

theorem Eff.ag {w w' : World} (he : Eff Ω Ω' js w w') : Ag (fr E Ω) (fr E Ω') w w' :=
  ⟨fun b hb ⟨h1, h2⟩ => ⟨h1, fun hm => h2 (he.own b hb hm)⟩, fun b hb ⟨_, h2⟩ => he.keep b hb fun _ _ _ hob hbS => h2 (Sat.notin hob hbS)⟩

/-- a conversion ahead of an operation -/
theorem St.pre {X : Type} {φ : X → RP} {Ω2 : List OB} {Ω' : X → List OB} {js2 : List Nat} (hw : ∀ a w, Sat E N Γ Ω a w → Sat E N Γ' Ω2 a w) (hs1 : ∀ b ∈ ow Ω2, b ∈ ow Ω)
    (hs2 : ∀ j ∈ js2, ∀ ob, Ω2[j]? = some ob → ∀ b ∈ ob.S, ∃ k ∈ js, ∃ oc, Ω[k]? = some oc ∧ b ∈ oc.S)
    (h : St P E N op ty Γ' Ω2 js2 φ Ω') : St P E N op ty Γ Ω js φ Ω' := by
  intro a w hs o ho ht
  refine (h a w (hw a w hs) o ho ht).mono ?_
  rintro v w' ⟨x, h1, h2, h3⟩
  have he : Eff Ω (Ω' x) js w w' := ⟨h3.size, fun b hb hn => h3.keep b hb fun j hj ob hob hbS => by
    obtain ⟨k, hk, oc, hoc, hbS'⟩ := hs2 j hj ob hob b hbS
    exact hn k hk oc hoc hbS', fun b hb hm => hs1 b (h3.own b hb hm)⟩
  exact ⟨x, ⟨h1.sz, h1.df, fun t ψ ht => ψ.mono he.ag (hs.sl t ψ ht), h1.ob, h1.nd, h1.bd, h1.kp, h1.fs⟩, h2, he⟩

theorem St.dec {X : Type} {φ : X → RP} {Ω' : X → List OB} (f : XU → X) (hf : ∀ x, ∃ u, f u = x) (h : St P E N op ty Γ Ω js φ Ω') : St P E N op ty Γ Ω js (fun u => φ (f u)) (fun u => Ω' (f u)) := by
  intro a w hs o ho ht
  refine (h a w hs o ho ht).mono ?_
  rintro v w' ⟨x, h1⟩
  obtain ⟨u, rfl⟩ := hf x
  exact ⟨u, h1⟩

theorem place_perm {A : List OB} {o : OB} {k : Nat} (hk : A[k]? = some dead) : (ow (A.set k o)).Perm (ow (A ++ [o])) := by
  obtain ⟨B, C, hA, hB⟩ := ow_split hk
  rw [hA, ← hB, set_split, ow_mid]
  simp only [ow, List.flatMap_append, List.flatMap_cons, List.flatMap_nil, dead, List.nil_append, List.append_nil, List.append_assoc]
  exact List.Perm.append_left _ List.perm_append_comm

/-- a new object goes into its room -/
theorem St.place {X : Type} {φ : X → RP} {A : X → List OB} {o : X → OB} (k : Nat) (h : St P E N op ty Γ Ω js φ (fun x => A x ++ [o x])) (hk : ∀ x, (A x)[k]? = some dead) :
    St P E N op ty Γ Ω js φ (fun x => (A x).set k (o x)) := by
  intro a w hs p hp ht
  refine (h a w hs p hp ht).mono ?_
  rintro v w' ⟨x, h1, h2, h3⟩
  have hperm := place_perm (o := o x) (hk x)
  have hmem : ∀ b, b ∈ ow ((A x).set k (o x)) ↔ b ∈ ow (A x ++ [o x]) := fun b => hperm.mem_iff
  have ef : fr E ((A x).set k (o x)) = fr E (A x ++ [o x]) := by funext b; simp only [fr, hmem]
  refine ⟨x, ⟨h1.sz, h1.df, by rw [ef]; exact h1.sl, ?_, hperm.nodup_iff.2 h1.nd, fun b hb => h1.bd b ((hmem b).1 hb), h1.kp, h1.fs⟩, by rw [ef]; exact h2, h3.size, h3.keep, fun b hb hm => h3.own b hb ((hmem b).1 hm)⟩
  rw [ef]
  intro y hy
  rcases List.mem_or_eq_of_mem_set hy with h | rfl
  · exact h1.ob y (List.mem_append_left _ h)
  · exact h1.ob _ (by simp)

/-- an operation's account: the choices it names, the operations ahead of it, the objects it writes, those it touches, what it yields and what it leaves -/
structure DO where
  cl : List Nat
  deps : List Nat
  uk : List Nat
  tch : List Nat
  js : List Nat
  φ : List XU → XU → RP
  up : List XU → XU → List OB

def gam (Γ0 : List (Nat × RP)) (L : Nat → Bool) (χ : Nat → XU) : Nat → List Oper → List DO → List (Nat × RP)
  | i, o :: os, D :: Ds => bif L i then putΓ (gam Γ0 L χ (i + 1) os Ds) o.dst (D.φ (D.deps.map χ) (χ i)) else gam Γ0 L χ (i + 1) os Ds
  | _, _, _ => Γ0

def setAll : List Nat → List OB → List OB → List OB
  | k :: ks, o :: os, Ω => setAll ks os (Ω.set k o)
  | _, _, Ω => Ω

def omg (L : Nat → Bool) (χ : Nat → XU) : Nat → List DO → List OB → List OB
  | i, D :: Ds, Ω => omg L χ (i + 1) Ds (bif L i then setAll D.uk (D.up (D.deps.map χ) (χ i)) Ω else Ω)
  | _, [], Ω => Ω

/-! ### lemmas -/
theorem set_comm {k j : Nat} {o p : OB} {Ω : List OB} (h : k ≠ j) : (Ω.set k o).set j p = (Ω.set j p).set k o := List.set_comm _ _ h

/-! ### the region -/
def meets (a b : List Nat) : Bool := a.any (hasN b)
def okOne (ops : Array Oper) (Ds : List DO) (i : Nat) (o : Oper) (D : DO) : Bool :=
  o.guard.isNone && (predsOf o).all (hasN D.cl) &&
  D.cl.all (fun e => Nat.blt e i && (hasN (predsOf o) e || (predsOf o).any fun p => match Ds[p]? with | some Dp => hasN Dp.cl e | none => false)) &&
  D.deps.all (hasN D.cl) && D.uk.all (hasN D.tch) &&
  (Ds.zipIdx.all fun (Dk, k) => !(Nat.blt k i) || !(meets Dk.uk D.tch || meets Dk.tch D.uk) || hasN D.cl k) &&
  (ops.toList.zipIdx.all fun (ok, k) => Nat.beq k i || (match o.dst, ok.dst with | some a, some b => !Nat.beq a b | _, _ => true))

def okI (ops : Array Oper) (Ds : List DO) : Bool :=
  okDraw ops [] && Nat.beq ops.size Ds.length && (ops.toList.zipIdx.all fun (o, i) => match Ds[i]? with | some D => okOne ops Ds i o D | none => false)

def TchEq (Ω pre : List OB) : List Nat → Prop
  | [] => True
  | j :: js => Ω[j]? = pre[j]? ∧ TchEq Ω pre js

/-- the slots that an operation reads, as the operations ahead of it leave them -/
def gamI (Γ0 : List (Nat × RP)) (ops : Array Oper) (lo : List Oper) (Ds : List DO) (χ : Nat → XU) (o : Oper) (D : DO) : List (Nat × RP) :=
  (o.looksAt ops).filterMap fun t => (lk (gam Γ0 (hasN D.cl) χ 0 lo Ds) t).map fun φ => (t, φ)

def OkAll (P : Program) (E : Env) (N : Nat) (ops : Array Oper) (Γ0 : List (Nat × RP)) (Ω0 : List OB) (lo : List Oper) (Da : List DO) : Nat → List Oper → List DO → Prop
  | i, o :: os, D :: Ds =>
    (∀ χ Ω, TchEq Ω (omg (Nat.blt · i) χ 0 Da Ω0) D.tch → St P E N o.op o.type (gamI Γ0 ops lo Da χ o D) Ω D.js (D.φ (D.deps.map χ)) (fun u => setAll D.uk (D.up (D.deps.map χ) u) Ω)) ∧
    (∀ d, o.dst = some d → Nat.blt d N = true) ∧ OkAll P E N ops Γ0 Ω0 lo Da (i + 1) os Ds
  | _, [], [] => True
  | _, _, _ => False

theorem OkAll.get {ops : Array Oper} {Γ0 : List (Nat × RP)} {Ω0 : List OB} {lo : List Oper} {Da : List DO} : ∀ {os : List Oper} {Ds : List DO} {s : Nat}, OkAll P E N ops Γ0 Ω0 lo Da s os Ds → ∀ {k o D}, os[k]? = some o → Ds[k]? = some D →
    (∀ χ Ω, TchEq Ω (omg (Nat.blt · (s + k)) χ 0 Da Ω0) D.tch → St P E N o.op o.type (gamI Γ0 ops lo Da χ o D) Ω D.js (D.φ (D.deps.map χ)) (fun u => setAll D.uk (D.up (D.deps.map χ) u) Ω)) ∧
    (∀ d, o.dst = some d → Nat.blt d N = true)
  | [], [], _, _, k, o, D, h, _ => by simp at h
  | o0 :: os, D0 :: Ds, s, ⟨h1, h2, h3⟩, k, o, D, ho, hD => by
    cases k with
    | zero => simp at ho hD; subst ho; subst hD; exact ⟨h1, h2⟩
    | succ k =>
      have := h3.get (k := k) (by simpa using ho) (by simpa using hD)
      rwa [show s + 1 + k = s + (k + 1) from by omega] at this
  | [], _ :: _, _, h, _, _, _, _, _ => h.elim
  | _ :: _, [], _, h, _, _, _, _, _ => h.elim

theorem ow_room (k : Nat) : ow (Ω ++ List.replicate k dead) = ow Ω := by
  have : ow (List.replicate k dead) = [] := by
    induction k with
    | zero => rfl
    | succ k ih => simp [List.replicate_succ, ow, dead]
  rw [ow_append, this, List.append_nil]

theorem Sat.room {a : Act} {w : World} (hs : Sat E N Γ Ω a w) (k : Nat) : Sat E N Γ (Ω ++ List.replicate k dead) a w := by
  have e := ow_room (Ω := Ω) k
  have ef : fr E (Ω ++ List.replicate k dead) = fr E Ω := by funext x; simp only [fr, e]
  refine ⟨hs.sz, hs.df, by rw [ef]; exact hs.sl, ?_, by rw [e]; exact hs.nd, by rw [e]; exact hs.bd, hs.kp, hs.fs⟩
  rw [ef]
  intro o ho
  rcases List.mem_append.1 ho with h | h
  · exact hs.ob o h
  · rw [(List.mem_replicate.1 h).2]; trivial

/-! ### rules for single operations, over objects that are known in part -/
def Rooms (A : List OB) : List Nat → Prop
  | [] => True
  | k :: ks => A[k]? = some dead ∧ hasN ks k = false ∧ Rooms A ks

theorem Rooms.set {A : List OB} {j : Nat} {o : OB} : ∀ {ks : List Nat}, Rooms A ks → j ∉ ks → Rooms (A.set j o) ks
  | [], _, _ => trivial
  | k :: ks, ⟨h1, h2, h3⟩, hj => by
    simp only [List.mem_cons, not_or] at hj
    exact ⟨by rw [List.getElem?_set_ne hj.1]; exact h1, h2, h3.set hj.2⟩

def ObjsAt (Ω : List OB) : List Nat → List OB → Prop
  | [], [] => True
  | j :: js, o :: os => Ω[j]? = some o ∧ hasN js j = false ∧ ObjsAt Ω js os
  | _, _ => False

theorem ObjsAt.set {Ω : List OB} {j : Nat} {o : OB} : ∀ {ks : List Nat} {os : List OB}, ObjsAt Ω ks os → j ∉ ks → ObjsAt (Ω.set j o) ks os
  | [], [], _, _ => trivial
  | k :: ks, _ :: _, ⟨h1, h2, h3⟩, hj => by
    simp only [List.mem_cons, not_or] at hj
    exact ⟨by rw [List.getElem?_set_ne hj.1]; exact h1, h2, h3.set hj.2⟩
  | [], _ :: _, h, _ => h.elim
  | _ :: _, [], h, _ => h.elim

theorem ObjsAt.picks : ∀ {js : List Nat} {Ω os : List OB}, ObjsAt Ω js os → Picks Ω js os
  | [], _, [], _ => trivial
  | j :: js, Ω, o :: os, ⟨h1, h2, h3⟩ => ⟨h1, (h3.set (fun h => by rw [hasN_iff.2 h] at h2; cases h2)).picks⟩
  | [], _, _ :: _, h => h.elim
  | _ :: _, _, [], h => h.elim

theorem delL_set {k : Nat} {o : OB} : ∀ {js : List Nat} {Ω : List OB}, k ∉ js → delL (Ω.set k o) js = (delL Ω js).set k o
  | [], _, _ => rfl
  | j :: js, Ω, h => by
    simp only [List.mem_cons, not_or] at h
    simp only [delL]
    rw [set_comm h.1, delL_set h.2]

theorem ObjsAt.puts : ∀ {js : List Nat} {Ω os os' : List OB}, ObjsAt Ω js os → js.length = os'.length → Puts (delL Ω js) js os' ∧ putL (delL Ω js) js os' = setAll js os' Ω
  | [], _, [], [], _, _ => ⟨trivial, by simp [putL, setAll, delL]⟩
  | [], _, [], _ :: _, _, h => by simp at h
  | _ :: _, _, _ :: _, [], _, h => by simp at h
  | j :: js, Ω, o :: os, p :: os', ⟨h1, h2, h3⟩, hl => by
    have hj : j ∉ js := fun h => by rw [hasN_iff.2 h] at h2; cases h2
    have e : (delL (Ω.set j dead) js).set j p = delL (Ω.set j p) js := by rw [← delL_set hj, List.set_set]
    have ih := (h3.set (o := p) hj).puts (os' := os') (by simpa using hl)
    refine ⟨⟨?_, ?_⟩, ?_⟩
    · simp only [delL]
      rw [delL_set hj]
      have hlt : ∀ {js : List Nat} {Ω : List OB}, (delL Ω js).length = Ω.length := by
        intro js
        induction js with
        | nil => intros; rfl
        | cons k js ih => intro Ω; simp only [delL]; rw [ih]; simp
      rw [List.getElem?_set_self (by rw [hlt]; exact (List.getElem?_eq_some_iff.1 h1).1)]
    · simp only [delL]; rw [e]; exact ih.1
    · simp only [delL, putL, setAll]; rw [e]; exact ih.2
  | [], _, _ :: _, _, h, _ => h.elim
  | _ :: _, _, [], _, h, _ => h.elim

theorem s_callI {X : Type} {f : FuncId} {x : Operand} {args : List Operand} {caps : List Value} {ats : Array TypeId} {φs : List RP} {js : List Nat} {Ω0 : List OB} {res : X → List RP} {Ω1 os ex : X → List OB} {ψ : X → RP}
    (hcall : ∀ args w, (callFunc f args).run P w = .ok (.enter f args) w) (hx : lkO Γ x = some (pv (.func (.func f) #[] caps.toArray)))
    (hf : FnOk P f φs Ω0 res Ω1) (hob : ObjsAt Ω js Ω0) (hex : ∀ x, Ω1 x = os x ++ ex x) (hl : ∀ x, js.length = (os x).length) (ha : ArgsOk E N Γ Ω frF (args ++ caps.map .const) φs)
    (hψ : ∀ x F w v, resH F w (res x) v → (ψ x).h F w v) :
    St P E N (.call ⟨.value x, args.toArray, ats⟩) ty Γ Ω js ψ (fun x => setAll js (os x) Ω ++ ex x) := by
  have h := s_callO (ty := ty) (ats := ats) hcall hx hf hob.picks hex (fun x => (hob.puts (hl x)).1) ha hψ
  have e : (fun x => putL (delL Ω js) js (os x) ++ ex x) = (fun x => setAll js (os x) Ω ++ ex x) := funext fun x => by rw [(hob.puts (hl x)).2]
  rw [e] at h; exact h

/-- an object is given up ahead of an operation -/
theorem St.frz {X : Type} {φ : X → RP} {Ω' : X → List OB} {j : Nat} {o : OB} (hj : Ω[j]? = some o) (hw : ∀ a w, Sat E N Γ Ω a w → Sat E N Γ' (Ω.set j dead) a w)
    (h : St P E N op ty Γ' (Ω.set j dead) js φ Ω') : St P E N op ty Γ Ω js φ Ω' := by
  have hlt := (List.getElem?_eq_some_iff.1 hj).1
  refine St.pre hw ?_ ?_ h
  · intro b hb
    obtain ⟨A, B, rfl, rfl⟩ := ow_split hj
    rw [set_split] at hb
    rw [ow_mid] at hb ⊢
    simp only [dead, List.nil_append, List.mem_append] at hb ⊢
    exact hb.elim .inl fun h => .inr (.inr h)
  · intro k hk ob hob b hb
    by_cases e : j = k
    · subst e
      rw [List.getElem?_set_self hlt] at hob
      cases hob
      simp [dead] at hb
    · rw [List.getElem?_set_ne e] at hob
      exact ⟨k, hk, ob, hob, hb⟩

theorem St.conv {X : Type} {φ : X → RP} {Ω' : X → List OB} (hw : ∀ a w, Sat E N Γ Ω a w → Sat E N Γ' Ω a w) (h : St P E N op ty Γ' Ω js φ Ω') : St P E N op ty Γ Ω js φ Ω' :=
  St.pre hw (fun _ h => h) (fun k hk ob hob _ hb => ⟨k, hk, ob, hob, hb⟩) h

theorem St.to {X : Type} {φ : X → RP} {Ω' : X → List OB} {φ2 : XU → RP} {Ω2 : XU → List OB} (f : XU → X) (hf : ∀ x, ∃ u, f u = x) (h : St P E N op ty Γ Ω js φ Ω') (h1 : ∀ u, φ2 u = φ (f u)) (h2 : ∀ u, Ω2 u = Ω' (f u)) :
    St P E N op ty Γ Ω js φ2 Ω2 := by
  rw [show φ2 = fun u => φ (f u) from funext h1, show Ω2 = fun u => Ω' (f u) from funext h2]
  exact h.dec f hf
theorem nrm (Ω' : List OB) (h : Ω = Ω') : ∀ a w, Sat E N Γ Ω a w → Sat E N Γ Ω' a w := fun _ _ hs => h ▸ hs
end Go.Dc
