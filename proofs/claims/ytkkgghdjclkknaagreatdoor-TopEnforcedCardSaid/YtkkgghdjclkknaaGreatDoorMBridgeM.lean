/- Part M.BridgeM of a proof: lemmas. -/
import Derived.Test.YtkkgghdjclkknaaGreatDoorMFnSl
import Derived.Test.YtkkgghdjclkknaaGreatDoorMData
import Derived.Test.YtkkgghdjclkknaaGreatDoorDcDrawI
import Derived.Scope
set_option linter.unusedSectionVars false
set_option linter.unusedVariables false
set_option linter.unusedSimpArgs false
namespace Go.Dc
variable [aq] {R : Type} {P : Program} [bl P] {E : Env} {N : Nat} {K : KT R} {m : Option R} {op : Op} {ty : TypeId} {n : Nat} {env : List (Nat × bX)} {G : List (Nat × Sh)} {O : List MO}
def capO (n : Nat) (G : List (Nat × Sh)) (x : Operand) : Option qd := match CA G x with
 | some (.ptr o h 0) => bif Nat.blt h n then some (.ptr o h) else none
 | some .nF => some .nF
 | some (.fn f []) => bif Nat.blt f IA then some (.fn f) else none
 | _ => none
def SO (n : Nat) (G : List (Nat × Sh)) : List Operand → Option (List qd)
 | [] => some []
 | x :: xs => (capO n G x).bind fun c => (SO n G xs).map (c :: ·)
theorem Nn {η : Nat → Hd} : ∀ {xs : List Operand} {cs : List qd}, SO n G xs = some cs → Hs (dN ⟨n, env, η⟩ G) xs (cs.map (qd.val η)) ∧ cs.all (qd.ok n) = true
 | [], _, h => by cases h; exact ⟨trivial, rfl⟩
 | x :: xs, cs, h => by
  simp only [SO] at h
  obtain ⟨c, h1, h2⟩ := Option.bind_eq_some_iff.1 h
  obtain ⟨cs', h3, rfl⟩ := Option.map_eq_some_iff.1 h2
  obtain ⟨h4, h5⟩ := Nn h3
  unfold capO at h1
  split at h1
  ·rename_i o k ha
   cases hb : Nat.blt k n with
   | false => rw [hb] at h1; cases h1
   | true =>
    rw [hb] at h1; cases h1
    refine ⟨⟨?_, h4⟩, by simp only [List.all_cons, h5, qd.ok, hb, Bool.and_self]⟩
    rw [fB (c := ⟨n, env, η⟩) ha, lQ hb]; rfl
  ·rename_i ha
   cases h1
   exact ⟨⟨fB (c := ⟨n, env, η⟩) ha, h4⟩, by simp only [List.all_cons, h5, qd.ok, Bool.and_self]⟩
  ·rename_i f ha
   cases hb : Nat.blt f IA with
   | false => rw [hb] at h1; cases h1
   | true =>
    rw [hb] at h1; cases h1
    refine ⟨⟨?_, h4⟩, by rw [List.all_cons, h5]; show (Nat.blt f IA && true) = true; rw [hb]; rfl⟩
    rw [fB (c := ⟨n, env, η⟩) ha]
    show some (pv (Ur f [])) = some (pv _)
    rw [JY hb]; rfl
  ·cases h1
def mkfnE (n : Nat) (G : List (Nat × Sh)) (f : FuncId) (xs : List Operand) : Ask dV := Ask.when (Nat.blt f IA) (Ask.of (SO n G xs) fun cs => .ret (yX (.vl false [.fn f cs])))
theorem Z3 (hw : WF n env) {f : FuncId} {xs : List Operand} : aC (aM P E N (.makeFunc (.func f) #[] xs.toArray) ty n env G O) (mkfnE n G f xs) :=
 aC.when fun hfb => aC.of fun cs hcs => aM.same hw fun η => (by
  obtain ⟨h1, h2⟩ := Nn (env := env) (η := η) hcs
  have e : (Sh.vl false [.fn f cs]).rp ⟨n, env, η⟩ = pv (.func (.func f) #[] (cs.map (qd.val η)).toArray) := by
   simp only [Sh.rp, wS, cond_false, List.map_cons, List.headD_cons, At.rp]; rw [h2, JY hfb]; rfl
  rw [e]
  exact TG h1)
theorem r_mkfnb {Γ : List (Nat × RP)} {Ω : List OB} {f : FuncId} {xs : List Operand} {vs : List Value} (h : Hs Γ xs vs) : Rd P E N (.makeFunc (.func f) xs.toArray #[]) ty Γ Ω [] (pv (.func (.func f) vs.toArray #[])) := .mk fun a w hs => by
 refine ⟨_, rfl, fun w' o ho _ => ?_⟩
 have e := h.eval hs
 simp [execOp, ho, Instr.makeFunc, ← e]
def Z2 (n : Nat) (G : List (Nat × Sh)) (f : FuncId) (xs : List Operand) : Ask dV := Ask.of (SO n G xs) fun cs => .ret (yX (.vl false [.fn (f + IA) cs]))
theorem Xl (hw : WF n env) {f : FuncId} {xs : List Operand} : aC (aM P E N (.makeFunc (.func f) xs.toArray #[]) ty n env G O) (Z2 n G f xs) :=
 aC.of fun cs hcs => aM.same hw fun η => (by
  obtain ⟨h1, h2⟩ := Nn (env := env) (η := η) hcs
  have hb : Nat.blt (f + IA) IA = false := by
   cases hh : Nat.blt (f + IA) IA with
   | false => rfl
   | true => simp only [Nat.blt_eq] at hh; omega
  have e : (Sh.vl false [.fn (f + IA) cs]).rp ⟨n, env, η⟩ = pv (.func (.func f) (cs.map (qd.val η)).toArray #[]) := by
   simp only [Sh.rp, wS, cond_false, List.map_cons, List.headD_cons, At.rp]; rw [h2]
   unfold Ur; rw [hb, Nat.add_sub_cancel]; rfl
  rw [e]
  exact r_mkfnb h1)
def V5 (P : Program) [bl P] (n : Nat) (env : List (Nat × bX)) (O : List MO) (ss : List Sh) : List bI → Option ((C : bI) × Cf C)
 | [] => none
 | C :: r => match C.find P n env O ss with
  | some X => some ⟨C, X⟩
  | none => V5 P n env O ss r
theorem Se {ss : List Sh} : ∀ {l : List bI} {X : (C : bI) × Cf C}, V5 P n env O ss l = some X → X.1 ∈ l ∧ X.1.find P n env O ss = some X.2
 | [], _, h => by cases h
 | C :: r, X, h => by
  simp only [V5] at h
  split at h
  ·rename_i Y hY; cases h; exact ⟨by simp, hY⟩
  ·obtain ⟨h1, h2⟩ := Se h; exact ⟨by simp [h1], h2⟩
def Nz (P : Program) [bl P] (T : FuncId → List bI) : Prop := ∀ f C, C ∈ T f → aG P f C
def callOp (P : Program) [bl P] (T : FuncId → List bI) (n : Nat) (env : List (Nat × bX)) (G : List (Nat × Sh)) (O : List MO) (x : Operand) (args : List Operand) : Ask dV :=
 Ask.of (CA G x) fun a => match a with
  | .fn f cs => Ask.when (cs.all (qd.ok n)) (Ask.of (PZ G args) fun ss => Ask.of (V5 P n env O (fnA f ss (cs.map KP)) (T (fnT f))) fun X => callE P X.1 n env O X.2)
  | _ => .fail
theorem X0 {T : FuncId → List bI} (hT : Nz P T) (hw : WF n env) {x : Operand} {args : List Operand} {ats : Array TypeId} :
  aC (aM P E N (.call ⟨.value x, args.toArray, ats⟩) ty n env G O) (callOp P T n env G O x args) :=
 aC.of fun a ha => by
  split
  ·rename_i f cs
   refine aC.when fun hcs => aC.of fun ss hss => aC.of fun X hX => ?_
   obtain ⟨h1, h2⟩ := Se hX
   exact callE_ok hw (hT (fnT f) _ h1) ha hcs hss h2
  ·trivial
theorem aC.cnd {A : Type} {Q : A → Prop} {b : Bool} {x y : Ask A} (h1 : aC Q x) (h2 : aC Q y) : aC Q (bif b then x else y) := by
 cases b
 ·exact h2
 ·exact h1
def Np (P : Program) [bl P] (n : Nat) (env : List (Nat × bX)) (G : List (Nat × Sh)) (O : List MO) (b : Builtin) (args : List Operand) (ats : List TypeId) : Ask dV := match b, args, ats with
 | .len, [x], [t] => bif isFs G x then Un P n G t x else lenE P n env G O t x
 | .min, [x, y], [_, _] => minE n env G false x y
 | .max, [x, y], [_, _] => minE n env G true x y
 | .append, [x, y], [t, t'] => if t' = t then appE P n env G O t x y else .fail
 | .clear, [x], [t] => UH P n env G O t x
 | _, _, _ => .fail
theorem SQ (hw : WF n env) {b : Builtin} {args : List Operand} {ats : List TypeId} : aC (aM P E N (.call ⟨.builtin b, args.toArray, ats.toArray⟩) ty n env G O) (Np P n env G O b args ats) := by
 unfold Np
 split
 ·exact .cnd (XJ hw) (lenE_ok hw)
 ·exact minE_ok hw
 ·exact maxE_ok hw
 ·split
  ·rename_i h; subst h; exact appE_ok hw
  ·trivial
 ·exact XW hw
 ·trivial
def Vz (P : Program) [bl P] (T : FuncId → List bI) (own : Bool) (n : Nat) (env : List (Nat × bX)) (G : List (Nat × Sh)) (O : List MO) : Op → Ask dV
 | .move x => VD G x
 | .assign x => VD G x
 | .pick c x y => pickE env G c x y
 | .extract x i => Si G x i
 | .field t x f => fieldE P G t x f
 | .binOp b t x y _ => binE P n env G b t x y
 | .unOp b _ x => unE n env G b x
 | .convert s d x => convE P n env G s d x
 | .nilCheck x => nilcE n env G x
 | .fieldAddr t x f => faddrE P n env G O t x f
 | .load t x => loadE P n env G O t x
 | .store t x y => YO P n env G O t x y
 | .indexAddr t x i => bif isFs G x then Uo P n env G t x i else idxE P n env G O t x i
 | .alloc t => allocE P own n O t
 | .box _ x => boxE n G O x
 | .build t ps => UK P G t ps.toList
 | .buildSlice t k ps => bif isFnT P t then Qv P n G O t k ps.toList else QB P n env G O own t k ps.toList
 | .makeSlice t x y => aac P n env G O t x y
 | .slice t x lo hi none => YZ P own n env G O t x lo hi
 | .slice t x none (some hi) (some mx) => aaI P n env G t x hi mx
 | .index t x i => Y2 P n env G t x i
 | .makeMap t none => Z1 P n O t
 | .mapUpdate t x k v => mputE P n env G O t x k v
 | .lookup t x k true => mgetE P n env G O t x k
 | .makeFunc (.func f) ⟨[]⟩ xs => mkfnE n G f xs.toList
 | .makeFunc (.func f) xs ⟨[]⟩ => Z2 n G f xs.toList
 | .call ⟨.value x, args, _⟩ => callOp P T n env G O x args.toList
 | .call ⟨.builtin b, args, ats⟩ => Np P n env G O b args.toList ats.toList
 | _ => .fail
theorem Jz {T : FuncId → List bI} (hT : Nz P T) (hw : WF n env) {own : Bool} : aC (aM P E N op ty n env G O) (Vz P T own n env G O op) := by
 unfold Vz
 split
 ·exact ZZ hw
 ·exact UQ hw
 ·exact ZD hw
 ·exact Sg hw
 ·exact XN hw
 ·exact binE_ok hw
 ·exact unE_ok hw
 ·exact convE_ok hw
 ·exact ZR hw
 ·exact XO hw
 ·exact aaf hw
 ·exact WH hw
 ·exact .cnd (XK hw) (idxE_ok hw)
 ·exact X7 hw
 ·exact boxE_ok hw
 ·rename_i t ps
  have h1 := X1 (P := P) (E := E) (N := N) (ty := ty) (G := G) (O := O) hw (t := t) (ps := ps.toList)
  simpa using h1
 ·rename_i t k ps
  have h1 := UL (P := P) (E := E) (N := N) (ty := ty) (G := G) (O := O) hw (own := own) (t := t) (k := k) (ps := ps.toList)
  have h2 := Ux (P := P) (E := E) (N := N) (ty := ty) (G := G) (O := O) (env := env) hw (t := t) (k := k) (ps := ps.toList)
  exact .cnd (by simpa using h2) (by simpa using h1)
 ·exact Z_ hw
 ·exact WM hw
 ·exact aaH hw
 ·exact Y1 hw
 ·exact Xk hw
 ·exact ZY hw
 ·exact Z7 hw
 ·rename_i f xs; have := Z3 (P := P) (E := E) (N := N) (ty := ty) (G := G) (O := O) hw (f := f) (xs := xs.toList); simpa using this
 ·rename_i f xs _; have := Xl (P := P) (E := E) (N := N) (ty := ty) (G := G) (O := O) hw (f := f) (xs := xs.toList); simpa using this
 ·rename_i x args ats; have := X0 (P := P) (E := E) (N := N) (ty := ty) (G := G) (O := O) hT hw (x := x) (args := args.toList) (ats := ats); simpa using this
 ·rename_i b args ats; have := SQ (P := P) (E := E) (N := N) (ty := ty) (G := G) (O := O) hw (b := b) (args := args.toList) (ats := ats.toList); simpa using this
 ·trivial
def Jx (G : List (Nat × Sh)) (x : Operand) : List Nat := match opC G x with
 | some l => l.filterMap fun a => match a with
  | .own o _ => some o
  | _ => none
 | none => []
def ZU : List KA → List At → List Nat
 | .d _ _ :: ks, .own o _ :: y_ => o :: ZU ks y_
 | _ :: ks, _ :: y_ => ZU ks y_
 | _, _ => []
def ZT : List (Bool × List KA) → List Sh → List Nat
 | k :: ks, .vl _ y_ :: ss => ZU k.2 y_ ++ ZT ks ss
 | _ :: ks, _ :: ss => ZT ks ss
 | _, _ => []
def HU (P : Program) [bl P] (f : Nat) (ss : List Sh) (args : List Operand) (cs : List qd) (st : iR) : List bI → Option iR
 | [] => none
 | C :: r => match qW (ZT C.ps ss) st with
  | some st1 => match (PZ st1.G args).bind fun ss1 => C.find P st1.n st1.env st1.O (fnA f ss1 (cs.map KP)) with
   | some _ => some st1
   | none => HU P f ss args cs st r
  | none => HU P f ss args cs st r
def HV (P : Program) [bl P] (T : FuncId → List bI) (cons : Bool) (st : iR) : Op → Option iR
 | .buildSlice _ _ ps => qW (ps.toList.flatMap fun p => Jx st.G p.2) st
 | .store _ x y => match CA st.G x with
  | some (.Mx _ _ _) => qW (Jx st.G y) st
  | some (.Yn _ _ _) => qW (Jx st.G y) st
  | _ => some st
 | .convert _ _ x => qW (Jx st.G x) st
 | .slice _ x _ _ _ => bif cons then some st else qW (Jx st.G x) st
 | .call ⟨.builtin .append, args, _⟩ => match args.toList with
  | [_, y] => qW (Jx st.G y) st
  | _ => some st
 | .call ⟨.value x, args, _⟩ => match CA st.G x with
  | some (.fn f cs) => (PZ st.G args.toList).bind fun ss => HU P f (fnA f ss (cs.map KP)) args.toList cs st (T (fnT f))
  | _ => none
 | _ => some st
theorem Mi {f : Nat} {ss : List Sh} {args : List Operand} {cs : List qd} {st st' : iR} : ∀ {l : List bI}, HU P f ss args cs st l = some st' → Gi st st'
 | [], h => by cases h
 | C :: r, h => by
  unfold HU at h
  split at h
  ·rename_i s1 h1
   split at h
   ·cases h; exact pq h1
   ·exact Mi h
  ·exact Mi h
theorem Lx {T : FuncId → List bI} {cons : Bool} {st st' : iR} (h : HV P T cons st op = some st') : Gi st st' := by
 unfold HV at h
 split at h
 ·exact pq h
 ·split at h
  ·exact pq h
  ·exact pq h
  ·cases h; exact .refl _
 ·exact pq h
 ·cases cons with
  | true => cases h; exact .refl _
  | false => exact pq h
 ·split at h
  ·exact pq h
  ·cases h; exact .refl _
 ·split at h
  ·obtain ⟨ss, _, h⟩ := Option.bind_eq_some_iff.1 h
   exact Mi h
  ·cases h
 ·cases h; exact .refl _
end Go.Dc
namespace Go.Dc
section
variable [qc] [aq] {E : Env} {N : Nat} {a : Act} {w : World}
def isP (f : At → Bool) : Option At → Bool
 | some a => f a
 | none => false
theorem aav {f : At → Bool} {x : Option At} (h : isP f x = true) : ∃ a, x = some a ∧ f a = true := by
 unfold isP at h; split at h
 ·exact ⟨_, rfl, h⟩
 ·cases h
def Sv (f : At → Bool) (G : List (Nat × Sh)) (O : List MO) (x : At) : Loc → Option (List (Nat × Sh) × List MO)
 | .slot t q => match y7 G t with
  | some (.vl g l) => bif isP f l[q]? then some ((t, .vl g (l.set q x)) :: G, O) else none
  | _ => none
 | .cell o q => match O[o]? with
  | some (.oc h l) => bif isP f l[q]? then some (G, O.set o (.oc h (l.set q x))) else none
  | _ => none
theorem Ss {f : At → Bool} {c : Cx} {G G' : List (Nat × Sh)} {O O' : List MO} {x : At} {p : Loc} (h : Sv f G O x p = some (G', O'))
  (hx : ∀ y, f y = true → ∀ v, (y.rp c).h (fr E (bL c O)) w v → (x.rp c).h (fr E (bL c O)) w v)
  (hs : Sat E N (dN c G) (bL c O) a w) : Sat E N (dN c G') (bL c O') a w := by
 cases p with
 | slot t q =>
  simp only [Sv] at h
  split at h
  ·rename_i g l hl
   cases hb : isP f l[q]? with
   | false => rw [hb] at h; cases h
   | true =>
    rw [hb] at h
    simp only [cond_true, Option.some.injEq, Prod.mk.injEq] at h
    obtain ⟨rfl, rfl⟩ := h
    obtain ⟨y, hq, hy⟩ := aav hb
    refine hs.rel (fun t' s' ht => ?_) (fun o ho => hs.ob o ho) hs.nd fun b hb => hb
    simp only [y7] at ht
    by_cases e : t = t'
    ·subst e
     simp only [Nat.beq_refl, cond_true, Option.some.injEq] at ht
     subst ht
     refine ⟨_, hl, fun v hv => ?_⟩
     simp only [Sh.rp, wS] at hv ⊢
     cases g with
     | true => obtain ⟨cs, e, hv⟩ := hv; exact ⟨cs, e, EG (fun v => hx y hy v) hv hq⟩
     | false =>
      cases l with
      | nil => simp at hq
      | cons z l =>
       cases q with
       | zero =>
        simp only [List.getElem?_cons_zero, Option.some.injEq] at hq
        subst hq; exact hx _ hy v hv
       | succ q => exact hv
    ·rw [wz e] at ht; exact ⟨s', ht, fun v hv => hv⟩
  ·cases h
 | cell o q =>
  simp only [Sv] at h
  split at h
  ·rename_i k l hl
   cases hb : isP f l[q]? with
   | false => rw [hb] at h; cases h
   | true =>
    rw [hb] at h
    simp only [cond_true, Option.some.injEq, Prod.mk.injEq] at h
    obtain ⟨rfl, rfl⟩ := h
    obtain ⟨y, hq, hy⟩ := aav hb
    have hlt := (List.getElem?_eq_some_iff.1 hl).1
    have jP := hs.ob ((MO.oc k l).ob c) (List.mem_map_of_mem (List.mem_of_getElem? hl))
    have hS : ((MO.oc k (l.set q x)).ob c).S = ((MO.oc k l).ob c).S := by simp only [MO.ob]; cases Nat.blt k c.n <;> rfl
    have how : ow (bL c (O.set o (.oc k (l.set q x)))) = ow (bL c O) := by
     unfold bL
     rw [List.map_set]
     exact DS (by rw [List.getElem?_map, hl]; rfl) hS
    have hfr : fr E (bL c (O.set o (.oc k (l.set q x)))) = fr E (bL c O) := by unfold fr; rw [how]
    refine hs.rel (fun t' s' ht => ⟨s', ht, fun v hv => by rw [hfr]; exact hv⟩) (fun p hp => ?_) (by rw [how]; exact hs.nd) fun b hb => by rw [how] at hb; exact hb
    rw [hfr]
    obtain ⟨m, hm, rfl⟩ := List.mem_map.1 hp
    rcases List.mem_or_eq_of_mem_set hm with h1 | rfl
    ·exact hs.ob _ (List.mem_map_of_mem h1)
    ·simp only [MO.ob] at jP ⊢
     cases uX : Nat.blt k c.n with
     | false => rw [uX] at jP; exact jP
     | true =>
      rw [uX] at jP
      obtain ⟨cells, ty, h1, h2⟩ := jP
      exact ⟨cells, ty, h1, EG (fun v => hx y hy v) h2 hq⟩
  ·cases h
end
variable [aq] {P : Program} [bl P] {E : Env} {N : Nat}
def aaw : At → Bool
 | .nF => true
 | _ => false
def aau (o h : Nat) : At → Bool
 | .ptr o' h' 0 => Nat.beq o' o && Nat.beq h' h
 | _ => false
def nilOp (t : Ty) (p : Loc) (st : iR) : Option iR := (Sv aaw st.G st.O (.vr st.n) p).map fun r => ⟨st.n + 1, (st.n, ⟨.op t, none, none⟩) :: st.env, r.1, r.2⟩
def ptrOp (P : Program) [bl P] (t : Ty) (o h : Nat) (p : Loc) (st : iR) : Option iR := (LU st.n st.O o h).bind fun l => (UJ P st.env t l).bind fun d =>
 (Sv (aau o h) st.G (st.O.set o .dead) (.vr st.n) p).map fun r => ⟨st.n + 1, (st.n, ⟨.op t, some d, none⟩) :: st.env, r.1, r.2⟩
theorem ZS {t : Ty} {p : Loc} {st st' : iR} (hw : WF st.n st.env) (h : nilOp t p st = some st') {η : Nat → Hd} :
  WF st'.n st'.env ∧ Ext ⟨st.n, st.env, η⟩ ⟨st'.n, st'.env, η⟩ ∧ ∀ a w, Sat E N (dN ⟨st.n, st.env, η⟩ st.G) (bL ⟨st.n, st.env, η⟩ st.O) a w → Sat E N (dN ⟨st'.n, st'.env, η⟩ st'.G) (bL ⟨st'.n, st'.env, η⟩ st'.O) a w := by
 obtain ⟨⟨G', O'⟩, h1, rfl⟩ := Option.map_eq_some_iff.1 h
 have hw' : WF (st.n + 1) ((st.n, (⟨.op t, none, none⟩ : bX)) :: st.env) := hw.cons (.none rfl)
 have hx : Ext ⟨st.n, st.env, η⟩ ⟨st.n + 1, (st.n, (⟨.op t, none, none⟩ : bX)) :: st.env, η⟩ := ⟨by simp, fun i e he => by
  have := hw.lt i e he
  simp only [bM]; rw [if_neg (by omega)]; exact he, fun _ _ => rfl⟩
 refine ⟨hw', hx, fun a w hs => Ss h1 (fun y hy v hv => ?_) (hs.mext hx)⟩
 unfold aaw at hy
 split at hy
 ·simp only [At.rp, bM, if_true, Ty.one, cond_true]
  exact hv
 ·cases hy
theorem Y3 {Γ : List (Nat × RP)} {Ω : List OB} {α : Type} (ρ : iC α) (x : α) {j b : Nat} {bY : List RP} (hj : Ω[j]? = some (oc b bY)) (hi : nK bY (ρ.cp x)) {a : Act} {w : World} (hs : Sat E N Γ Ω a w) : (Mx ρ (some x)).h (fr E (Ω.set j dead)) w (ptr b 0) := by
 obtain ⟨cells, ty', hb, hall⟩ := hs.l9 hj
 have R8 : b ∈ (oc b bY).S := by simp [oc]
 refine ⟨b, 0, cells, ty', (0, 0), cells.toList, rfl, ⟨hs.mine (Sat.me hj R8), B4 hj hs.nd R8 (by simp [dead])⟩, hb, (hi.all hall).mono (.refl fun c hc hF => ?_), fun k hk => by simp⟩
 refine ⟨hF.1, fun hm => hF.2 ?_⟩
 obtain ⟨A, B, rfl, rfl⟩ := nj hj
 rw [ko] at hm
 rw [jI] at hm ⊢
 simp [dead] at hm
 simp only [List.mem_append]
 exact hm.imp id .inr
theorem Zy {t : Ty} {o h : Nat} {p : Loc} {st st' : iR} (hw : WF st.n st.env) (hh : ptrOp P t o h p st = some st') {η : Nat → Hd} :
  WF st'.n st'.env ∧ Ext ⟨st.n, st.env, η⟩ ⟨st'.n, st'.env, η⟩ ∧ ∀ a w, Sat E N (dN ⟨st.n, st.env, η⟩ st.G) (bL ⟨st.n, st.env, η⟩ st.O) a w → Sat E N (dN ⟨st'.n, st'.env, η⟩ st'.G) (bL ⟨st'.n, st'.env, η⟩ st'.O) a w := by
 obtain ⟨l, hl, hh⟩ := Option.bind_eq_some_iff.1 hh
 obtain ⟨d, hd, hh⟩ := Option.bind_eq_some_iff.1 hh
 obtain ⟨⟨G', O'⟩, h1, rfl⟩ := Option.map_eq_some_iff.1 hh
 obtain ⟨hb, hlt, hj⟩ := EK (env := st.env) hl
 have hw' : WF (st.n + 1) ((st.n, (⟨.op t, some d, none⟩ : bX)) :: st.env) := hw.cons (.none rfl)
 have hx : Ext ⟨st.n, st.env, η⟩ ⟨st.n + 1, (st.n, (⟨.op t, some d, none⟩ : bX)) :: st.env, η⟩ := ⟨by simp, fun i e he => by
  have := hw.lt i e he
  simp only [bM]; rw [if_neg (by omega)]; exact he, fun _ _ => rfl⟩
 refine ⟨hw', hx, fun a w hs => ?_⟩
 have hs0 := hs.freezeO (hj η)
 rw [← xU] at hs0
 have hs1 := hs0.mext hx
 refine Ss h1 (fun y hy v hv => ?_) hs1
 unfold aau at hy
 split at hy
 ·rename_i o' h'
  simp only [Bool.and_eq_true] at hy
  obtain rfl := Nat.eq_of_beq_eq_true hy.1
  obtain rfl := Nat.eq_of_beq_eq_true hy.2
  rw [lQ (c := ⟨st.n + 1, _, η⟩) (bV hb (show st.n ≤ st.n + 1 by omega))] at hv
  obtain rfl : v = ptr (η h').b 0 := hv
  have h2 := Y3 t.rep d (hj η) (Nl (c := ⟨st.n, st.env, η⟩) hd) hs
  rw [← xU] at h2
  have h3 : bL ⟨st.n + 1, (st.n, (⟨.op t, some d, none⟩ : bX)) :: st.env, η⟩ (st.O.set o' .dead) = bL ⟨st.n, st.env, η⟩ (st.O.set o' .dead) := H6 hx hs0
  rw [h3]
  simp only [At.rp, bM, if_true, Ty.one, cond_true]
  exact h2
 ·cases hy
end Go.Dc
namespace Go.Dc
inductive HObj where
 | dead
 | keep
 | cells (l : List (Option KA))
 | data (w : KA)
 | jw (k : Nat) (w : KA)
 | ocN (k : Nat) (l : List KA)
structure Ye where
 ts : List Ty
 slots : List (Nat × Option (Bool × List KA))
 objs : List HObj
 nk : Nat
inductive Conv where
 | sl (t : Ty) (p : Loc)
 | own (t : Ty) (p : Loc)
 | op (t : Ty) (p : Loc)
structure HLoop where
 conv : List Conv
 head : Ye
 back : List Conv
 brk : Option (List Conv × Ye)
 rets : Bool
 out : Option (Nat × (List Conv × Ye))
structure Hints where
 loop : List (Nat × HLoop)
 join : List (Nat × (List Conv × Ye))
 own : List Nat
 cons : List Nat
 loud : List Nat
def lkH {α : Type} : List (Nat × α) → Nat → Option α
 | [], _ => none
 | (k, x) :: r, i => bif Nat.beq k i then some x else lkH r i
section
variable [qc]
def Ui (G : List (Nat × Sh)) : List (Nat × Option (Bool × List KA)) → Option (List (Nat × (Bool × List KA)))
 | [] => some []
 | (t, some v) :: r => (Ui G r).map ((t, v) :: ·)
 | (t, none) :: r => match y7 G t with
  | some (.vl g l) => (Ui G r).map ((t, (g, l.map .fx)) :: ·)
  | _ => none
def hcells : List (Option KA) → List At → Option (List KA)
 | [], [] => some []
 | some k :: ks, _ :: y_ => (hcells ks y_).map (k :: ·)
 | none :: ks, a :: y_ => (hcells ks y_).map (.fx a :: ·)
 | _, _ => none
def Eg (O : List MO) : Nat → List HObj → Option (List KO × List (Nat × (Nat × Nat)))
 | _, [] => some ([], [])
 | p, .dead :: r => (Eg O (p + 1) r).map fun x => (.dead :: x.1, x.2)
 | p, .keep :: r => match O[p]? with
  | some (.oa h i) => (Eg O (p + 1) r).map fun x => (.oa p (.fx (.vr i)) :: x.1, (p, (p, h)) :: x.2)
  | some (.oc h l) => (Eg O (p + 1) r).map fun x => (.oc p (l.map .fx) :: x.1, (p, (p, h)) :: x.2)
  | some .dead => (Eg O (p + 1) r).map fun x => (.dead :: x.1, x.2)
  | none => none
 | p, .cells ks :: r => match O[p]? with
  | some (.oc h l) => (hcells ks l).bind fun c => (Eg O (p + 1) r).map fun x => (.oc p c :: x.1, (p, (p, h)) :: x.2)
  | _ => none
 | p, .data w :: r => match O[p]? with
  | some (.oa h _) => (Eg O (p + 1) r).map fun x => (.oa p w :: x.1, (p, (p, h)) :: x.2)
  | _ => none
 | p, .jw k w :: r => (Eg O (p + 1) r).map fun x => (.oa (O.length + k) w :: x.1, x.2)
 | p, .ocN k l :: r => (Eg O (p + 1) r).map fun x => (.oc (O.length + k) l :: x.1, x.2)
def Ye.at (h : Ye) (st : iR) : Option Ac := (Ui st.G h.slots).bind fun s => (Eg st.O 0 h.objs).map fun o => ⟨h.ts, s, o.1, o.2, st.O.length, st.O.length + h.nk⟩
def aae (st : iR) : Loc → Option At
 | .slot t q => match y7 st.G t with
  | some (.vl _ l) => l[q]?
  | _ => none
 | .cell o q => match st.O[o]? with
  | some (.oc _ l) => l[q]?
  | _ => none
end
section
def convs (P : Program) [bl P] : List Conv → iR → Option iR
 | [], st => some st
 | .sl t p :: r, st => match aae st p with
  | some .nl => (nlSl t p st).bind (convs P r)
  | some (.own o _) => (Iz st o).bind (convs P r)
  | some _ => convs P r st
  | none => none
 | .own t p :: r, st => match aae st p with
  | some .nl => (nlOwn t p st).bind (convs P r)
  | some _ => convs P r st
  | none => none
 | .op t p :: r, st => match aae st p with
  | some .nF => (nilOp (P := P) t p st).bind (convs P r)
  | some (.ptr o h _) => (ptrOp P t o h p st).bind (convs P r)
  | some _ => convs P r st
  | none => none
theorem qu [aq] {E : Env} {N : Nat} {P : Program} [bl P] : ∀ {l : List Conv} {st st' : iR}, convs P l st = some st' → WF st.n st.env → ∀ η, WF st'.n st'.env ∧ ∃ lY, Ext ⟨st.n, st.env, η⟩ ⟨st'.n, st'.env, lY⟩ ∧
  ∀ a w, Sat E N (dN ⟨st.n, st.env, η⟩ st.G) (bL ⟨st.n, st.env, η⟩ st.O) a w → Sat E N (dN ⟨st'.n, st'.env, lY⟩ st'.G) (bL ⟨st'.n, st'.env, lY⟩ st'.O) a w
 | [], st, st', h, hw, η => by cases h; exact ⟨hw, η, .refl _, fun _ _ h => h⟩
 | .sl t p :: r, st, st', h, hw, η => by
  unfold convs at h
  split at h
  ·obtain ⟨s1, h1, h2⟩ := Option.bind_eq_some_iff.1 h
   have hw1 : WF s1.n s1.env ∧ Ext ⟨st.n, st.env, η⟩ ⟨s1.n, s1.env, η⟩ := by
    obtain ⟨⟨G', O'⟩, _, rfl⟩ := Option.map_eq_some_iff.1 h1
    exact ⟨hw.cons (.none rfl), by simp, fun i e he => by
     have := hw.lt i e he
     simp only [bM]; rw [if_neg (by omega)]; exact he, fun _ _ => rfl⟩
   obtain ⟨K7, lY, hx, hs⟩ := qu h2 hw1.1 η
   exact ⟨K7, lY, hw1.2.trans hx, fun a w oK => hs a w (nlSl_ok hw h1 oK).2.2⟩
  ·obtain ⟨s1, h1, h2⟩ := Option.bind_eq_some_iff.1 h
   have hk := GU h1
   obtain ⟨K7, lY, hx, hs⟩ := qu h2 (by rw [hk.1, hk.2.1]; exact hw) η
   rw [hk.1, hk.2.1] at hx hs
   exact ⟨K7, lY, hx, fun a w oK => hs a w (hk.2.2 η a w oK)⟩
  ·exact qu h hw η
  ·cases h
 | .own t p :: r, st, st', h, hw, η => by
  unfold convs at h
  split at h
  ·obtain ⟨s1, h1, h2⟩ := Option.bind_eq_some_iff.1 h
   obtain ⟨hw1, mW, hx1, hs1⟩ := ZQ (E := E) (N := N) hw h1 (η := η)
   obtain ⟨K7, lY, hx, hs⟩ := qu h2 hw1 mW
   exact ⟨K7, lY, hx1.trans hx, fun a w oK => hs a w (hs1 a w oK)⟩
  ·exact qu h hw η
  ·cases h
 | .op t p :: r, st, st', h, hw, η => by
  unfold convs at h
  split at h
  ·obtain ⟨s1, h1, h2⟩ := Option.bind_eq_some_iff.1 h
   obtain ⟨hw1, hx1, hs1⟩ := ZS (E := E) (N := N) hw h1 (η := η)
   obtain ⟨K7, lY, hx, hs⟩ := qu h2 hw1 η
   exact ⟨K7, lY, hx1.trans hx, fun a w oK => hs a w (hs1 a w oK)⟩
  ·obtain ⟨s1, h1, h2⟩ := Option.bind_eq_some_iff.1 h
   obtain ⟨hw1, hx1, hs1⟩ := Zy (E := E) (N := N) hw h1 (η := η)
   obtain ⟨K7, lY, hx, hs⟩ := qu h2 hw1 η
   exact ⟨K7, lY, hx1.trans hx, fun a w oK => hs a w (hs1 a w oK)⟩
  ·exact qu h hw η
  ·cases h
end
def IB : Code → Nat
 | .region i _ _ => 2 * i + 2
 | .block i _ => 2 * i + 3
 | .seq a _ => IB a
 | .cond _ a b => bif Nat.beq (IB a) 0 then IB b else IB a
 | _ => 0
variable [aq] {P : Program} [bl P] {R A : Type}
def Yt (P : Program) [bl P] (T : FuncId → List bI) (H : Hints) (N : Nat) (ops : Array Oper) : List Oper → iR → (iR → Option A) → Option A
 | [], st, k => k st
 | ⟨dst, op, ty, pos, fM, gd⟩ :: rest, st, k =>
  let run : iR → Option A := fun st => match dst with
   | some d => bif Nat.blt d N then (HV P T (dG H.cons d) st op).bind fun st => (Vz P T (dG H.own d) st.n st.env st.G st.O op).run fun r =>
     Yt P T H N ops rest ⟨r.n' st.n, r.env' st.n st.env, (d, r.val) :: st.G, r.O' st.O⟩ k else none
   | none => (HV P T false st op).bind fun st => (Vz P T false st.n st.env st.G st.O op).run fun r =>
     Yt P T H N ops rest ⟨r.n' st.n, r.env' st.n st.env, st.G, r.O' st.O⟩ k
  let skip : iR → Option A := fun st => match dst with
   | some d => bif Nat.blt d N then Yt P T H N ops rest ⟨st.n, st.env, (d, .undef) :: st.G, st.O⟩ k else none
   | none => none
  match gd with
  | none => run st
  | some (i, b) => match (ops[i]?).bind (·.dst) with
   | some t => bif Nat.blt t N then (match y7 st.G t with
    | some .undef => skip st
    | some (.vl false [.cb c]) => bif c == b then run st else skip st
    | some (.vl false [.vr v]) => match (Vl st.env (.vr v)).bind cm.bool with
     | some c => bif c then (bif b then run ⟨st.n, st.env, (t, .vl false [.cb true]) :: st.G, st.O⟩ else skip ⟨st.n, st.env, (t, .vl false [.cb true]) :: st.G, st.O⟩)
       else (bif b then skip ⟨st.n, st.env, (t, .vl false [.cb false]) :: st.G, st.O⟩ else run ⟨st.n, st.env, (t, .vl false [.cb false]) :: st.G, st.O⟩)
     | none => none
    | _ => none) else none
   | none => none
variable {E : Env} {N : Nat} {K : KT R}
abbrev iR.bC (s : iR) (η : Nat → Hd) : Cx := ⟨s.n, s.env, η⟩
theorem Qw {T : FuncId → List bI} (hT : Nz P T) {H : Hints} {ops : Array Oper} {K : KT A} {k : iR → Option A} : ∀ (l : List Oper) (st : iR) (η : Nat → Hd), WF st.n st.env →
  (∀ st' lY, WF st'.n st'.env → Ext (st.bC η) (st'.bC lY) → gV E N .normal (k st') (dN (st'.bC lY) st'.G) (bL (st'.bC lY) st'.O) K) →
  uQ P E N (Yt P T H N ops l st k) ops l (dN (st.bC η) st.G) (bL (st.bC η) st.O) K
 | [], st, η, hw, hk => bg (hk st η hw (.refl _))
 | ⟨dst, op, ty, pos, fM, gd⟩ :: rest, bH, η, hw0, Ce => by
  -- the operation is carried out
  have hrun : ∀ (st : iR), WF st.n st.env → (∀ st' lY, WF st'.n st'.env → Ext (st.bC η) (st'.bC lY) → gV E N .normal (k st') (dN (st'.bC lY) st'.G) (bL (st'.bC lY) st'.O) K) →
    uQ P E N (match dst with
     | some d => bif Nat.blt d N then (HV P T (dG H.cons d) st op).bind fun st => (Vz P T (dG H.own d) st.n st.env st.G st.O op).run fun r =>
       Yt P T H N ops rest ⟨r.n' st.n, r.env' st.n st.env, (d, r.val) :: st.G, r.O' st.O⟩ k else none
     | none => (HV P T false st op).bind fun st => (Vz P T false st.n st.env st.G st.O op).run fun r =>
       Yt P T H N ops rest ⟨r.n' st.n, r.env' st.n st.env, st.G, r.O' st.O⟩ k) ops (⟨dst, op, ty, pos, fM, none⟩ :: rest) (dN (st.bC η) st.G) (bL (st.bC η) st.O) K := by
   intro st hw hk
   cases dst with
   | some d =>
    simp only
    cases hd : Nat.blt d N with
    | false => exact cM
    | true =>
     simp only [cond_true]
     refine pull fun st1 h1 => ?_
     have hkp := Lx h1
     have hw1 : WF st1.n st1.env := by rw [hkp.1, hkp.2.1]; exact hw
     have hcx : st1.bC η = st.bC η := by simp only [iR.bC, hkp.1, hkp.2.1]
     refine pE (Jb := dN (st1.bC η) st1.G) (fE := bL (st1.bC η) st1.O) (fun a w hs => by rw [hcx]; exact hkp.2.2 η a w hs) ?_
     refine w5 (Jz (E := E) (N := N) (ty := ty) hT hw1) fun r hr => ?_
     refine hr.step hw1 hd fun x => ?_
     refine Qw hT rest ⟨r.n' st1.n, r.env' st1.n st1.env, (d, r.val) :: st1.G, r.O' st1.O⟩ x.1 (dV.wf hw1 hr.src) fun st' lY hw' hx => hk st' lY hw' ?_
     show Ext (st.bC η) _
     rw [← hcx]
     exact (aM.ext hw1 hr.src x).trans hx
   | none =>
    simp only
    refine pull fun st1 h1 => ?_
    have hkp := Lx h1
    have hw1 : WF st1.n st1.env := by rw [hkp.1, hkp.2.1]; exact hw
    have hcx : st1.bC η = st.bC η := by simp only [iR.bC, hkp.1, hkp.2.1]
    refine pE (Jb := dN (st1.bC η) st1.G) (fE := bL (st1.bC η) st1.O) (fun a w hs => by rw [hcx]; exact hkp.2.2 η a w hs) ?_
    refine w5 (Jz (E := E) (N := N) (ty := ty) hT hw1) fun r hr => ?_
    refine hr.step0 hw1 fun x => ?_
    refine Qw hT rest ⟨r.n' st1.n, r.env' st1.n st1.env, st1.G, r.O' st1.O⟩ x.1 (dV.wf hw1 hr.src) fun st' lY hw' hx => hk st' lY hw' ?_
    show Ext (st.bC η) _
    rw [← hcx]
    exact (aM.ext hw1 hr.src x).trans hx
  -- it is left out
  have CF : ∀ (st : iR) (i : Nat) (b : Bool), WF st.n st.env → (∀ st' lY, WF st'.n st'.env → Ext (st.bC η) (st'.bC lY) → gV E N .normal (k st') (dN (st'.bC lY) st'.G) (bL (st'.bC lY) st'.O) K) →
    (∀ d, dst = some d → Nat.blt d N = true → uQ P E N (Yt P T H N ops rest ⟨st.n, st.env, (d, .undef) :: st.G, st.O⟩ k) ops rest ((d, pv Go.undef) :: dN (st.bC η) st.G) (bL (st.bC η) st.O) K →
     uQ P E N (Yt P T H N ops rest ⟨st.n, st.env, (d, .undef) :: st.G, st.O⟩ k) ops (⟨some d, op, ty, pos, fM, some (i, b)⟩ :: rest) (dN (st.bC η) st.G) (bL (st.bC η) st.O) K) →
    uQ P E N (match dst with
     | some d => bif Nat.blt d N then Yt P T H N ops rest ⟨st.n, st.env, (d, .undef) :: st.G, st.O⟩ k else none
     | none => none) ops (⟨dst, op, ty, pos, fM, some (i, b)⟩ :: rest) (dN (st.bC η) st.G) (bL (st.bC η) st.O) K := by
   intro st i b hw hk hoff
   cases dst with
   | none => exact cM
   | some d =>
    simp only
    cases hd : Nat.blt d N with
    | false => exact cM
    | true => exact hoff d rfl hd (Qw hT rest ⟨st.n, st.env, (d, .undef) :: st.G, st.O⟩ η hw hk)
  cases gd with
  | none => exact hrun bH hw0 Ce
  | some g =>
   obtain ⟨i, b⟩ := g
   unfold Yt
   simp only
   split
   ·rename_i t hi
    cases hN : Nat.blt t N with
    | false => exact cM
    | true =>
     simp only [cond_true]
     split
     ·rename_i hl
      have hlk : lk (dN (bH.bC η) bH.G) t = some (pv Go.undef) := by rw [iw, hl]; rfl
      exact CF bH i b hw0 Ce fun d _ hd h => s_offU hi hlk hd h
     ·rename_i c hl
      have hlk : lk (dN (bH.bC η) bH.G) t = some (bv c) := by rw [iw, hl]; rfl
      cases hcb : (c == b) with
      | true =>
       have : c = b := by simpa using hcb
       subst this
       exact s_on hi hlk hN (hrun bH hw0 Ce)
      | false => exact CF bH i b hw0 Ce fun d _ hd h => kE hi hlk hN hcb hd h
     ·rename_i v hl
      split
      ·rename_i c hc
       have hlk : lk (dN (bH.bC η) bH.G) t = some (bv c) := by
        rw [iw, hl]
        obtain ⟨D, h1, h2⟩ := Option.bind_eq_some_iff.1 hc
        show some ((At.vr v).rp (bH.bC η)) = _
        rw [(zQ (c := bH.bC η) h1).1, cm.I3 h2]
       refine E7 hlk (fun hct => ?_) (fun hcf => ?_)
       ·have MX : ∀ {Γ : List (Nat × RP)}, lk ((t, bv true) :: Γ) t = some (bv true) := jN
        cases b with
        | true => exact s_on hi MX hN (hrun ⟨bH.n, bH.env, (t, .vl false [.cb true]) :: bH.G, bH.O⟩ hw0 Ce)
        | false => exact CF ⟨bH.n, bH.env, (t, .vl false [.cb true]) :: bH.G, bH.O⟩ i false hw0 Ce fun d _ hd h => kE hi MX hN rfl hd h
       ·have MX : ∀ {Γ : List (Nat × RP)}, lk ((t, bv false) :: Γ) t = some (bv false) := jN
        cases b with
        | true => exact CF ⟨bH.n, bH.env, (t, .vl false [.cb false]) :: bH.G, bH.O⟩ i true hw0 Ce fun d _ hd h => kE hi MX hN rfl hd h
        | false => exact s_on hi MX hN (hrun ⟨bH.n, bH.env, (t, .vl false [.cb false]) :: bH.G, bH.O⟩ hw0 Ce)
      ·exact cM
     ·exact cM
   ·exact cM
end Go.Dc
namespace Go.Dc
variable [aq]
variable {P : Program} {E : Env} {N : Nat} {Γ : List (Nat × RP)} {Ω : List OB} {R : Type} {m : Option R} {K : KT R} {ops : Array Oper} {fl : List Nat}
variable (hok : lR ops fl = true) {l lA : Array Bool} {aV aA : Act} {w : World} {bp OD : List (Nat × List Nat)}
include hok
theorem Wv {X : Type} {i : Nat} {op : Op} {ty : TypeId} {pos : String} {fM : Array Edge} {gd : Option (Nat × Bool)} {dst : Option Nat} {js : List Nat} {φ : X → RP} {fE : X → List OB} (hi : ops[i]? = some ⟨dst, op, ty, pos, fM, gd⟩)
  (hf : dG fl i = false)
  (hr : ∀ a w, Sat E N Γ Ω a w → (Region.wanted ⟨dst, op, ty, pos, fM, gd⟩ (yielded ops a.tmps) = true ∧ opwp P op ty a.eval w fun v w' => ∃ x, Sat E N Γ (fE x) a w' ∧ (φ x).h (fr E (fE x)) w' v ∧ Eff Ω (fE x) js w w') ∨
   (Region.wanted ⟨dst, op, ty, pos, fM, gd⟩ (yielded ops a.tmps) = false ∧ ∃ x, Sat E N Γ (fE x) a w ∧ (φ x).h (fr E (fE x)) w undef ∧ Eff Ω (fE x) js w w))
  (hd : ∀ d, dst = some d → Nat.blt d N = true)
  (rP : ∀ x, Safe (bz ⟨dst, op, ty, pos, fM, gd⟩) js Ω (fE x) bp)
  (hp' : ∀ p J, (p, J) ∈ bp → p ∉ bz ⟨dst, op, ty, pos, fM, gd⟩ → (p, J) ∈ OD)
  (h : ∀ x, pG P E N m ops fl (l.setIfInBounds i true) OD (rD Γ dst (φ x)) (fE x) K) : ND P E N m ops fl l bp Γ Ω K i := by
 intro r hm aV w hs lA aA hc hiA hiR
 obtain ⟨_, o, ho, hpre⟩ := (jA hc.s2).1 hiR
 rw [hi] at ho; cases ho
 have KJ := hc.look hok hi hpre hiA
 have hiN : i < ops.size := (Array.getElem?_eq_some_iff.1 hi).1
 have his : i < l.size := by rw [hc.s1]; exact hiN
 have MY : i < lA.size := by rw [hc.s2]; exact hiN
 have hdN : ∀ d, dst = some d → d < N := fun d h => by simpa [Nat.blt_eq] using hd d h
 have key : ∀ v w', (∃ x, Sat E N Γ (fE x) aV w' ∧ (φ x).h (fr E (fE x)) w' v ∧ Eff Ω (fE x) js w w') →
   wpAny P .any ops (K r) (FD (lA.setIfInBounds i true)) (lA.setIfInBounds i true) (aA.put dst v) w' := ?key
 ·unfold wpOp
  simp only [hi]
  rw [mm (ops := ops) hc.ts KJ]
  rcases hr aV w hs with ⟨hw, hrr⟩ | ⟨hw, hrr⟩
  ·rw [if_pos hw]
   refine .inl ?_
   unfold Oper.wp
   rw [rV (ops := ops) (fun cs b => Region.noSelect_spec (oA hok) i _ cs b hi) KJ]
   exact DH.upon key (hrr _ rfl rfl)
  ·rw [if_neg (by simp [hw])]
   exact key _ _ hrr
 rintro v w' ⟨x, hs', hv, Um⟩
 have hsz := Um.size
 have oK : Sat E N (rD Γ dst (φ x)) (fE x) (aV.put dst v) w' := by
  unfold rD
  split
  ·rename_i d; exact hs'.put (hdN d rfl) hv
  ·exact hs'
 refine h x r hm _ w' oK _ _ ?_
 refine ⟨by simpa using hc.s1, by simpa using hc.s2, fun j hj => (dD his).2 (((dD MY).1 hj).imp id (hc.sub j)), fun j hj => ?_, fun j oj hj Qs e he hb => (dD his).2 ?_,
  by rw [lP, lP]; exact hc.ts, fun t ht => ?_, by cases dst <;> exact hc.df⟩
 ·rcases (dD his).1 hj with e | hj
  ·exact .inl ((dD MY).2 (.inl e))
  ·by_cases OW : C8 lA j
   ·exact .inl ((dD MY).2 (.inr OW))
   ·rcases hc.pd j hj with h2 | ⟨hjf, J, hJ, o', d', ho', hd', h3⟩
    ·exact absurd h2 OW
    ·have hnp : j ∉ bz ⟨dst, op, ty, pos, fM, gd⟩ := fun hp => by
      obtain ⟨e2, he, heq⟩ := List.mem_map.1 hp
      obtain ⟨he1, Yr⟩ := List.mem_filter.1 he
      exact OW (heq ▸ hpre e2 (Array.mem_toList_iff.1 he1) Yr)
     refine .inr ⟨hjf, J, hp' j J hJ hnp, o', d', ho', hd', ?_⟩
     have hij : j ≠ i := fun e => by rw [e, hf] at hjf; cases hjf
     -- the float j does not look at what i writes, nor write it
     have hno : ∀ t, t ∈ o'.looksAt ops ∨ o'.dst = some t → dst ≠ some t := fun t ht e => by
      rcases Mw hok hi ho' e (Ne.symm hij) ht with ⟨e2, he, hb, heq⟩ | ⟨e2, he, hb, heq⟩
      ·have := hc.dc j o' hj ho' e2 he hb
       rw [heq] at this
       rcases hc.pd i this with h4 | ⟨h4, _⟩
       ·exact hiA h4
       ·rw [h4] at hf; cases hf
      ·exact OW (heq ▸ hpre e2 he hb)
     have e0 : ∀ t, dst ≠ some t → (aV.put dst v).tmps.getD t undef = aV.tmps.getD t undef := fun t ht => by
      cases dst with
      | none => rfl
      | some d => exact iE fun e => ht (by rw [e])
     have e1 : ∀ t, t ∈ o'.looksAt ops → (aV.put dst v).tmps.getD t undef = aV.tmps.getD t undef := fun t ht => e0 t (hno t (.inl ht))
     rw [e0 d' (hno d' (.inr hd')), mm (ops := ops) lP e1, rV (ops := ops) (fun cs b => Region.noSelect_spec (oA hok) j o' cs b ho') e1]
     have hJs := Safe.at (rP x) j J hJ hnp
     refine h3.imp id fun ⟨hw, B, hB, hrun⟩ => ⟨hw, B, fun b hb => ?_, fun w'' hw'' => hrun w'' fun b hb => ?_⟩
     ·obtain ⟨uX, hbo⟩ := hB b hb
      exact ⟨by omega, hbo.elim (fun h => .inl fun hm => h (Um.own b uX hm)) fun ⟨k, hk, ob, jP, R8⟩ => .inr ⟨k, hk, ob, by rw [(hJs k hk).2]; exact jP, R8⟩⟩
     ·obtain ⟨uX, hbo⟩ := hB b hb
      rw [hw'' b hb]
      refine Um.keep b uX fun k hk ob jP R8 => ?_
      rcases hbo with h5 | ⟨q, hq, ob', hob', hbS'⟩
      ·exact h5 (Sat.me jP R8)
      ·exact disj hob' jP (fun e => (hJs q hq).1 (e ▸ hk)) hs.nd hbS' R8
 ·rcases (dD his).1 hj with e2 | hj
  ·subst e2
   rw [hi] at Qs; cases Qs
   exact .inr (hc.sub _ (hpre e he hb))
  ·exact .inr (hc.dc j oj hj Qs e he hb)
 ·cases dst with
  | none =>
   refine hc.ag t fun j oj hj hdj hl => ?_
   rcases (dD MY).1 (ht j oj hj hdj ((dD his).2 (.inr hl))) with e | e
   ·subst e; rw [hi] at hj; cases hj; cases hdj
   ·exact e
  | some d =>
   by_cases e : t = d
   ·subst e
    have hlt : t < aV.tmps.size := by rw [hs.sz]; exact hdN t rfl
    rw [sG hlt, sG (by rw [hc.ts]; exact hlt)]
   ·rw [iE e, iE e]
    refine hc.ag t fun j oj hj hdj hl => ?_
    rcases (dD MY).1 (ht j oj hj hdj ((dD his).2 (.inr hl))) with e2 | e2
    ·subst e2; rw [hi] at hj; cases hj; exact absurd (Option.some.inj hdj).symm e
    ·exact e2
theorem a_stP {X : Type} {i : Nat} {op : Op} {ty : TypeId} {pos : String} {fM : Array Edge} {dst : Option Nat} {js : List Nat} {φ : X → RP} {fE : X → List OB} (hi : ops[i]? = some ⟨dst, op, ty, pos, fM, none⟩)
  (hf : dG fl i = false) (hr : St P E N op ty Γ Ω js φ fE) (hd : ∀ d, dst = some d → Nat.blt d N = true)
  (rP : ∀ x, Safe (bz ⟨dst, op, ty, pos, fM, none⟩) js Ω (fE x) bp)
  (hp' : ∀ p J, (p, J) ∈ bp → p ∉ bz ⟨dst, op, ty, pos, fM, none⟩ → (p, J) ∈ OD)
  (h : ∀ x, pG P E N m ops fl (l.setIfInBounds i true) OD (rD Γ dst (φ x)) (fE x) K) : ND P E N m ops fl l bp Γ Ω K i :=
 Wv hok hi hf (fun a w hs => .inl ⟨by simp [Region.wanted], hr a w hs⟩) hd rP hp' h
theorem Wt {X : Type} {i g t : Nat} {b : Bool} {op : Op} {ty : TypeId} {pos : String} {fM : Array Edge} {dst : Option Nat} {js : List Nat} {φ : X → RP} {fE : X → List OB} (hi : ops[i]? = some ⟨dst, op, ty, pos, fM, some (g, b)⟩)
  (hg : (ops[g]?).bind (·.dst) = some t) (ht : lk Γ t = some (bv b)) (hN : Nat.blt t N = true)
  (hf : dG fl i = false) (hr : St P E N op ty Γ Ω js φ fE) (hd : ∀ d, dst = some d → Nat.blt d N = true)
  (rP : ∀ x, Safe (bz ⟨dst, op, ty, pos, fM, some (g, b)⟩) js Ω (fE x) bp)
  (hp' : ∀ p J, (p, J) ∈ bp → p ∉ bz ⟨dst, op, ty, pos, fM, some (g, b)⟩ → (p, J) ∈ OD)
  (h : ∀ x, pG P E N m ops fl (l.setIfInBounds i true) OD (rD Γ dst (φ x)) (fE x) K) : ND P E N m ops fl l bp Γ Ω K i :=
 Wv hok hi hf (fun a w hs => .inl ⟨by simp [Region.wanted, t_ hs hg ht hN], hr a w hs⟩) hd rP hp' h
omit hok [aq] in
theorem E4 {pre : List Nat} {bp : List (Nat × List Nat)} : ∀ p J, (p, J) ∈ bp → p ∉ pre → (p, J) ∈ bp.filter fun q => !dG pre q.1 := fun p J h hp => by
 refine List.mem_filter.2 ⟨h, ?_⟩
 cases hh : dG pre p with
 | false => rfl
 | true => exact absurd (fk.1 hh) hp
end Go.Dc
namespace Go.Dc
section
variable [qc] [aq]
def Calm (Ω fE : List OB) : Prop := (ow Ω).Nodup → (ow fE).Nodup ∧ ∀ (b : Nat) (J : List Nat), (b ∉ ow Ω ∨ ∃ j ∈ J, ∃ ob, Ω[j]? = some ob ∧ b ∈ ob.S) → (b ∉ ow fE ∨ ∃ j ∈ J, ∃ ob, fE[j]? = some ob ∧ b ∈ ob.S)
theorem Calm.refl (Ω : List OB) : Calm Ω Ω := fun h => ⟨h, fun _ _ h => h⟩
theorem Calm.trans {A B C : List OB} (h : Calm A B) (k : Calm B C) : Calm A C := fun hn => ⟨(k (h hn).1).1, fun b J hb => (k (h hn).1).2 b J ((h hn).2 b J hb)⟩
theorem calm_map {c : Cx} {f : At → At} {O : List MO} : Calm (bL c O) (bL c (y6 f O)) := fun hn => by
 refine ⟨by rw [HY]; exact hn, fun b J h => ?_⟩
 rw [HY]
 refine h.imp id fun ⟨j, hj, ob, h1, h2⟩ => ?_
 simp only [bL, List.getElem?_map] at h1
 obtain ⟨m, hm, rfl⟩ := Option.map_eq_some_iff.1 h1
 exact ⟨j, hj, (m.map f).ob c, by simp [bL, y6, hm], by rw [map_S]; exact h2⟩
theorem XZ {Ω : List OB} {j : Nat} {o : OB} (hj : Ω[j]? = some o) : Calm Ω (Ω.set j dead) := fun hn => by
 refine ⟨?_, UA hj hn⟩
 obtain ⟨A, B, rfl, rfl⟩ := nj hj
 rw [ko, jI]
 rw [jI] at hn
 simp only [dead, List.nil_append]
 exact hn.sublist (List.Sublist.append (List.Sublist.refl _) (List.sublist_append_right _ _))
theorem aaJ {st st' : iR} {o : Nat} (h : Iz st o = some st') (η : Nat → Hd) : Calm (bL ⟨st.n, st.env, η⟩ st.O) (bL ⟨st.n, st.env, η⟩ st'.O) := by
 unfold Iz at h
 split at h
 ·rename_i k i ho
  cases hb : Nat.blt k st.n && ((iQ st.env i).map bX.asF).getD false with
  | false => rw [hb] at h; cases h
  | true =>
   rw [hb] at h; cases h
   refine (calm_map (f := Ej k i)).trans ?_
   rw [xU]
   have hlt : o < (y6 (Ej k i) st.O).length := by simp only [y6, List.length_map]; exact (List.getElem?_eq_some_iff.1 ho).1
   exact XZ (o := ((y6 (Ej k i) st.O)[o]).ob ⟨st.n, st.env, η⟩) (by simp [bL, hlt])
 ·cases h
theorem kM : ∀ {os : List Nat} {st st' : iR}, qW os st = some st' → ∀ η, Calm (bL ⟨st.n, st.env, η⟩ st.O) (bL ⟨st.n, st.env, η⟩ st'.O)
 | [], st, st', h, η => by cases h; exact .refl _
 | o :: os, st, st', h, η => by
  unfold qW at h
  split at h
  ·exact kM h η
  ·obtain ⟨s1, h1, h2⟩ := Option.bind_eq_some_iff.1 h
   have h3 := kM h2 η
   have hk := GU h1
   rw [hk.1, hk.2.1] at h3
   exact (aaJ h1 η).trans h3
theorem mapG_cb {f : At → At} (hf : ∀ c : Bool, f (.cb c) = .cb c) {G : List (Nat × Sh)} {t : Nat} {c : Bool} (h : y7 G t = some (.vl false [.cb c])) : y7 (mapG f G) t = some (.vl false [.cb c]) := by
 rw [VI, h]; simp [Sh.map, hf]
theorem pz {t : Nat} {c : Bool} : ∀ {os : List Nat} {st st' : iR}, qW os st = some st' → y7 st.G t = some (.vl false [.cb c]) → y7 st'.G t = some (.vl false [.cb c])
 | [], st, st', h, hl => by cases h; exact hl
 | o :: os, st, st', h, hl => by
  unfold qW at h
  split at h
  ·exact pz h hl
  ·obtain ⟨s1, h1, h2⟩ := Option.bind_eq_some_iff.1 h
   refine pz h2 ?_
   unfold Iz at h1
   split at h1
   ·rename_i k i ho
    cases hb : Nat.blt k st.n && ((iQ st.env i).map bX.asF).getD false with
    | false => rw [hb] at h1; cases h1
    | true => rw [hb] at h1; cases h1; exact mapG_cb (fun _ => rfl) hl
   ·cases h1
end
variable [aq] {P : Program} [bl P] {R A : Type} {E : Env} {N : Nat}
theorem Gx {f : Nat} {ss : List Sh} {args : List Operand} {cs : List qd} {st st' : iR} : ∀ {l : List bI}, HU P f ss args cs st l = some st' → ∀ η, Calm (bL ⟨st.n, st.env, η⟩ st.O) (bL ⟨st.n, st.env, η⟩ st'.O)
 | [], h => by cases h
 | C :: r, h => by
  unfold HU at h
  split at h
  ·rename_i s1 h1
   split at h
   ·cases h; exact kM h1
   ·exact Gx h
  ·exact Gx h
theorem Oz {T : FuncId → List bI} {cons : Bool} {op : Op} {st st' : iR} (h : HV P T cons st op = some st') (η : Nat → Hd) : Calm (bL ⟨st.n, st.env, η⟩ st.O) (bL ⟨st.n, st.env, η⟩ st'.O) := by
 unfold HV at h
 split at h
 ·exact kM h η
 ·split at h
  ·exact kM h η
  ·exact kM h η
  ·cases h; exact .refl _
 ·exact kM h η
 ·cases cons with
  | true => cases h; exact .refl _
  | false => exact kM h η
 ·split at h
  ·exact kM h η
  ·cases h; exact .refl _
 ·split at h
  ·obtain ⟨ss, _, h⟩ := Option.bind_eq_some_iff.1 h
   exact Gx h η
  ·cases h
 ·cases h; exact .refl _
def qv (n : Nat) (env : List (Nat × bX)) (O : List MO) (pre js : List Nat) : List (Nat × List Nat) → Bool
 | [] => true
 | (p, J) :: r => (dG pre p || J.all fun j => !dG js j && match O[j]? with | some m => m.J_ n env | none => false) && qv n env O pre js r
theorem yL {c c' : Cx} (hx : Ext c c') {O O' : List MO} {pre js : List Nat} (hO : ∀ j, j ∉ js → j < O.length → O'[j]? = O[j]?) : ∀ {bp : List (Nat × List Nat)}, qv c.n c.env O pre js bp = true → Safe pre js (bL c O) (bL c' O') bp
 | [], _ => trivial
 | (p, J) :: r, h => by
  simp only [qv, Bool.and_eq_true, Bool.or_eq_true] at h
  refine ⟨?_, yL hx hO h.2⟩
  cases hp : dG pre p with
  | true => trivial
  | false =>
   simp only [cond_false]
   have h1 : (J.all fun j => !dG js j && match O[j]? with | some m => m.J_ c.n c.env | none => false) = true := h.1.resolve_left (by simp [hp])
   clear h hp
   induction J with
   | nil => trivial
   | cons j J ih =>
    simp only [List.all_cons, Bool.and_eq_true, Bool.not_eq_true'] at h1
    refine ⟨⟨h1.1.1, ?_⟩, ih (by simpa using h1.2)⟩
    have h2 := h1.1.2
    split at h2
    ·rename_i m hm
     have hlt := (List.getElem?_eq_some_iff.1 hm).1
     have h3 := hO j (fun hh => by have := h1.1.1; rw [fk.2 hh] at this; cases this) hlt
     simp only [bL, List.getElem?_map, h3, hm, Option.map_some]
     rw [MO.G5 hx h2]
    ·cases h2
def yl (pre : List Nat) (bp : List (Nat × List Nat)) : List (Nat × List Nat) := bp.filter fun q => !dG pre q.1
theorem dV.UY {r : dV} {O : List MO} {j : Nat} (hj : j ∉ r.upd.map (·.1)) (hlt : j < O.length) : (r.O' O)[j]? = O[j]? := by
 unfold dV.O'
 rw [List.getElem?_append_left (by rw [Rc]; exact hlt), HA hj]
open Classical in
noncomputable def mg {A : Type} (m1 m2 : Option A) : Option A := if m1 = m2 then m1 else none
theorem TU {A : Type} {m1 m2 : Option A} {r : A} (h : mg m1 m2 = some r) : m1 = some r ∧ m2 = some r := by
 unfold mg at h
 split at h
 ·rename_i e; exact ⟨h, e ▸ h⟩
 ·cases h
theorem uC {A : Type} {m : Option A} : mg m m = m := by unfold mg; rw [if_pos rfl]
noncomputable def Qb {A : Type} (f : Nat → Option A) : Nat → List Nat → Option A
 | i, [] => f i
 | i, j :: js => mg (f i) (Qb f j js)
theorem MC {A : Type} {f : Nat → Option A} {r : A} : ∀ {l : List Nat} {i : Nat}, Qb f i l = some r → f i = some r ∧ ∀ j ∈ l, f j = some r
  | [], i, h => ⟨h, fun j hj => by simp at hj⟩
  | k :: l, i, h => by
    obtain ⟨h1, h2⟩ := TU h
    obtain ⟨h3, h4⟩ := MC h2
    exact ⟨h1, fun j hj => by rcases List.mem_cons.1 hj with e | e
                              · rw [e]; exact h3
                              · exact h4 j e⟩
def ur (dst : Option Nat) (v : Sh) (G : List (Nat × Sh)) : List (Nat × Sh) := match dst with
 | some d => (d, v) :: G
 | none => G
def Sy : Option Nat → Nat
 | some d => d
 | none => 0
def Ex (N : Nat) : Option Nat → Bool
 | some d => Nat.blt d N
 | none => true
noncomputable def J3 (P : Program) [bl P] (T : FuncId → List bI) (H : Hints) (N : Nat) (ops : Array Oper) (fl : List Nat) : Nat → Array Bool → List (Nat × List Nat) → iR → (iR → Option A) → Option A
 | 0, l, _, st, k => bif Pd ops.size l then k st else none
 | m + 1, l, bp, st, k => match Region.ready .any ops l with
  | [] => none
  | i0 :: is => match (i0 :: is).find? (dG fl) with
   | some i => match ops[i]? with
    | some ⟨some d, op, ty, pos, fM, gd⟩ => bif Nat.blt d N && dG (Region.ready .any ops l) i && dG fl i then
      let run : iR → Option A := fun st => (HV P T (dG H.cons d) st op).bind fun st => bif st.O.all (MO.J_ st.n st.env) then (Vz P T (dG H.own d) st.n st.env st.G st.O op).run fun r =>
       bif E0 op && r.upd.isEmpty && r.new.isEmpty && Nat.beq r.nh 0 then J3 P T H N ops fl m (l.setIfInBounds i true) ((i, F4 st.G op) :: bp) ⟨r.n' st.n, r.env' st.n st.env, (d, r.val) :: st.G, r.O' st.O⟩ k else none else none
      let skip : iR → Option A := fun st => J3 P T H N ops fl m (l.setIfInBounds i true) ((i, []) :: bp) ⟨st.n, st.env, (d, .undef) :: st.G, st.O⟩ k
      match gd with
      | none => run st
      | some (g, b) => match (ops[g]?).bind (·.dst) with
       | some t => bif Nat.blt t N then (match y7 st.G t with
        | some .undef => skip st
        | some (.vl false [.cb c]) => bif c == b then run st else skip st
        | some (.vl false [.vr v]) => match (Vl st.env (.vr v)).bind cm.bool with
         | some c => bif c then (bif b then run ⟨st.n, st.env, (t, .vl false [.cb true]) :: st.G, st.O⟩ else skip ⟨st.n, st.env, (t, .vl false [.cb true]) :: st.G, st.O⟩)
           else (bif b then skip ⟨st.n, st.env, (t, .vl false [.cb false]) :: st.G, st.O⟩ else run ⟨st.n, st.env, (t, .vl false [.cb false]) :: st.G, st.O⟩)
         | none => none
        | _ => none) else none
       | none => none
     else none
    | _ => none
   | none => match is, ops[i0]? with
    | [], some ⟨dst, op, ty, pos, fM, gd⟩ => bif Ex N dst && !dG fl i0 then
      let pre := bz ⟨dst, op, ty, pos, fM, gd⟩
      let run0 : iR → Option A := fun st => (HV P T (dG H.cons (Sy dst)) st op).bind fun st => (Vz P T (dG H.own (Sy dst)) st.n st.env st.G st.O op).run fun r =>
       bif qv st.n st.env st.O pre (r.upd.map (·.1)) bp then J3 P T H N ops fl m (l.setIfInBounds i0 true) (yl pre bp) ⟨r.n' st.n, r.env' st.n st.env, ur dst r.val st.G, r.O' st.O⟩ k else none
      let run : iR → Option A := fun st => run0 st
      let skip : iR → Option A := fun st => bif qv st.n st.env st.O pre [] bp then J3 P T H N ops fl m (l.setIfInBounds i0 true) bp ⟨st.n, st.env, ur dst .undef st.G, st.O⟩ k else none
      match gd with
      | none => run st
      | some (g, b) => match (ops[g]?).bind (·.dst) with
       | some t => bif Nat.blt t N then (match y7 st.G t with
        | some .undef => skip st
        | some (.vl false [.cb c]) => bif c == b then run st else skip st
        | some (.vl false [.vr v]) => match (Vl st.env (.vr v)).bind cm.bool with
         | some c => bif c then (bif b then run ⟨st.n, st.env, (t, .vl false [.cb true]) :: st.G, st.O⟩ else skip ⟨st.n, st.env, (t, .vl false [.cb true]) :: st.G, st.O⟩)
           else (bif b then skip ⟨st.n, st.env, (t, .vl false [.cb false]) :: st.G, st.O⟩ else run ⟨st.n, st.env, (t, .vl false [.cb false]) :: st.G, st.O⟩)
         | none => none
        | _ => none) else none
       | none => none
     else none
    | _ :: _, _ => Qb (fun i => match ops[i]? with
     | some ⟨dst, op, ty, pos, fM, none⟩ => bif Ex N dst && !dG fl i then
       (Vz P T (dG H.own (Sy dst)) st.n st.env st.G st.O op).run fun r =>
        bif qv st.n st.env st.O (bz ⟨dst, op, ty, pos, fM, none⟩) (r.upd.map (·.1)) bp then J3 P T H N ops fl m (l.setIfInBounds i true) (yl (bz ⟨dst, op, ty, pos, fM, none⟩) bp) ⟨r.n' st.n, r.env' st.n st.env, ur dst r.val st.G, r.O' st.O⟩ k else none
      else none
     | some ⟨dst, op, ty, pos, fM, some (g, b)⟩ => (match (ops[g]?).bind (·.dst) with
      | some t => bif Nat.blt t N && (bif Ex N dst && !dG fl i then true else false) then (match y7 st.G t with
       | some .undef => bif qv st.n st.env st.O (bz ⟨dst, op, ty, pos, fM, some (g, b)⟩) [] bp then J3 P T H N ops fl m (l.setIfInBounds i true) bp ⟨st.n, st.env, ur dst .undef st.G, st.O⟩ k else none
       | some (.vl false [.cb c]) => bif c == b then
         (Vz P T (dG H.own (Sy dst)) st.n st.env st.G st.O op).run fun r =>
          bif qv st.n st.env st.O (bz ⟨dst, op, ty, pos, fM, some (g, b)⟩) (r.upd.map (·.1)) bp then J3 P T H N ops fl m (l.setIfInBounds i true) (yl (bz ⟨dst, op, ty, pos, fM, some (g, b)⟩) bp) ⟨r.n' st.n, r.env' st.n st.env, ur dst r.val st.G, r.O' st.O⟩ k else none
         else bif qv st.n st.env st.O (bz ⟨dst, op, ty, pos, fM, some (g, b)⟩) [] bp then J3 P T H N ops fl m (l.setIfInBounds i true) bp ⟨st.n, st.env, ur dst .undef st.G, st.O⟩ k else none
       | _ => none) else none
      | none => none)
     | _ => none) i0 is
    | _, _ => none
theorem Mj {t f : Nat} {c : Bool} {ss : List Sh} {args : List Operand} {cs : List qd} {st st' : iR} : ∀ {l : List bI}, HU P f ss args cs st l = some st' → y7 st.G t = some (.vl false [.cb c]) → y7 st'.G t = some (.vl false [.cb c])
 | [], h, _ => by cases h
 | C :: r, h, hl => by
  unfold HU at h
  split at h
  ·rename_i s1 h1
   split at h
   ·cases h; exact pz h1 hl
   ·exact Mj h hl
  ·exact Mj h hl
theorem Vs {T : FuncId → List bI} {cons : Bool} {op : Op} {st st' : iR} {t : Nat} {c : Bool} (h : HV P T cons st op = some st') (hl : y7 st.G t = some (.vl false [.cb c])) : y7 st'.G t = some (.vl false [.cb c]) := by
 unfold HV at h
 split at h
 ·exact pz h hl
 ·split at h
  ·exact pz h hl
  ·exact pz h hl
  ·cases h; exact hl
 ·exact pz h hl
 ·cases cons with
  | true => cases h; exact hl
  | false => exact pz h hl
 ·split at h
  ·exact pz h hl
  ·cases h; exact hl
 ·split at h
  ·obtain ⟨ss, _, h⟩ := Option.bind_eq_some_iff.1 h
   exact Mj h hl
  ·cases h
 ·cases h; exact hl
def Met (ops : Array Oper) (N : Nat) (G : List (Nat × Sh)) : Option (Nat × Bool) → Prop
 | none => True
 | some (g, b) => ∃ t, (ops[g]?).bind (·.dst) = some t ∧ Nat.blt t N = true ∧ y7 G t = some (.vl false [.cb b])
def Us (H : Hints) : Nat → List Oper → List Nat
 | _, [] => []
 | i, ⟨some d, op, _, _, _, _⟩ :: r => bif E0 op && !dG H.loud d then i :: Us H (i + 1) r else Us H (i + 1) r
 | i, ⟨none, _, _, _, _, _⟩ :: r => Us H (i + 1) r
theorem Ep {T : FuncId → List bI} (hT : Nz P T) {H : Hints} {ops : Array Oper} {fl : List Nat} (hok : lR ops fl = true) {K : KT A} {k : iR → Option A} : ∀ (m : Nat) (l : Array Bool) (bp : List (Nat × List Nat)) (st : iR) (η : Nat → Hd), WF st.n st.env →
  (∀ st' lY, WF st'.n st'.env → Ext (st.bC η) (st'.bC lY) → gV E N .normal (k st') (dN (st'.bC lY) st'.G) (bL (st'.bC lY) st'.O) K) →
  pG P E N (J3 P T H N ops fl m l bp st k) ops fl l bp (dN (st.bC η) st.G) (bL (st.bC η) st.O) K
 | 0, l, bp, st, η, hw, hk => by
  unfold J3
  cases hl : Pd ops.size l with
  | false => exact cM
  | true => exact a_fin hok hl (hk st η hw (.refl _))
 | m + 1, l, bp, bH, η, hw0, Ce => by
  unfold J3
  split
  ·exact cM
  ·rename_i i0 is hrs
   split
   · -- an operation that only looks
    rename_i i _
    split
    ·rename_i d op ty pos fM gd hi
     cases hb : Nat.blt d N && dG (Region.ready .any ops l) i && dG fl i with
     | false => exact cM
     | true =>
      simp only [Bool.and_eq_true] at hb
      obtain ⟨⟨hd, hrd⟩, hf⟩ := hb
      simp only [cond_true]
      have hrun : ∀ (st : iR), WF st.n st.env → (∀ st' lY, WF st'.n st'.env → Ext (st.bC η) (st'.bC lY) → gV E N .normal (k st') (dN (st'.bC lY) st'.G) (bL (st'.bC lY) st'.O) K) → Met ops N st.G gd →
        pG P E N ((HV P T (dG H.cons d) st op).bind fun st => bif st.O.all (MO.J_ st.n st.env) then (Vz P T (dG H.own d) st.n st.env st.G st.O op).run fun r =>
         bif E0 op && r.upd.isEmpty && r.new.isEmpty && Nat.beq r.nh 0 then J3 P T H N ops fl m (l.setIfInBounds i true) ((i, F4 st.G op) :: bp) ⟨r.n' st.n, r.env' st.n st.env, (d, r.val) :: st.G, r.O' st.O⟩ k else none else none)
         ops fl l bp (dN (st.bC η) st.G) (bL (st.bC η) st.O) K := by
       intro st hw hk hmet
       refine pull fun st1 h1 => ?_
       have hkp := Lx h1
       have hcm := Oz h1 η
       have hw1 : WF st1.n st1.env := by rw [hkp.1, hkp.2.1]; exact hw
       have hcx : st1.bC η = st.bC η := by simp only [iR.bC, hkp.1, hkp.2.1]
       refine a_of (Jb := dN (st1.bC η) st1.G) (fE := bL (st1.bC η) st1.O) (fun a w hs => by rw [hcx]; exact hkp.2.2 η a w hs) (fun hn => by rw [hcx]; exact (hcm hn).2) ?_
       cases y8 : st1.O.all (MO.J_ st1.n st1.env) with
       | false => exact cM
       | true =>
        simp only [cond_true]
        refine w5 (Jz (E := E) (N := N) (ty := ty) hT hw1) fun r hr => ?_
        cases hq : E0 op && r.upd.isEmpty && r.new.isEmpty && Nat.beq r.nh 0 with
        | false => exact cM
        | true =>
         simp only [Bool.and_eq_true, List.isEmpty_iff] at hq
         obtain ⟨⟨⟨q1, q2⟩, q3⟩, q4⟩ := hq
         have q4 := Nat.eq_of_beq_eq_true q4
         have hrdj := hr.rd q1 q2 q3 q4 η
         have hx1 := aM.ext hw1 hr.src ⟨η, fun _ _ => rfl⟩
         have hO : bL (r.bC st1.n st1.env η) (r.O' st1.O) = bL (st1.bC η) st1.O := by
          have e : r.O' st1.O = st1.O := by simp [dV.O', q2, q3, wU]
          rw [e]
          exact List.map_congr_left fun o ho => MO.G5 hx1 (List.all_eq_true.1 y8 o ho)
         have ih := Ep (H := H) hT hok (K := K) (k := k) m (l.setIfInBounds i true) ((i, F4 st1.G op) :: bp) ⟨r.n' st1.n, r.env' st1.n st1.env, (d, r.val) :: st1.G, r.O' st1.O⟩ η (dV.wf hw1 hr.src) fun st' lY hw' hx => hk st' lY hw' (by rw [← hcx]; exact hx1.trans hx)
         have ih2 : pG P E N (J3 P T H N ops fl m (l.setIfInBounds i true) ((i, F4 st1.G op) :: bp) ⟨r.n' st1.n, r.env' st1.n st1.env, (d, r.val) :: st1.G, r.O' st1.O⟩ k) ops fl (l.setIfInBounds i true) ((i, F4 st1.G op) :: bp)
           ((d, r.val.rp (r.bC st1.n st1.env η)) :: dN (st1.bC η) st1.G) (bL (st1.bC η) st1.O) K := by
          have ih' := ih
          rw [show bL (iR.bC ⟨r.n' st1.n, r.env' st1.n st1.env, (d, r.val) :: st1.G, r.O' st1.O⟩ η) (r.O' st1.O) = bL (st1.bC η) st1.O from hO] at ih'
          exact pE (fun a w hs => Sat.JH hx1 hs rfl) ih'
         cases gd with
         | none => exact Hp hok hi hrd hf hrdj hd ih2
         | some gb =>
          obtain ⟨g, b⟩ := gb
          obtain ⟨t, g1, g2, g3⟩ := hmet
          have hlk : lk (dN (st1.bC η) st1.G) t = some (bv b) := by rw [iw, Vs h1 g3]; rfl
          exact a_rdOn hok hi g1 hlk g2 hrd hf hrdj hd ih2
      have CF : ∀ (st : iR), WF st.n st.env → (∀ st' lY, WF st'.n st'.env → Ext (st.bC η) (st'.bC lY) → gV E N .normal (k st') (dN (st'.bC lY) st'.G) (bL (st'.bC lY) st'.O) K) →
        pG P E N (J3 P T H N ops fl m (l.setIfInBounds i true) ((i, []) :: bp) ⟨st.n, st.env, (d, .undef) :: st.G, st.O⟩ k) ops fl (l.setIfInBounds i true) ((i, []) :: bp) ((d, pv Go.undef) :: dN (st.bC η) st.G) (bL (st.bC η) st.O) K :=
       fun st hw hk => Ep (H := H) hT hok m (l.setIfInBounds i true) ((i, []) :: bp) ⟨st.n, st.env, (d, .undef) :: st.G, st.O⟩ η hw hk
      cases gd with
      | none => exact hrun bH hw0 Ce trivial
      | some gb =>
       obtain ⟨g, b⟩ := gb
       simp only
       split
       ·rename_i t hg
        cases hN : Nat.blt t N with
        | false => exact cM
        | true =>
         simp only [cond_true]
         split
         ·rename_i hl
          have hlk : lk (dN (bH.bC η) bH.G) t = some (pv Go.undef) := by rw [iw, hl]; rfl
          exact a_offU hok hi hg hlk hrd hf hd (CF bH hw0 Ce)
         ·rename_i c hl
          have hlk : lk (dN (bH.bC η) bH.G) t = some (bv c) := by rw [iw, hl]; rfl
          cases hcb : (c == b) with
          | true =>
           have : c = b := by simpa using hcb
           subst this
           exact hrun bH hw0 Ce ⟨t, hg, hN, hl⟩
          | false => exact a_off hok hi hg hlk hN hcb hrd hf hd (CF bH hw0 Ce)
         ·rename_i v hl
          split
          ·rename_i c hc
           have hlk : lk (dN (bH.bC η) bH.G) t = some (bv c) := by
            rw [iw, hl]
            obtain ⟨D, h1, h2⟩ := Option.bind_eq_some_iff.1 hc
            show some ((At.vr v).rp (bH.bC η)) = _
            rw [(zQ (c := bH.bC η) h1).1, cm.I3 h2]
           have MX : ∀ {Γ : List (Nat × RP)} {c : Bool}, lk ((t, bv c) :: Γ) t = some (bv c) := jN
           have hlG : ∀ {c : Bool}, y7 ((t, Sh.vl false [.cb c]) :: bH.G) t = some (.vl false [.cb c]) := by simp [y7]
           refine E7 hlk (fun hct => ?_) (fun hcf => ?_)
           ·cases b with
            | true => exact hrun ⟨bH.n, bH.env, (t, .vl false [.cb true]) :: bH.G, bH.O⟩ hw0 Ce ⟨t, hg, hN, hlG⟩
            | false => exact a_off hok hi hg MX hN rfl hrd hf hd (CF ⟨bH.n, bH.env, (t, .vl false [.cb true]) :: bH.G, bH.O⟩ hw0 Ce)
           ·cases b with
            | true => exact a_off hok hi hg MX hN rfl hrd hf hd (CF ⟨bH.n, bH.env, (t, .vl false [.cb false]) :: bH.G, bH.O⟩ hw0 Ce)
            | false => exact hrun ⟨bH.n, bH.env, (t, .vl false [.cb false]) :: bH.G, bH.O⟩ hw0 Ce ⟨t, hg, hN, hlG⟩
          ·exact cM
         ·exact cM
       ·exact cM
    ·exact cM
   ·split
    ·rename_i dst op ty pos fM gd hi h_find
     cases hb : Ex N dst && !dG fl i0 with
     | false => exact cM
     | true =>
      simp only [Bool.and_eq_true, Bool.not_eq_true'] at hb
      obtain ⟨hd, hf⟩ := hb
      have hd' : ∀ d, dst = some d → Nat.blt d N = true := fun d e => by subst e; exact hd
      simp only [cond_true]
      have hput : ∀ {c c' : Cx} {G : List (Nat × Sh)} {v : Sh} {Ω : List OB} {a : Act} {w : World}, Ext c c' → Sat E N (rD (dN c G) dst (v.rp c')) Ω a w →
        Sat E N (dN c' (ur dst v G)) Ω a w := by
       intro c c' G v Ω a w hx hs
       cases dst with
       | some d => exact Sat.JH hx hs rfl
       | none => exact Sat.Ic hx hs
      have hrun0 : ∀ (st : iR) (η : Nat → Hd), WF st.n st.env → (∀ st' lY, WF st'.n st'.env → Ext (st.bC η) (st'.bC lY) → gV E N .normal (k st') (dN (st'.bC lY) st'.G) (bL (st'.bC lY) st'.O) K) → Met ops N st.G gd →
        pG P E N ((HV P T (dG H.cons (Sy dst)) st op).bind fun st => (Vz P T (dG H.own (Sy dst)) st.n st.env st.G st.O op).run fun r =>
         bif qv st.n st.env st.O (bz ⟨dst, op, ty, pos, fM, gd⟩) (r.upd.map (·.1)) bp then J3 P T H N ops fl m (l.setIfInBounds i0 true) (yl (bz ⟨dst, op, ty, pos, fM, gd⟩) bp) ⟨r.n' st.n, r.env' st.n st.env, ur dst r.val st.G, r.O' st.O⟩ k else none)
         ops fl l bp (dN (st.bC η) st.G) (bL (st.bC η) st.O) K := by
       intro st η hw hk hmet
       refine pull fun st1 h1 => ?_
       have hkp := Lx h1
       have hcm := Oz h1 η
       have hw1 : WF st1.n st1.env := by rw [hkp.1, hkp.2.1]; exact hw
       have hcx : st1.bC η = st.bC η := by simp only [iR.bC, hkp.1, hkp.2.1]
       refine a_of (Jb := dN (st1.bC η) st1.G) (fE := bL (st1.bC η) st1.O) (fun a w hs => by rw [hcx]; exact hkp.2.2 η a w hs) (fun hn => by rw [hcx]; exact (hcm hn).2) ?_
       refine w5 (Jz (E := E) (N := N) (ty := ty) hT hw1) fun r hr => ?_
       cases y8 : qv st1.n st1.env st1.O (bz ⟨dst, op, ty, pos, fM, gd⟩) (r.upd.map (·.1)) bp with
       | false => exact cM
       | true =>
        simp only [cond_true]
        have rP : ∀ x : S_ st1.n η, Safe (bz ⟨dst, op, ty, pos, fM, gd⟩) (r.upd.map (·.1)) (bL (st1.bC η) st1.O) (bL (r.bC st1.n st1.env x.1) (r.O' st1.O)) bp := fun x =>
         yL (c := st1.bC η) (aM.ext hw1 hr.src x) (fun j hj hlt => dV.UY hj hlt) y8
        have ih : ∀ x : S_ st1.n η, pG P E N (J3 P T H N ops fl m (l.setIfInBounds i0 true) (yl (bz ⟨dst, op, ty, pos, fM, gd⟩) bp) ⟨r.n' st1.n, r.env' st1.n st1.env, ur dst r.val st1.G, r.O' st1.O⟩ k) ops fl (l.setIfInBounds i0 true) (yl (bz ⟨dst, op, ty, pos, fM, gd⟩) bp)
          (rD (dN (st1.bC η) st1.G) dst (r.val.rp (r.bC st1.n st1.env x.1))) (bL (r.bC st1.n st1.env x.1) (r.O' st1.O)) K := fun x =>
         pE (fun a w hs => hput (aM.ext hw1 hr.src x) hs) (Ep (H := H) hT hok (K := K) (k := k) m (l.setIfInBounds i0 true) (yl (bz ⟨dst, op, ty, pos, fM, gd⟩) bp) ⟨r.n' st1.n, r.env' st1.n st1.env, ur dst r.val st1.G, r.O' st1.O⟩ x.1 (dV.wf hw1 hr.src)
          fun st' lY hw' hx => hk st' lY hw' (by rw [← hcx]; exact (aM.ext hw1 hr.src x).trans hx))
        cases gd with
        | none => exact Km hok i0 [] hrs (a_stP hok hi hf (hr.st η) hd' rP E4 ih) trivial
        | some gb =>
         obtain ⟨g, b⟩ := gb
         obtain ⟨t, g1, g2, g3⟩ := hmet
         have hlk : lk (dN (st1.bC η) st1.G) t = some (bv b) := by rw [iw, Vs h1 g3]; rfl
         exact Km hok i0 [] hrs (Wt hok hi g1 hlk g2 hf (hr.st η) hd' rP E4 ih) trivial
      have hrun := fun (st : iR) => hrun0 st η
      have CF : ∀ (st : iR), WF st.n st.env → (∀ st' lY, WF st'.n st'.env → Ext (st.bC η) (st'.bC lY) → gV E N .normal (k st') (dN (st'.bC lY) st'.G) (bL (st'.bC lY) st'.O) K) →
        (Safe (bz ⟨dst, op, ty, pos, fM, gd⟩) [] (bL (st.bC η) st.O) (bL (st.bC η) st.O) bp →
         pG P E N (J3 P T H N ops fl m (l.setIfInBounds i0 true) bp ⟨st.n, st.env, ur dst .undef st.G, st.O⟩ k) ops fl (l.setIfInBounds i0 true) bp (rD (dN (st.bC η) st.G) dst (pv Go.undef)) (bL (st.bC η) st.O) K →
         pG P E N (J3 P T H N ops fl m (l.setIfInBounds i0 true) bp ⟨st.n, st.env, ur dst .undef st.G, st.O⟩ k) ops fl l bp (dN (st.bC η) st.G) (bL (st.bC η) st.O) K) →
        pG P E N (bif qv st.n st.env st.O (bz ⟨dst, op, ty, pos, fM, gd⟩) [] bp then J3 P T H N ops fl m (l.setIfInBounds i0 true) bp ⟨st.n, st.env, ur dst .undef st.G, st.O⟩ k else none) ops fl l bp (dN (st.bC η) st.G) (bL (st.bC η) st.O) K := by
       intro st hw hk hgo
       cases y8 : qv st.n st.env st.O (bz ⟨dst, op, ty, pos, fM, gd⟩) [] bp with
       | false => exact cM
       | true =>
        simp only [cond_true]
        refine hgo (yL (c := st.bC η) (.refl _) (fun _ _ _ => rfl) y8) ?_
        exact pE (fun a w hs => hput (v := .undef) (.refl _) hs) (Ep (H := H) hT hok (K := K) (k := k) m (l.setIfInBounds i0 true) bp ⟨st.n, st.env, ur dst .undef st.G, st.O⟩ η hw hk)
      cases gd with
      | none => exact hrun bH hw0 Ce trivial
      | some gb =>
       obtain ⟨g, b⟩ := gb
       simp only
       split
       ·rename_i t hg
        cases hN : Nat.blt t N with
        | false => exact cM
        | true =>
         simp only [cond_true]
         have off : ∀ (st : iR) {c : Bool}, lk (dN (st.bC η) st.G) t = some (bv c) → (c == b) = false → WF st.n st.env → (∀ st' lY, WF st'.n st'.env → Ext (st.bC η) (st'.bC lY) → gV E N .normal (k st') (dN (st'.bC lY) st'.G) (bL (st'.bC lY) st'.O) K) → _ :=
          fun st c hlk hcb hw hk => CF st hw hk fun hs h => Km hok i0 [] hrs (Wu hok hi hg hlk hN hcb hf hd' hs h) trivial
         split
         ·rename_i hl
          have hlk : lk (dN (bH.bC η) bH.G) t = some (pv Go.undef) := by rw [iw, hl]; rfl
          exact CF bH hw0 Ce fun hs h => Km hok i0 [] hrs (SV hok hi hg hlk hf hd' hs h) trivial
         ·rename_i c hl
          have hlk : lk (dN (bH.bC η) bH.G) t = some (bv c) := by rw [iw, hl]; rfl
          cases hcb : (c == b) with
          | true =>
           have : c = b := by simpa using hcb
           subst this
           exact hrun bH hw0 Ce ⟨t, hg, hN, hl⟩
          | false => exact off bH hlk hcb hw0 Ce
         ·rename_i v hl
          split
          ·rename_i c hc
           have hlk : lk (dN (bH.bC η) bH.G) t = some (bv c) := by
            rw [iw, hl]
            obtain ⟨D, h1, h2⟩ := Option.bind_eq_some_iff.1 hc
            show some ((At.vr v).rp (bH.bC η)) = _
            rw [(zQ (c := bH.bC η) h1).1, cm.I3 h2]
           have MX : ∀ {Γ : List (Nat × RP)} {c : Bool}, lk ((t, bv c) :: Γ) t = some (bv c) := jN
           have hlG : ∀ {c : Bool}, y7 ((t, Sh.vl false [.cb c]) :: bH.G) t = some (.vl false [.cb c]) := by simp [y7]
           refine E7 hlk (fun hct => ?_) (fun hcf => ?_)
           ·cases b with
            | true => exact hrun ⟨bH.n, bH.env, (t, .vl false [.cb true]) :: bH.G, bH.O⟩ hw0 Ce ⟨t, hg, hN, hlG⟩
            | false => exact off ⟨bH.n, bH.env, (t, .vl false [.cb true]) :: bH.G, bH.O⟩ (c := true) MX rfl hw0 Ce
           ·cases b with
            | true => exact off ⟨bH.n, bH.env, (t, .vl false [.cb false]) :: bH.G, bH.O⟩ (c := false) MX rfl hw0 Ce
            | false => exact hrun ⟨bH.n, bH.env, (t, .vl false [.cb false]) :: bH.G, bH.O⟩ hw0 Ce ⟨t, hg, hN, hlG⟩
          ·exact cM
         ·exact cM
       ·exact cM
    ·rename_i i1 is1 _ _
     have each : ∀ i : Nat, ND P E N (match ops[i]? with
       | some ⟨dst, op, ty, pos, fM, none⟩ => bif Ex N dst && !dG fl i then
         (Vz P T (dG H.own (Sy dst)) bH.n bH.env bH.G bH.O op).run fun r =>
          bif qv bH.n bH.env bH.O (bz ⟨dst, op, ty, pos, fM, none⟩) (r.upd.map (·.1)) bp then J3 P T H N ops fl m (l.setIfInBounds i true) (yl (bz ⟨dst, op, ty, pos, fM, none⟩) bp) ⟨r.n' bH.n, r.env' bH.n bH.env, ur dst r.val bH.G, r.O' bH.O⟩ k else none
        else none
       | some ⟨dst, op, ty, pos, fM, some (g, b)⟩ => (match (ops[g]?).bind (·.dst) with
        | some t => bif Nat.blt t N && (bif Ex N dst && !dG fl i then true else false) then (match y7 bH.G t with
         | some .undef => bif qv bH.n bH.env bH.O (bz ⟨dst, op, ty, pos, fM, some (g, b)⟩) [] bp then J3 P T H N ops fl m (l.setIfInBounds i true) bp ⟨bH.n, bH.env, ur dst .undef bH.G, bH.O⟩ k else none
         | some (.vl false [.cb c]) => bif c == b then
           (Vz P T (dG H.own (Sy dst)) bH.n bH.env bH.G bH.O op).run fun r =>
            bif qv bH.n bH.env bH.O (bz ⟨dst, op, ty, pos, fM, some (g, b)⟩) (r.upd.map (·.1)) bp then J3 P T H N ops fl m (l.setIfInBounds i true) (yl (bz ⟨dst, op, ty, pos, fM, some (g, b)⟩) bp) ⟨r.n' bH.n, r.env' bH.n bH.env, ur dst r.val bH.G, r.O' bH.O⟩ k else none
           else bif qv bH.n bH.env bH.O (bz ⟨dst, op, ty, pos, fM, some (g, b)⟩) [] bp then J3 P T H N ops fl m (l.setIfInBounds i true) bp ⟨bH.n, bH.env, ur dst .undef bH.G, bH.O⟩ k else none
         | _ => none) else none
        | none => none)
       | _ => none) ops fl l bp (dN (bH.bC η) bH.G) (bL (bH.bC η) bH.O) K i := by
      intro i
      split
      ·rename_i dst op ty pos fM hi
       cases hb : Ex N dst && !dG fl i with
       | false => exact cM
       | true =>
        simp only [Bool.and_eq_true, Bool.not_eq_true'] at hb
        obtain ⟨hd, hf⟩ := hb
        have hd' : ∀ d, dst = some d → Nat.blt d N = true := fun d e => by subst e; exact hd
        simp only [cond_true]
        refine w5 (Jz (E := E) (N := N) (ty := ty) hT hw0) fun r hr => ?_
        cases y8 : qv bH.n bH.env bH.O (bz ⟨dst, op, ty, pos, fM, none⟩) (r.upd.map (·.1)) bp with
        | false => exact cM
        | true =>
         simp only [cond_true]
         have rP : ∀ x : S_ bH.n η, Safe (bz ⟨dst, op, ty, pos, fM, none⟩) (r.upd.map (·.1)) (bL (bH.bC η) bH.O) (bL (r.bC bH.n bH.env x.1) (r.O' bH.O)) bp := fun x =>
          yL (c := bH.bC η) (aM.ext hw0 hr.src x) (fun j hj hlt => dV.UY hj hlt) y8
         have hput : ∀ {c c' : Cx} {G : List (Nat × Sh)} {v : Sh} {Ω : List OB} {a : Act} {w : World}, Ext c c' → Sat E N (rD (dN c G) dst (v.rp c')) Ω a w → Sat E N (dN c' (ur dst v G)) Ω a w := by
          intro c c' G v Ω a w hx hs
          cases dst with
          | some d => exact Sat.JH hx hs rfl
          | none => exact Sat.Ic hx hs
         have ih : ∀ x : S_ bH.n η, pG P E N (J3 P T H N ops fl m (l.setIfInBounds i true) (yl (bz ⟨dst, op, ty, pos, fM, none⟩) bp) ⟨r.n' bH.n, r.env' bH.n bH.env, ur dst r.val bH.G, r.O' bH.O⟩ k) ops fl (l.setIfInBounds i true) (yl (bz ⟨dst, op, ty, pos, fM, none⟩) bp)
           (rD (dN (bH.bC η) bH.G) dst (r.val.rp (r.bC bH.n bH.env x.1))) (bL (r.bC bH.n bH.env x.1) (r.O' bH.O)) K := fun x =>
          pE (fun a w hs => hput (aM.ext hw0 hr.src x) hs) (Ep (H := H) hT hok (K := K) (k := k) m (l.setIfInBounds i true) (yl (bz ⟨dst, op, ty, pos, fM, none⟩) bp) ⟨r.n' bH.n, r.env' bH.n bH.env, ur dst r.val bH.G, r.O' bH.O⟩ x.1 (dV.wf hw0 hr.src)
           fun st' lY hw' hx => Ce st' lY hw' ((aM.ext hw0 hr.src x).trans hx))
         exact a_stP hok hi hf (hr.st η) hd' rP E4 ih
      ·rename_i dst op ty pos fM g b hi
       split
       ·rename_i t hg
        cases hN2 : Nat.blt t N && (bif Ex N dst && !dG fl i then true else false) with
        | false => exact cM
        | true =>
         simp only [Bool.and_eq_true] at hN2
         obtain ⟨hN, hN3⟩ := hN2
         simp only [cond_true]
         have hbb : Ex N dst = true ∧ dG fl i = false := by
          cases hb : Ex N dst && !dG fl i with
          | false => rw [hb] at hN3; cases hN3
          | true => simpa using hb
         have hdd : ∀ d, dst = some d → Nat.blt d N = true := fun d e => by subst e; exact hbb.1
         have hput0 : ∀ {c : Cx} {G : List (Nat × Sh)} {Ω : List OB} {a : Act} {w : World}, Sat E N (rD (dN c G) dst (pv Go.undef)) Ω a w → Sat E N (dN c (ur dst .undef G)) Ω a w := by
          intro c G Ω a w hs
          cases dst with
          | some d => exact Sat.JH (.refl _) hs rfl
          | none => exact Sat.Ic (.refl _) hs
         have hsk : pG P E N (J3 P T H N ops fl m (l.setIfInBounds i true) bp ⟨bH.n, bH.env, ur dst .undef bH.G, bH.O⟩ k) ops fl (l.setIfInBounds i true) bp (rD (dN (bH.bC η) bH.G) dst (pv Go.undef)) (bL (bH.bC η) bH.O) K :=
          pE (fun a w hs => hput0 hs) (Ep (H := H) hT hok (K := K) (k := k) m (l.setIfInBounds i true) bp ⟨bH.n, bH.env, ur dst .undef bH.G, bH.O⟩ η hw0 Ce)
         split
         ·rename_i hl
          have hlk : lk (dN (bH.bC η) bH.G) t = some (pv Go.undef) := by rw [iw, hl]; rfl
          cases y8 : qv bH.n bH.env bH.O (bz ⟨dst, op, ty, pos, fM, some (g, b)⟩) [] bp with
          | false => exact cM
          | true => exact SV hok hi hg hlk hbb.2 hdd (yL (c := bH.bC η) (.refl _) (fun _ _ _ => rfl) y8) hsk
         ·rename_i c hl
          cases hcb : (c == b) with
          | false =>
           have hlk : lk (dN (bH.bC η) bH.G) t = some (bv c) := by rw [iw, hl]; rfl
           simp only [cond_false]
           cases y8 : qv bH.n bH.env bH.O (bz ⟨dst, op, ty, pos, fM, some (g, b)⟩) [] bp with
           | false => exact cM
           | true => exact Wu hok hi hg hlk hN hcb hbb.2 hdd (yL (c := bH.bC η) (.refl _) (fun _ _ _ => rfl) y8) hsk
          | true =>
          have hcb' : c = b := by simpa using hcb
          subst hcb'
          have hlk : lk (dN (bH.bC η) bH.G) t = some (bv c) := by rw [iw, hl]; rfl
          simp only [cond_true]
          cases hb : Ex N dst && !dG fl i with
          | false => rw [hb] at hN3; cases hN3
          | true =>
           simp only [Bool.and_eq_true, Bool.not_eq_true'] at hb
           obtain ⟨hd, hf⟩ := hb
           have hd' : ∀ d, dst = some d → Nat.blt d N = true := fun d e => by subst e; exact hd
           refine w5 (Jz (E := E) (N := N) (ty := ty) hT hw0) fun r hr => ?_
           cases y8 : qv bH.n bH.env bH.O (bz ⟨dst, op, ty, pos, fM, some (g, c)⟩) (r.upd.map (·.1)) bp with
           | false => exact cM
           | true =>
            simp only [cond_true]
            have rP : ∀ x : S_ bH.n η, Safe (bz ⟨dst, op, ty, pos, fM, some (g, c)⟩) (r.upd.map (·.1)) (bL (bH.bC η) bH.O) (bL (r.bC bH.n bH.env x.1) (r.O' bH.O)) bp := fun x =>
             yL (c := bH.bC η) (aM.ext hw0 hr.src x) (fun j hj hlt => dV.UY hj hlt) y8
            have hput : ∀ {c c' : Cx} {G : List (Nat × Sh)} {v : Sh} {Ω : List OB} {a : Act} {w : World}, Ext c c' → Sat E N (rD (dN c G) dst (v.rp c')) Ω a w → Sat E N (dN c' (ur dst v G)) Ω a w := by
             intro c c' G v Ω a w hx hs
             cases dst with
             | some d => exact Sat.JH hx hs rfl
             | none => exact Sat.Ic hx hs
            have ih : ∀ x : S_ bH.n η, pG P E N (J3 P T H N ops fl m (l.setIfInBounds i true) (yl (bz ⟨dst, op, ty, pos, fM, some (g, c)⟩) bp) ⟨r.n' bH.n, r.env' bH.n bH.env, ur dst r.val bH.G, r.O' bH.O⟩ k) ops fl (l.setIfInBounds i true) (yl (bz ⟨dst, op, ty, pos, fM, some (g, c)⟩) bp)
              (rD (dN (bH.bC η) bH.G) dst (r.val.rp (r.bC bH.n bH.env x.1))) (bL (r.bC bH.n bH.env x.1) (r.O' bH.O)) K := fun x =>
             pE (fun a w hs => hput (aM.ext hw0 hr.src x) hs) (Ep (H := H) hT hok (K := K) (k := k) m (l.setIfInBounds i true) (yl (bz ⟨dst, op, ty, pos, fM, some (g, c)⟩) bp) ⟨r.n' bH.n, r.env' bH.n bH.env, ur dst r.val bH.G, r.O' bH.O⟩ x.1 (dV.wf hw0 hr.src)
              fun st' lY hw' hx => Ce st' lY hw' ((aM.ext hw0 hr.src x).trans hx))
            exact Wt hok hi hg hlk hN hf (hr.st η) hd' rP E4 ih
         ·exact cM
       ·exact cM
      ·exact cM
     refine a_all hok hrs (by simp) fun j hj => ?_
     intro r hr
     obtain ⟨h1, h2⟩ := MC hr
     rcases List.mem_cons.1 hj with e | e
     ·rw [e]; exact each i0 r h1
     ·exact each j r (h2 j e)
    ·exact cM
end Go.Dc
namespace Go.Dc
variable [aq] {P : Program} [bl P] {R : Type}
def scopeK {A : Type} (K : KT A) : KT A := fun r => Exit.noGoto (K r)
noncomputable def ev (P : Program) [bl P] (T : FuncId → List bI) (H : Hints) (N : Nat) (ret : iR → Option R) : (c : Code) → {A : Type} → Option (R → A) → iR → (iR → Option A) → (Nat → iR → Option A) → Option A
  | .skip, _, _, st, kn, _ => kn st
  | .label _, _, _, st, kn, _ => kn st
  | .exit i, _, _, st, _, kx => kx i st
  | .ret, _, wr, st, _, _ => match wr with
    | some f => (ret st).map f
    | none => none
  | .region _ ops draw, _, _, st, kn, _ => bif draw then (bif P.follows .mixedOrders && lR ops.toList.toArray (Us H 0 ops.toList) then J3 P T H N ops.toList.toArray (Us H 0 ops.toList) ops.toList.length (Array.replicate ops.toList.length false) [] st kn else none) else Yt P T H N ops ops.toList st kn
  | .seq a b, _, wr, st, kn, kx => match lkH H.join (IB b) with
    | none => ev P T H N ret a wr st (fun st => ev P T H N ret b wr st kn kx) kx
    | some (cv, hp) => match hp.at st with
      | some p => dx (fun j => (p.inst P st.n st.env j).bind fun st => ev P T H N ret b wr st kn kx) fun kj => ev P T H N ret a wr st (fun st1 => (convs P cv st1).bind fun st1 => (p.read P st.n st.env st1).bind kj) kx
      | none => none
  | .cond x a b, _, wr, st, kn, kx => match CA st.G x with
    | some (.cb true) => ev P T H N ret a wr st kn kx
    | some (.cb false) => ev P T H N ret b wr st kn kx
    | some (.vr i) => match (Vl st.env (.vr i)).bind cm.bool with
      | some c => bif c then ev P T H N ret a wr st kn kx else ev P T H N ret b wr st kn kx
      | none => none
    | _ => none
  | .block id (.loop body), _, wr, st, kn, kx => match lkH H.loop id with
    | none => none
    | some h => (convs P h.conv st).bind fun st1 => match h.head.at st1 with
      | none => none
      | some p => (p.read P st1.n st1.env st1).bind fun s0 => match h.out with
      | some (oi, co, ho) => (match h.brk with
        | some (cb, hb) => bif Nat.beq oi id then none else (match hb.at st1, ho.at st1 with
          | some pb, some po => (aI (fun s => (p.inst P st1.n st1.env s).bind fun st2 => ev P T H N ret body (A := Sum (Sum (Sum R (vQ po.ts)) (vQ pb.ts)) (vQ p.ts)) (bif h.rets then some (fun r => .inl (.inl (.inl r))) else none) st2
              (fun xy => (convs P h.back xy).bind fun xy => (p.read P st1.n st1.env xy).map fun s => .inr s)
              (fun i xy => bif Nat.beq i id then (convs P cb xy).bind fun xy => (pb.read P st1.n st1.env xy).map fun q => .inl (.inr q)
                else bif Nat.beq i oi then (convs P co xy).bind fun xy => (po.read P st1.n st1.env xy).map fun q => .inl (.inl (.inr q)) else none)) s0).bind
              (eH (eH (fun r => wr.bind fun f => some (f r)) fun q => (po.inst P st1.n st1.env q).bind (kx oi)) fun q => (pb.inst P st1.n st1.env q).bind kn)
          | _, _ => none)
        | none => none)
      | none => match h.brk, h.rets, wr with
        | some (cb, hb), true, some wr => match hb.at st1 with
          | none => none
          | some pb => (aI (fun s => (p.inst P st1.n st1.env s).bind fun st2 => ev P T H N ret body (A := Sum (Sum R (vQ pb.ts)) (vQ p.ts)) (some fun r => .inl (.inl r)) st2
              (fun xy => (convs P h.back xy).bind fun xy => (p.read P st1.n st1.env xy).map fun s => .inr s)
              (fun i xy => bif Nat.beq i id then (convs P cb xy).bind fun xy => (pb.read P st1.n st1.env xy).map fun q => .inl (.inr q) else none)) s0).bind
              (eH (fun r => some (wr r)) fun q => (pb.inst P st1.n st1.env q).bind kn)
        | some (cb, hb), false, _ => match hb.at st1 with
          | none => none
          | some pb => (aI (fun s => (p.inst P st1.n st1.env s).bind fun st2 => ev P T H N ret body (A := Sum (vQ pb.ts) (vQ p.ts)) none st2
              (fun xy => (convs P h.back xy).bind fun xy => (p.read P st1.n st1.env xy).map fun s => .inr s)
              (fun i xy => bif Nat.beq i id then (convs P cb xy).bind fun xy => (pb.read P st1.n st1.env xy).map fun q => .inl q else none)) s0).bind
              fun q => (pb.inst P st1.n st1.env q).bind kn
        | none, _, some wr => (aI (fun s => (p.inst P st1.n st1.env s).bind fun st2 => ev P T H N ret body (A := Sum R (vQ p.ts)) (some fun r => .inl r) st2
              (fun xy => (convs P h.back xy).bind fun xy => (p.read P st1.n st1.env xy).map fun s => .inr s) (fun _ _ => none)) s0).bind fun r => some (wr r)
        | _, _, _ => none
  | .scope c, _, wr, st, kn, kx => ev P T H N ret c wr st kn kx
  | .block id c, _, wr, st, kn, kx => ev P T H N ret c wr st kn (fun i st => bif Nat.beq i id then kn st else kx i st)
  | _, _, _, _, _, _ => none
variable {E : Env} {N : Nat}
abbrev KOk {A : Type} (E : Env) (N : Nat) (e : Exit) (st : iR) (η : Nat → Hd) (k : iR → Option A) (K : KT A) : Prop :=
 ∀ st' lY, WF st'.n st'.env → Ext (st.bC η) (st'.bC lY) → gV E N e (k st') (dN (st'.bC lY) st'.G) (bL (st'.bC lY) st'.O) K
theorem KOk.ext {A : Type} {e : Exit} {st st1 : iR} {η mW : Nat → Hd} {k : iR → Option A} {K : KT A} (h : KOk E N e st η k K) (hx : Ext (st.bC η) (st1.bC mW)) : KOk E N e st1 mW k K :=
 fun st' lY hw hx' => h st' lY hw (hx.trans hx')
theorem Cp {A : Type} {e : Exit} {cv : List Conv} {st : iR} {η : Nat → Hd} (hw : WF st.n st.env) {k : iR → Option A} {K : KT A} (h : KOk E N e st η k K) :
  gV E N e ((convs P cv st).bind k) (dN (st.bC η) st.G) (bL (st.bC η) st.O) K :=
 pull fun st1 h1 => by
  obtain ⟨hw1, mW, hx, hs⟩ := qu (E := E) (N := N) h1 hw η
  exact pE hs (h st1 mW hw1 hx)
def EvOk (P : Program) [bl P] (E : Env) (N : Nat) (T : FuncId → List bI) (H : Hints) (ret : iR → Option R) (c : Code) : Prop :=
 ∀ (A : Type) (wr : Option (R → A)) (st : iR) (η : Nat → Hd) (kn : iR → Option A) (kx : Nat → iR → Option A) (K : KT A), WF st.n st.env →
  KOk E N .normal st η kn K → (∀ i, KOk E N (.exit i) st η (kx i) K) → (∀ f, wr = some f → KOk E N .ret st η (fun s => (ret s).map f) K) →
  Ref P E N (ev P T H N ret c wr st kn kx) c (dN (st.bC η) st.G) (bL (st.bC η) st.O) K
theorem ev_block {T : FuncId → List bI} {H : Hints} {ret : iR → Option R} {id : Nat} {c : Code} (ih : EvOk P E N T H ret c) (hl : ∀ body, c = .loop body → EvOk P E N T H ret body) : EvOk P E N T H ret (.block id c) := by
 intro A wr st η kn kx K hw hn hx hr
 have plain : Ref P E N (ev P T H N ret c wr st kn (fun i st => bif Nat.beq i id then kn st else kx i st)) (.block id c) (dN (st.bC η) st.G) (bL (st.bC η) st.O) K := by
  refine gB (ih A wr st η kn _ (Cr id K) hw (fun st1 mW hw1 hx1 => qC (hn st1 mW hw1 hx1)) (fun i st1 mW hw1 hx1 => ?_) (fun f hf st1 mW hw1 hx1 => eG (hr f hf st1 mW hw1 hx1)))
  cases hb : Nat.beq i id with
  | true =>
   obtain rfl := Nat.eq_of_beq_eq_true hb
   exact x_eq (hn st1 mW hw1 hx1)
  | false => exact x_ne hb (hx i st1 mW hw1 hx1)
 cases c with
 | loop body =>
  have hb := hl body rfl
  unfold ev
  split
  ·exact cM
  ·rename_i h _
   refine pull fun st1 h1 => ?_
   obtain ⟨hw1, mW, hx1, hs1⟩ := qu (E := E) (N := N) h1 hw η
   refine pE hs1 ?_
   split
   ·exact cM
   ·rename_i p _
    refine pull fun s0 h0 => ?_
    obtain ⟨hs0, hfx0, VS⟩ := Ac.BN (E := E) (N := N) (c0 := st1.bC mW) h0 (.refl _)
    -- the way back
    have back : ∀ {A' : Type} {K' : KT A'} {g : vQ p.ts → A'} (st2 : iR) (NI : Nat → Hd), Ext (st1.bC mW) (st2.bC NI) →
      (∀ s' (x : { hs : Nat → Hd // Kq (st1.bC mW) p hs }) {Γ : List (Nat × RP)} {Ω : List OB}, (∀ a w, Sat E N Γ Ω a w → Sat E N (p.Γ (st1.bC mW) (leaf P p.ts s') x.1) (p.Ω (st1.bC mW) (leaf P p.ts s') x.1) a w) → gV E N .normal (some (g s')) Γ Ω K') →
      KOk E N .normal st2 NI (fun xy => (convs P h.back xy).bind fun xy => (p.read P st1.n st1.env xy).map g) K' := by
     intro A' K' g st2 NI hx2 hg xy η3 Ug hx3
     refine Cp Ug fun st4 η4 hw4 hx4 => ?_
     intro r hr4
     obtain ⟨s', hs', rfl⟩ := Option.map_eq_some_iff.1 hr4
     obtain ⟨hs, MZ, oK⟩ := Ac.BN (E := E) (N := N) (c0 := st1.bC mW) hs' ((hx2.trans hx3).trans hx4)
     exact hg s' ⟨hs, MZ⟩ oK _ rfl
    split
    ·rename_i oi co ho _
     split
     ·rename_i cb hb' _
      cases hoi : Nat.beq oi id with
      | true => exact cM
      | false =>
       simp only [cond_false]
       split
       ·rename_i pb po _ _
        refine nC (X := { hs : Nat → Hd // Kq (st1.bC mW) p hs }) (Y := { hs : Nat → Hd // Kq (st1.bC mW) pb hs })
         (r_ := fun s x => p.Γ (st1.bC mW) (leaf P p.ts s) x.1) (r9 := fun s x => p.Ω (st1.bC mW) (leaf P p.ts s) x.1)
         (CS := fun s x => pb.Γ (st1.bC mW) (leaf P pb.ts s) x.1) (CR := fun s x => pb.Ω (st1.bC mW) (leaf P pb.ts s) x.1) s0 ⟨hs0, hfx0⟩ VS (fun s x => ?_) (fun q y => ?_)
        ·refine pull fun st2 h2 => ?_
         obtain ⟨NI, e1, e2, K7, hx2⟩ := Ac.xh (c0 := st1.bC mW) hw1 h2 x.2
         rw [← e1, ← e2]
         refine hb (Sum (Sum (Sum R (vQ po.ts)) (vQ pb.ts)) (vQ p.ts)) (bif h.rets then some (fun r => .inl (.inl (.inl r))) else none) st2 NI _ _ _ K7
          (back (g := Sum.inr) st2 NI hx2 fun s' x' _ _ hh => goX x' hh) (fun i xy η3 Ug hx3 => ?_) (fun f' hf' xy η3 Ug hx3 => ?_)
         ·cases hi : Nat.beq i id with
          | true =>
           obtain rfl := Nat.eq_of_beq_eq_true hi
           refine Cp Ug fun st4 η4 hw4 hx4 => ?_
           intro r hr4
           obtain ⟨q, hq, rfl⟩ := Option.map_eq_some_iff.1 hr4
           obtain ⟨hs, MZ, oK⟩ := Ac.BN (E := E) (N := N) (c0 := st1.bC mW) hq ((hx2.trans hx3).trans hx4)
           exact N6 ⟨hs, MZ⟩ oK _ rfl
          | false =>
           simp only [cond_false]
           cases hio : Nat.beq i oi with
           | false => exact cM
           | true =>
            obtain rfl := Nat.eq_of_beq_eq_true hio
            refine Cp Ug fun st4 η4 hw4 hx4 => ?_
            intro r hr4
            obtain ⟨q, hq, rfl⟩ := Option.map_eq_some_iff.1 hr4
            obtain ⟨hs, MZ, oK⟩ := Ac.BN (E := E) (N := N) (c0 := st1.bC mW) hq ((hx2.trans hx3).trans hx4)
            refine outX (x_ne hoi (pE oK ?_)) _ rfl
            refine pull fun st5 h5 => ?_
            obtain ⟨η5, e5, e6, hw5, hx5⟩ := Ac.xh (c0 := st1.bC mW) hw1 h5 MZ
            have h6 := hx i st5 η5 hw5 (hx1.trans hx5)
            rw [← e5, ← e6]; exact h6
         ·cases hrt : h.rets with
          | false => rw [hrt] at hf'; cases hf'
          | true =>
           rw [hrt] at hf'
           cases hf'
           intro r hr3
           obtain ⟨r0, hr0, rfl⟩ := Option.map_eq_some_iff.1 hr3
           refine Jq (eG ?_) _ rfl
           cases wr with
           | none => exact cM
           | some f =>
            have h4 := hr f rfl xy η3 Ug ((hx1.trans hx2).trans hx3)
            have e : (ret xy).map f = some (f r0) := by rw [hr0]; rfl
            show gV E N .ret (some (f r0)) _ _ K
            rw [← e]; exact h4
        ·refine pull fun st2 h2 => ?_
         obtain ⟨NI, e1, e2, K7, hx2⟩ := Ac.xh (c0 := st1.bC mW) hw1 h2 y.2
         have h3 := hn st2 NI K7 (hx1.trans hx2)
         rw [← e1, ← e2]; exact h3
       ·exact cM
     ·exact cM
    split
    ·rename_i cb hb' f _ _
     split
     ·exact cM
     ·rename_i pb _
      refine nC (X := { hs : Nat → Hd // Kq (st1.bC mW) p hs }) (Y := { hs : Nat → Hd // Kq (st1.bC mW) pb hs })
       (r_ := fun s x => p.Γ (st1.bC mW) (leaf P p.ts s) x.1) (r9 := fun s x => p.Ω (st1.bC mW) (leaf P p.ts s) x.1)
       (CS := fun s x => pb.Γ (st1.bC mW) (leaf P pb.ts s) x.1) (CR := fun s x => pb.Ω (st1.bC mW) (leaf P pb.ts s) x.1) s0 ⟨hs0, hfx0⟩ VS (fun s x => ?_) (fun q y => ?_)
      ·refine pull fun st2 h2 => ?_
       obtain ⟨NI, e1, e2, K7, hx2⟩ := Ac.xh (c0 := st1.bC mW) hw1 h2 x.2
       rw [← e1, ← e2]
       refine hb (Sum (Sum R (vQ pb.ts)) (vQ p.ts)) (some fun r => .inl (.inl r)) st2 NI _ _ _ K7
        (back (g := Sum.inr) st2 NI hx2 fun s' x' _ _ hh => goX x' hh) (fun i xy η3 Ug hx3 => ?_) (fun f' hf' xy η3 Ug hx3 => ?_)
       ·cases hi : Nat.beq i id with
        | false => exact cM
        | true =>
         obtain rfl := Nat.eq_of_beq_eq_true hi
         refine Cp Ug fun st4 η4 hw4 hx4 => ?_
         intro r hr4
         obtain ⟨q, hq, rfl⟩ := Option.map_eq_some_iff.1 hr4
         obtain ⟨hs, MZ, oK⟩ := Ac.BN (E := E) (N := N) (c0 := st1.bC mW) hq ((hx2.trans hx3).trans hx4)
         exact N6 ⟨hs, MZ⟩ oK _ rfl
       ·cases hf'
        intro r hr3
        obtain ⟨r0, hr0, rfl⟩ := Option.map_eq_some_iff.1 hr3
        have h4 := hr f rfl xy η3 Ug ((hx1.trans hx2).trans hx3)
        refine Jq (eG ?_) _ rfl
        have e : (ret xy).map f = some (f r0) := by rw [hr0]; rfl
        rw [← e]; exact h4
      ·refine pull fun st2 h2 => ?_
       obtain ⟨NI, e1, e2, K7, hx2⟩ := Ac.xh (c0 := st1.bC mW) hw1 h2 y.2
       have h3 := hn st2 NI K7 (hx1.trans hx2)
       rw [← e1, ← e2]; exact h3
    ·rename_i cb hb' _ _
     split
     ·exact cM
     ·rename_i pb _
      refine Ot (X := { hs : Nat → Hd // Kq (st1.bC mW) p hs }) (Y := { hs : Nat → Hd // Kq (st1.bC mW) pb hs })
       (r_ := fun s x => p.Γ (st1.bC mW) (leaf P p.ts s) x.1) (r9 := fun s x => p.Ω (st1.bC mW) (leaf P p.ts s) x.1)
       (CS := fun s x => pb.Γ (st1.bC mW) (leaf P pb.ts s) x.1) (CR := fun s x => pb.Ω (st1.bC mW) (leaf P pb.ts s) x.1) s0 ⟨hs0, hfx0⟩ VS (fun s x => ?_) (fun q y => ?_)
      ·refine pull fun st2 h2 => ?_
       obtain ⟨NI, e1, e2, K7, hx2⟩ := Ac.xh (c0 := st1.bC mW) hw1 h2 x.2
       rw [← e1, ← e2]
       refine hb (Sum (vQ pb.ts) (vQ p.ts)) none st2 NI _ _ _ K7
        (back (g := Sum.inr) st2 NI hx2 fun s' x' _ _ hh => goB x' hh) (fun i xy η3 Ug hx3 => ?_) (fun f' hf' => by cases hf')
       ·cases hi : Nat.beq i id with
        | false => exact cM
        | true =>
         obtain rfl := Nat.eq_of_beq_eq_true hi
         refine Cp Ug fun st4 η4 hw4 hx4 => ?_
         intro r hr4
         obtain ⟨q, hq, rfl⟩ := Option.map_eq_some_iff.1 hr4
         obtain ⟨hs, MZ, oK⟩ := Ac.BN (E := E) (N := N) (c0 := st1.bC mW) hq ((hx2.trans hx3).trans hx4)
         exact brkB ⟨hs, MZ⟩ oK _ rfl
      ·refine pull fun st2 h2 => ?_
       obtain ⟨NI, e1, e2, K7, hx2⟩ := Ac.xh (c0 := st1.bC mW) hw1 h2 y.2
       have h3 := hn st2 NI K7 (hx1.trans hx2)
       rw [← e1, ← e2]; exact h3
    ·rename_i _ f _
     refine gB (Mc (X := { hs : Nat → Hd // Kq (st1.bC mW) p hs }) (r_ := fun s x => p.Γ (st1.bC mW) (leaf P p.ts s) x.1) (r9 := fun s x => p.Ω (st1.bC mW) (leaf P p.ts s) x.1) s0 ⟨hs0, hfx0⟩ VS (fun s x => ?_))
     refine pull fun st2 h2 => ?_
     obtain ⟨NI, e1, e2, K7, hx2⟩ := Ac.xh (c0 := st1.bC mW) hw1 h2 x.2
     rw [← e1, ← e2]
     refine hb (Sum R (vQ p.ts)) (some fun r => .inl r) st2 NI _ _ _ K7
      (back (g := Sum.inr) st2 NI hx2 fun s' x' _ _ hh => n_loop x' hh) (fun i xy η3 Ug hx3 => cM) (fun f' hf' xy η3 Ug hx3 => ?_)
     ·cases hf'
      intro r hr3
      obtain ⟨r0, hr0, rfl⟩ := Option.map_eq_some_iff.1 hr3
      have h4 := hr f rfl xy η3 Ug ((hx1.trans hx2).trans hx3)
      refine r_loop (eG ?_) _ rfl
      have e : (ret xy).map f = some (f r0) := by rw [hr0]; rfl
      rw [← e]; exact h4
    ·exact cM
 | _ => exact plain
theorem ev_ok {T : FuncId → List bI} (hT : Nz P T) {H : Hints} {ret : iR → Option R} : ∀ c : Code, EvOk P E N T H ret c ∧ ∀ body, c = .loop body → EvOk P E N T H ret body := by
 intro c
 induction c using Code.rec with
 | skip => refine ⟨?_, by intro _ h; cases h⟩; intro A wr st η kn kx K hw hn hx hr; exact dS (hn st η hw (.refl _))
 | label i => refine ⟨?_, by intro _ h; cases h⟩; intro A wr st η kn kx K hw hn hx hr; exact W7 (hn st η hw (.refl _))
 | exit i => refine ⟨?_, by intro _ h; cases h⟩; intro A wr st η kn kx K hw hn hx hr; exact ot (hx i st η hw (.refl _))
 | ret =>
  refine ⟨?_, by intro _ h; cases h⟩
  intro A wr st η kn kx K hw hn hx hr
  refine d_ ?_
  cases wr with
  | none => exact cM
  | some f => exact hr f rfl st η hw (.refl _)
 | region id ops draw =>
  refine ⟨?_, by intro _ h; cases h⟩
  intro A wr st η kn kx K hw hn hx hr
  unfold ev
  cases draw with
  | true =>
   cases hb : P.follows .mixedOrders && lR ops.toList.toArray (Us H 0 ops.toList) with
   | false => exact cM
   | true =>
    simp only [Bool.and_eq_true] at hb
    have h2 := Me (id := id) (lo := ops.toList) (P := P) (K := K) (Γ := dN (st.bC η) st.G) (Ω := bL (st.bC η) st.O) (E := E) (N := N) (Us H 0 ops.toList) hb.1 hb.2
     fun hok => Ep (E := E) (N := N) (H := H) hT hok (K := K) (k := kn) ops.toList.length (Array.replicate ops.toList.length false) [] st η hw hn
    simpa using h2
  | false =>
   have h := Qw (E := E) (N := N) hT (H := H) (ops := ops) (K := K) (k := kn) ops.toList st η hw hn
   have h2 := az (id := id) (l := ops.toList) (P := P) (K := K) (m := Yt P T H N ops ops.toList st kn) (Γ := dN (st.bC η) st.G) (Ω := bL (st.bC η) st.O) (E := E) (N := N) (by simpa using h)
   simpa using h2
 | seq a b iha ihb =>
  refine ⟨?_, by intro _ h; cases h⟩
  intro A wr st η kn kx K hw hn hx hr
  unfold ev
  split
  ·refine aF (iha.1 A wr st η _ kx (Og P b K) hw (fun st1 mW hw1 hx1 => aH ?_) (fun i st1 mW hw1 hx1 => vT (hx i st1 mW hw1 hx1)) (fun f hf st1 mW hw1 hx1 => fG (hr f hf st1 mW hw1 hx1)))
   exact ihb.1 A wr st1 mW kn kx K hw1 (hn.ext hx1) (fun i => (hx i).ext hx1) (fun f hf => (hr f hf).ext hx1)
  ·rename_i cv hp _
   split
   ·rename_i p hp'
    refine aF ?_
    refine Zk (X := { hs : Nat → Hd // Kq (st.bC η) p hs }) (fun j x => p.Γ (st.bC η) (leaf P p.ts j) x.1) (fun j x => p.Ω (st.bC η) (leaf P p.ts j) x.1) (fun k hk => ?_) (fun j x => ?_)
    ·refine iha.1 A wr st η _ kx (Og P b K) hw (fun st1 mW hw1 hx1 => ?_) (fun i st1 mW hw1 hx1 => vT (hx i st1 mW hw1 hx1)) (fun f hf st1 mW hw1 hx1 => fG (hr f hf st1 mW hw1 hx1))
     refine Cp hw1 fun st2 NI K7 hx2 => pull fun j hj => ?_
     obtain ⟨hs, MZ, oK⟩ := Ac.BN (E := E) (N := N) (c0 := st.bC η) hj (hx1.trans hx2)
     exact b_to (hk j ⟨hs, MZ⟩) oK
    ·refine aH (pull fun st1 h1 => ?_)
     obtain ⟨mW, e1, e2, hw1, hx1⟩ := Ac.xh (c0 := st.bC η) hw h1 x.2
     have h2 := ihb.1 A wr st1 mW kn kx K hw1 (hn.ext hx1) (fun i => (hx i).ext hx1) (fun f hf => (hr f hf).ext hx1)
     rw [← e1, ← e2]; exact h2
   ·exact cM
 | cond x a b iha ihb =>
  refine ⟨?_, by intro _ h; cases h⟩
  intro A wr st η kn kx K hw hn hx hr
  unfold ev
  split
  ·rename_i h1; exact xB (fB (c := st.bC η) h1) rfl (iha.1 A wr st η kn kx K hw hn hx hr)
  ·rename_i h1; exact Jr (fB (c := st.bC η) h1) rfl (ihb.1 A wr st η kn kx K hw hn hx hr)
  ·rename_i i h1
   split
   ·rename_i c hc
    have hlk : dw (dN (st.bC η) st.G) x = some (bv c) := by
     rw [fB (c := st.bC η) h1]
     obtain ⟨D, h2, h3⟩ := Option.bind_eq_some_iff.1 hc
     rw [(zQ (c := st.bC η) h2).1, cm.I3 h3]
    exact e7 hlk (fun _ => iha.1 A wr st η kn kx K hw hn hx hr) (fun _ => ihb.1 A wr st η kn kx K hw hn hx hr)
   ·exact cM
  ·exact cM
 | block id c ih => exact ⟨ev_block ih.1 ih.2, by intro _ h; cases h⟩
 | loop c ih => refine ⟨?_, by intro _ h; cases h; exact ih.1⟩; intro A wr st η kn kx K hw hn hx hr; exact cM
 | rangeFunc _ _ _ _ _ _ => refine ⟨?_, by intro _ h; cases h⟩; intro A wr st η kn kx K hw hn hx hr; exact cM
 | scope c ih =>
  refine ⟨?_, by intro _ h; cases h⟩
  intro A wr st η kn kx K hw hn hx hr
  unfold ev
  have h := ih.1 A wr st η kn kx (scopeK K) hw (fun st1 mW hw1 hx1 => hn st1 mW hw1 hx1) (fun i st1 mW hw1 hx1 => hx i st1 mW hw1 hx1) (fun f hf st1 mW hw1 hx1 => hr f hf st1 mW hw1 hx1)
  exact fun r hr' a w hs => wp_scope_straight (h r hr' a w hs)
 | goto i => refine ⟨?_, by intro _ h; cases h⟩; intro A wr st η kn kx K hw hn hx hr; exact cM
 | refuse s => refine ⟨?_, by intro _ h; cases h⟩; intro A wr st η kn kx K hw hn hx hr; exact cM
end Go.Dc
namespace Go.Dc
variable [aq] {P : Program} [bl P] {R : Type} {E : Env} {N : Nat}
def TD (P : Program) (st : iR) : ResultVar → Option Sh
 | .tmp t => y7 st.G t
 | .cell a t => match y7 st.G a with
  | some (.vl false [.ptr o h off]) => (LU st.n st.O o h).bind fun l => (SU P t).bind fun g => bif g
    then (Cv P t).bind fun k => bif Nat.beq ((l.drop off).take k).length k then some (.vl true ((l.drop off).take k)) else none
    else (l[off]?).map fun a => .vl false [a]
  | _ => none
theorem xA {st : iR} {η : Nat → Hd} {rv : ResultVar} {s : Sh} (h : TD P st rv = some s) : UW P E N (dN (st.bC η) st.G) (bL (st.bC η) st.O) rv (s.rp (st.bC η)) := by
 cases rv with
 | tmp t => exact gA (by rw [iw, show y7 st.G t = some s from h]; rfl)
 | cell a t =>
  simp only [TD] at h
  split at h
  ·rename_i o k off hl
   obtain ⟨l, h1, h⟩ := Option.bind_eq_some_iff.1 h
   obtain ⟨g, h2, h⟩ := Option.bind_eq_some_iff.1 h
   obtain ⟨hb, hlt, hj⟩ := EK (env := st.env) h1
   have hlk : lk (dN (st.bC η) st.G) a = some (pv (ptr (η k).b off)) := by
    rw [iw, hl]
    show some ((At.ptr o k off).rp (st.bC η)) = _
    rw [lQ (c := st.bC η) hb]
   cases g with
   | true =>
    obtain ⟨m, h3, h⟩ := Option.bind_eq_some_iff.1 h
    cases hk : Nat.beq ((l.drop off).take m).length m with
    | false => rw [hk] at h; cases h
    | true =>
     rw [hk] at h; cases h
     have := ze (E := E) (N := N) hlk (hj η) (xu h2) (gi h3) rfl (by simpa using hk)
     rw [← List.map_drop, ← List.map_take] at this
     exact this
   | false =>
    obtain ⟨x, h3, rfl⟩ := Option.map_eq_some_iff.1 h
    exact Ze (E := E) (N := N) hlk (hj η) (xu h2) (by rw [List.getElem?_map, h3]; rfl)
  ·cases h
def EO (P : Program) (st : iR) : List ResultVar → Option (List Sh)
 | [] => some []
 | r :: rs => (TD P st r).bind fun s => (EO P st rs).map (s :: ·)
theorem Zi {F : FP} {w : World} {bY fQ : List RP} {v : Value} (hi : nK bY fQ) (h : HO F w bY v) : HO F w fQ v := by
 match bY, fQ, hi, h with
 | [], [], _, h => exact h
 | [φ], [ψ], ⟨h1, _⟩, h => exact h1 h
 | _ :: _ :: _, _ :: _ :: _, hi, ⟨vs, e, h⟩ => exact ⟨vs, e, hi.all h⟩
theorem TC {st : iR} {η : Nat → Hd} {fn : Func} {ss : List Sh} (h : EO P st fn.results.toList = some ss) (hl : fn.results.toList.length ≤ 3) {a : Act} {w : World}
  (hs : Sat E N (dN (st.bC η) st.G) (bL (st.bC η) st.O) a w) : ∃ v, (results fn a.tmps).run P w = .ok v w ∧ HO (fr E (bL (st.bC η) st.O)) w (ss.map (Sh.rp (st.bC η))) v := by
 generalize hr : fn.results.toList = l at h hl
 have hr' : fn.results = l.toArray := by rw [← hr]
 match l, h, hl with
 | [], h, _ => cases h; exact ⟨_, results0 hr' _ _, ⟨#[], rfl, trivial⟩⟩
 | [x], h, _ =>
  simp only [EO] at h
  obtain ⟨s, h1, h2⟩ := Option.bind_eq_some_iff.1 h
  cases h2
  obtain ⟨v, h3, h4⟩ := xA (E := E) (N := N) (η := η) h1 a w hs
  exact ⟨v, results1 hr' h3, h4⟩
 | [x, y], h, _ =>
  simp only [EO] at h
  obtain ⟨s, h1, h2⟩ := Option.bind_eq_some_iff.1 h
  obtain ⟨ss2, g2, rfl⟩ := Option.map_eq_some_iff.1 h2
  obtain ⟨s2, h5, h6⟩ := Option.bind_eq_some_iff.1 g2
  cases h6
  obtain ⟨v, h3, h4⟩ := xA (E := E) (N := N) (η := η) h1 a w hs
  obtain ⟨u, h7, h8⟩ := xA (E := E) (N := N) (η := η) h5 a w hs
  exact ⟨_, results2 hr' h3 h7, ⟨_, rfl, h4, h8, trivial⟩⟩
 | [x, y, z], h, _ =>
  simp only [EO] at h
  obtain ⟨s, h1, h2⟩ := Option.bind_eq_some_iff.1 h
  obtain ⟨ss2, g2, rfl⟩ := Option.map_eq_some_iff.1 h2
  obtain ⟨s2, h5, h6⟩ := Option.bind_eq_some_iff.1 g2
  obtain ⟨ss3, g6, rfl⟩ := Option.map_eq_some_iff.1 h6
  obtain ⟨s3, h9, h10⟩ := Option.bind_eq_some_iff.1 g6
  cases h10
  obtain ⟨v, h3, h4⟩ := xA (E := E) (N := N) (η := η) h1 a w hs
  obtain ⟨u, h7, h8⟩ := xA (E := E) (N := N) (η := η) h5 a w hs
  obtain ⟨t, h11, h12⟩ := xA (E := E) (N := N) (η := η) h9 a w hs
  exact ⟨_, results3 hr' h3 h7 h11, ⟨_, rfl, h4, h8, h12, trivial⟩⟩
 | _ :: _ :: _ :: _ :: _, _, hl => simp at hl
def V8 : Nat → List (Bool × List KA) → List (Nat × (Bool × List KA))
 | _, [] => []
 | n, v :: r => (n, v) :: V8 (n + 1) r
def bI.Gy (C : bI) : Ac := ⟨C.ins, V8 0 C.ps, C.os, [], 0, C.nh⟩
theorem Sm {L : Nat → Nat → Option cm} {hs : Nat → Hd} : ∀ {l : List (Bool × List KA)} {n : Nat}, (V8 n l).map (fun x => (x.1, GO Dq L hs x.2)) = Cj n (l.map (GO Dq L hs))
 | [], _ => rfl
 | v :: r, n => by simp only [V8, List.map_cons, Cj, Sm]
def Sp (P : Program) [bl P] (ts : List Ty) (bH : iR) (n : Nat) (env : List (Nat × bX)) (O : List MO) : Nat → Mt → List KO → Option Mt
 | _, M, [] => some M
 | i, M, .dead :: os => Sp P ts bH n env O (i + 1) M os
 | i, M, .same :: os => match bH.O[i]?, O[i]? with
  | some a, some b => bif Z0 a b && a.J_ bH.n bH.env then Sp P ts bH n env O (i + 1) M os else none
  | _, _ => none
 | i, M, o :: os => (mtO P ts 0 [] n env O M o).bind fun M => Sp P ts bH n env O (i + 1) M os
def endP (M : Mt) : Nat → List KO → Option (List Nat)
 | _, [] => some []
 | i, .dead :: os => endP M (i + 1) os
 | i, .same :: os => (endP M (i + 1) os).map (i :: ·)
 | i, o :: os => (o.key.bind (I_ M.om)).bind fun x => (endP M (i + 1) os).map (x.1 :: ·)
def fixF (C : bI) (n0 : Nat) : Nat → Nat → List (Nat × (Nat × Nat))
 | _, 0 => []
 | k, m + 1 => (k, (k, n0 + k)) :: fixF C n0 (k + 1) m
theorem Sc {C : bI} {n0 : Nat} : ∀ {m k : Nat} {i : Nat}, k ≤ i → i < k + m → I_ (fixF C n0 k m) i = some (i, n0 + i)
 | 0, k, i, h1, h2 => by omega
 | m + 1, k, i, h1, h2 => by
  simp only [fixF, I_]
  by_cases e : k = i
  ·subst e; simp
  ·rw [wz e]; exact Sc (by omega) (by omega)
def bI.ret (P : Program) [bl P] (C : bI) (fn : Func) (fin : List Conv) (bH : iR) (st : iR) : Option (vQ C.outs) :=
 (convs P fin st).bind fun st => (EO P st fn.results.toList).bind fun ss => (TS P C.outs false 0 [] st.n st.env ⟨[], fixF C C.Gy.wl.length 0 C.nh⟩ C.rs ss).bind fun M0 =>
  (Sp P C.outs bH st.n st.env st.O 0 M0 C.os').bind fun M => (endP M 0 C.os').bind fun is => bif mC is then M.I9 P C.outs else none
theorem J7 {α : Type} {l : List α} {i : Nat} : (∃ x, l.drop i = x :: l.drop (i + 1)) ∨ (l.drop i = [] ∧ l.drop (i + 1) = []) := by
 by_cases h : i < l.length
 ·exact .inl ⟨l[i], List.drop_eq_getElem_cons h⟩
 ·exact .inr ⟨List.drop_eq_nil_of_le (by omega), List.drop_eq_nil_of_le (by omega)⟩
theorem IG {ts : List Ty} {bH st : iR} {Li : Nat → Nat → Option cm} {hs0 Yh η : Nat → Hd} {os : List KO} (h0 : bL (bH.bC Yh) bH.O = os.map (KO.ob Dq Li hs0)) (hx : Ext (bH.bC Yh) (st.bC η)) :
  ∀ {os' : List KO} {i : Nat} {M M' : Mt}, Sp P ts bH st.n st.env st.O i M os' = some M' → Mt.Le M M' ∧ ∀ {is : List Nat}, endP M' i os' = some is → ∀ {L : Nat → Nat → Option cm} {hs : Nat → Hd}, vR L hs η M' →
   (∀ (k p : Nat) (o : OB), is[k]? = some p → (rO (CB os') (fZ Li L hs0 hs (os.drop i) os'))[k]? = some o → (bL (st.bC η) st.O)[p]? = some o) ∧ is.length = (rO (CB os') (fZ Li L hs0 hs (os.drop i) os')).length
 | [], i, M, M', h => by cases h; exact ⟨.refl _, fun hp => by cases hp; exact fun _ => ⟨fun k p o h => by simp at h, by cases (os.drop i) <;> rfl⟩⟩
 | .dead :: os', i, M, M', h => by
  obtain ⟨h1, h2⟩ := IG h0 hx (os' := os') (i := i + 1) h
  refine ⟨h1, fun {is} hp {L hs} jo => ?_⟩
  have h3 := h2 (is := is) hp jo
  have e : rO (CB (.dead :: os')) (fZ Li L hs0 hs (os.drop i) (.dead :: os')) = rO (CB os') (fZ Li L hs0 hs (os.drop (i + 1)) os') := by
   rcases J7 (l := os) (i := i) with ⟨x, hd⟩ | ⟨hd, hd'⟩
   ·rw [hd]; rfl
   ·rw [hd, hd']; rfl
  rw [e]; exact h3
 | .same :: os', i, M, M', h => by
  simp only [Sp] at h
  split at h
  ·rename_i a b ha hb
   cases hm : Z0 a b && a.J_ bH.n bH.env with
   | false => rw [hm] at h; cases h
   | true =>
    rw [hm] at h
    simp only [Bool.and_eq_true] at hm
    obtain ⟨hm, hclo⟩ := hm
    obtain rfl := moEq_ok hm
    obtain ⟨h1, h2⟩ := IG h0 hx (os' := os') (i := i + 1) h
    refine ⟨h1, fun {is} hp {L hs} jo => ?_⟩
    simp only [endP] at hp
    obtain ⟨is', hp', rfl⟩ := Option.map_eq_some_iff.1 hp
    obtain ⟨h3, h4⟩ := h2 (is := is') hp' jo
    have p6 : (bL (bH.bC Yh) bH.O)[i]? = some (a.ob (bH.bC Yh)) := by simp [bL, ha]
    obtain ⟨k0, Ce, hk1⟩ : ∃ k, os[i]? = some k ∧ k.ob Dq Li hs0 = a.ob (bH.bC Yh) := by
     rw [h0, List.getElem?_map] at p6
     obtain ⟨k, hk, e⟩ := Option.map_eq_some_iff.1 p6
     exact ⟨k, hk, e⟩
    have hd : os.drop i = k0 :: os.drop (i + 1) := by
     have hlt := (List.getElem?_eq_some_iff.1 Ce).1
     rw [List.drop_eq_getElem_cons hlt, (List.getElem?_eq_some_iff.1 Ce).2]
    have e : rO (CB (.same :: os')) (fZ Li L hs0 hs (os.drop i) (.same :: os')) = k0.ob Dq Li hs0 :: rO (CB os') (fZ Li L hs0 hs (os.drop (i + 1)) os') := by rw [hd]; rfl
    rw [e]
    refine ⟨fun k p o hk ho => ?_, by simp [h4]⟩
    cases k with
    | zero =>
     simp only [List.getElem?_cons_zero, Option.some.injEq] at hk ho
     subst hk; subst ho
     rw [hk1, ← MO.G5 hx hclo]
     simp [bL, hb]
    | succ k => exact h3 k p o (by simpa using hk) (by simpa using ho)
  ·cases h
 | .oa x y :: os', i, M, M', h => by
  have h : (mtO P ts 0 [] st.n st.env st.O M (.oa x y)).bind (fun M => Sp P ts bH st.n st.env st.O (i + 1) M os') = some M' := h
  obtain ⟨M1, h1, h2⟩ := Option.bind_eq_some_iff.1 h
  obtain ⟨h3, k, p, z, hk, hm, hlt, hb, p6⟩ := Qa (c0 := Dq) h1
  obtain ⟨h5, h6⟩ := IG h0 hx h2
  refine ⟨h3.trans h5, fun {is} hp {L hs} jo => ?_⟩
  have hp : ((KO.oa x y).key.bind (I_ M'.om)).bind (fun x => (endP M' (i + 1) os').map (x.1 :: ·)) = some is := hp
  simp only [hk, Option.bind_some, h5.o _ _ (h3.o _ _ hm)] at hp
  obtain ⟨is', hp', rfl⟩ := Option.map_eq_some_iff.1 hp
  obtain ⟨h7, h8⟩ := h6 (is := is') hp' jo
  have e : rO (CB (.oa x y :: os')) (fZ Li L hs0 hs (os.drop i) (.oa x y :: os')) = (KO.oa x y).ob Dq L hs :: rO (CB os') (fZ Li L hs0 hs (os.drop (i + 1)) os') := by
   rcases J7 (l := os) (i := i) with ⟨x, hd⟩ | ⟨hd, hd'⟩
   ·rw [hd]; rfl
   ·rw [hd, hd']; rfl
  rw [e]
  refine ⟨fun k p o hk ho => ?_, by simp [h8]⟩
  cases k with
  | zero =>
   simp only [List.getElem?_cons_zero, Option.some.injEq] at hk ho
   subst hk; subst ho
   exact p6 (E5 _) (jo.le h5)
  | succ k => exact h7 k p o (by simpa using hk) (by simpa using ho)
 | .oc x y :: os', i, M, M', h => by
  have h : (mtO P ts 0 [] st.n st.env st.O M (.oc x y)).bind (fun M => Sp P ts bH st.n st.env st.O (i + 1) M os') = some M' := h
  obtain ⟨M1, h1, h2⟩ := Option.bind_eq_some_iff.1 h
  obtain ⟨h3, k, p, z, hk, hm, hlt, hb, p6⟩ := Qa (c0 := Dq) h1
  obtain ⟨h5, h6⟩ := IG h0 hx h2
  refine ⟨h3.trans h5, fun {is} hp {L hs} jo => ?_⟩
  have hp : ((KO.oc x y).key.bind (I_ M'.om)).bind (fun x => (endP M' (i + 1) os').map (x.1 :: ·)) = some is := hp
  simp only [hk, Option.bind_some, h5.o _ _ (h3.o _ _ hm)] at hp
  obtain ⟨is', hp', rfl⟩ := Option.map_eq_some_iff.1 hp
  obtain ⟨h7, h8⟩ := h6 (is := is') hp' jo
  have e : rO (CB (.oc x y :: os')) (fZ Li L hs0 hs (os.drop i) (.oc x y :: os')) = (KO.oc x y).ob Dq L hs :: rO (CB os') (fZ Li L hs0 hs (os.drop (i + 1)) os') := by
   rcases J7 (l := os) (i := i) with ⟨x, hd⟩ | ⟨hd, hd'⟩
   ·rw [hd]; rfl
   ·rw [hd, hd']; rfl
  rw [e]
  refine ⟨fun k p o hk ho => ?_, by simp [h8]⟩
  cases k with
  | zero =>
   simp only [List.getElem?_cons_zero, Option.some.injEq] at hk ho
   subst hk; subst ho
   exact p6 (E5 _) (jo.le h5)
  | succ k => exact h7 k p o (by simpa using hk) (by simpa using ho)
theorem KE {len : Nat} : ∀ {l : List Nat}, mC l = true → mC (uU len l) = true
 | [], _ => rfl
 | i :: l, h => by
  simp only [mC, Bool.and_eq_true, Bool.not_eq_true'] at h
  have ih := KE (len := len) h.2
  unfold uU at ih ⊢
  rw [List.filter_cons]
  split
  ·simp only [mC, Bool.and_eq_true, Bool.not_eq_true']
   refine ⟨?_, ih⟩
   cases hh : dG (l.filter fun i => !Nat.beq i len) i with
   | false => rfl
   | true =>
    have := fk.2 (List.mem_filter.1 (fk.1 hh)).1
    rw [this] at h; cases h.1
  ·exact ih
noncomputable def bI.run (P : Program) [bl P] (C : bI) (fn : Func) (T : FuncId → List bI) (H : Hints) (fin : List Conv) (a : vQ C.ins) : Option (vQ C.outs) :=
 (C.Gy.inst P 0 [] a).bind fun bH => match fn.body with
  | some c => ev P T H fn.ntmps (C.ret P fn fin bH) c (some id) bH (C.ret P fn fin bH) (fun _ _ => none)
  | none => none
theorem au {f : FuncId} {fn : Func} {C : bI} {T : FuncId → List bI} {H : Hints} {fin : List Conv} (hf : P.funcs[f]? = some fn) (hc : ∀ args w, (callFunc f args).run P w = .ok (.enter f args) w) (hT : Nz P T)
  (hN : Nat.ble C.ps.length fn.ntmps = true) (hr : Nat.ble fn.results.toList.length 3 = true) (hnh : Nat.beq C.nh C.os.length = true) (hm : ∀ a, C.run P fn T H fin a = C.m a) : aG P f C := by
 refine ⟨hc, fun a r har hs => ?_⟩
 rw [← hm a] at har
 unfold bI.run at har
 obtain ⟨bH, h0, har⟩ := Option.bind_eq_some_iff.1 har
 split at har
 ·rename_i c hb
  have hw0 : WF Dq.n Dq.env := ⟨fun i e h => (by cases h), fun i e h => (by cases h)⟩
  obtain ⟨Yh, e1, e2, hw1, hx1, hη⟩ := Ac.aay (c0 := Dq) hw0 h0 (hs := hs) (fun k o h hk => by cases hk)
  have e1' : dN (bH.bC Yh) bH.G = Cj 0 (C.args (P := P) a hs) := e1.trans Sm
  have e2' : bL (bH.bC Yh) bH.O = C.wR (P := P) a hs := e2
  refine A6 (X := S_ C.nh hs) (res := fun r x => C.res (P := P) r x.1) (lB := fun r x => C.lB (P := P) a r hs x.1) hf hb rfl har (by simpa [bI.args] using hN) fun E hE => ?_
  rw [← e1', ← e2']
  have fin' : ∀ e, e = .ret ∨ e = .normal → KOk E fn.ntmps e bH Yh (C.ret P fn fin bH) (fnK P fn E fn.ntmps (fun r x => C.res (P := P) r x.1) (fun r (x : S_ C.nh hs) => C.lB (P := P) a r hs x.1)) := by
   intro e he st η hw hx
   refine Cp hw fun st1 mW hw1 hx1' => ?_
   have hx2 := hx.trans hx1'
   refine pull fun ss hss => pull fun M0 hM0 => pull fun M hM => pull fun is his => ?_
   cases hnd : mC is with
   | false => exact cM
   | true =>
    simp only [cond_true]
    intro r' hr'
    obtain ⟨m1, m2⟩ := P_ (c0 := Dq) hM0
    obtain ⟨m3, m4⟩ := IG (os := C.os) (hs0 := hs) (Li := leaf P C.ins a) e2' hx2 hM
    have jo := M.say hr' mW
    obtain ⟨m5, m6⟩ := m4 his jo
    have hagr : ∀ k, k < C.nh → M.hs mW k = hs k := fun k hk => by
     have h7 : I_ M.om k = some (k, C.Gy.wl.length + k) := m3.o _ _ (m1.o _ _ (Sc (C := C) (n0 := C.Gy.wl.length) (Nat.zero_le k) (by omega)))
     obtain ⟨h8, h9⟩ := hη k (by show k < C.nh - 0; omega)
     have h10 : (0 : Nat) + C.Gy.wl.length + k = C.Gy.wl.length + k := by omega
     simp only [Mt.hs, h7]
     have h11 := hx2.η (C.Gy.wl.length + k) (by have h12 : Dq.n + C.Gy.wl.length + k < bH.n := h9; have h13 : Dq.n = 0 := rfl; show C.Gy.wl.length + k < bH.n; omega)
     rw [show mW (C.Gy.wl.length + k) = Yh (C.Gy.wl.length + k) from h11]
     have h14 : Yh (Dq.n + C.Gy.wl.length + k) = hs (0 + k) := h8
     rw [show Dq.n + C.Gy.wl.length + k = C.Gy.wl.length + k from by show 0 + C.Gy.wl.length + k = _; omega, Nat.zero_add] at h14
     exact h14
    refine finN he ⟨M.hs mW, hagr⟩ is (bY := C.res (P := P) r' (M.hs mW)) ?_ rfl (fun a' w' oK => ?_) r' rfl
    ·refine HW (len := st1.O.length) m6 (KE hnd) fun i p o hp ho => ⟨m5 i p o hp ho, fun hp' => ?_⟩
     have h7 := (List.getElem?_eq_some_iff.1 (m5 i p o hp ho)).1
     simp [bL] at h7; omega
    ·obtain ⟨v, h3, h4⟩ := TC hss (Nat.le_of_ble_eq_true hr) oK
     exact ⟨v, h3, Zi (m2 (E5 _) (jo.le m3)).1 h4⟩
  refine (ev_ok (E := E) (N := fn.ntmps) hT (H := H) (ret := C.ret P fn fin bH) c).1 _ (some id) bH Yh _ _ _ hw1 (fin' _ (.inr rfl)) (fun i st η hw hx => cM) (fun f' hf' => ?_)
  cases hf'
  have := fin' .ret (.inl rfl)
  intro st η hw hx
  have h5 := this st η hw hx
  simpa using h5
 ·cases har
end Go.Dc
namespace Go.Dc
variable [aq] {P : Program} [bl P]
def tabL (l : List (FuncId × bI)) : FuncId → List bI := fun f => l.filterMap fun x => bif Nat.beq x.1 f then some x.2 else none
def AllC (P : Program) [bl P] : List (FuncId × bI) → Prop
 | [] => True
 | x :: r => aG P x.1 x.2 ∧ AllC P r
theorem AllC.at : ∀ {l : List (FuncId × bI)}, AllC P l → ∀ x ∈ l, aG P x.1 x.2
 | [], _, x, h => by cases h
 | y :: r, ⟨h1, h2⟩, x, h => by
  rcases List.mem_cons.1 h with e | e
  ·subst e; exact h1
  ·exact AllC.at h2 x e
theorem aD {l : List (FuncId × bI)} (h : AllC P l) : Nz P (tabL l) := fun f C hC => by
 obtain ⟨x, hx, e⟩ := List.mem_filterMap.1 hC
 cases hb : Nat.beq x.1 f with
 | false => rw [hb] at e; cases e
 | true =>
  rw [hb] at e; cases e
  obtain rfl := Nat.eq_of_beq_eq_true hb
  exact h.at x hx
def lkC : List (Nat × Nat) → Nat → Option Nat
 | [], _ => none
 | (t, n) :: r, i => bif Nat.beq t i then some n else lkC r i
def cm.as [xw] (D : cm) (t : Ty) : Option t.den := if h : D.t = t then some (h ▸ D.d) else none
theorem cm.pP [xw] {D : cm} {t : Ty} {x : t.den} (h : D.as t = some x) : D = ⟨t, x⟩ := by
 unfold cm.as at h
 split at h
 ·rename_i e
  obtain ⟨u, d⟩ := D
  simp only at e
  subst e
  cases h; rfl
 ·cases h
theorem EF [xw] {l : List cm} (h : l.all (fun D => D.t.one) = true) {D : cm} (hD : D ∈ l) : D.t.one = true := List.all_eq_true.1 h D hD
end Go.Dc
namespace Go.Dc
variable [aq] {P : Program} {f : FuncId}
theorem gw.re {X Y : Type} {args : List RP} {wR : List OB} {res : X → List RP} {lB : X → List OB} {res' : Y → List RP} {Ω1' : Y → List OB} (h : gw P f args wR res lB)
  (k : ∀ x F w, (∀ o ∈ lB x, o.h F w) → ∃ y, res' y = res x ∧ Ω1' y = lB x) : gw P f args wR res' Ω1' := by
 intro F w vs h1 h2 h3 h4 h5 h6 h7
 refine (h F w vs h1 h2 h3 h4 h5 h6 h7).mono ?_
 rintro e w' ⟨x, v, e1, e2, e3, e4, e5, e6⟩
 obtain ⟨y, y1, y2⟩ := k x _ _ e5
 exact ⟨y, v, e1, e2, by rw [y2]; exact e3, by rw [y2]; exact e4, by rw [y2]; exact e5, by rw [y1, y2]; exact e6⟩
def updHd (η : Nat → Hd) (k : Nat) (d : Hd) : Nat → Hd := fun i => bif Nat.beq i k then d else η i
variable [bl P]
def conW1 (t : Ty) (m : List t.den → Option (List t.den)) : bI := ⟨[.sl t], [.sl t], m, [(false, [.own 0])], [.oa 0 (.d 0 0)], [(false, [.own 1])], [.dead, .oa 1 (.d 0 0)], 1, 2⟩
theorem conW1_ok {t : Ty} {m : List t.den → Option (List t.den)} (h : ∀ s r, m s = some r → ∀ h0 : Value × List Nat, gw P f [pv h0.1] [oa t.rep h0.1 h0.2 s] (fun x : Value × List Nat => [pv x.1]) (fun x => [oa t.rep x.1 x.2 r])) :
    Pn P f (conW1 t m) := fun a r har hs => by
  refine (h a r har ((hs 0).hv, (hs 0).S)).re fun x F w hx => ?_
  have h1 : x.1.oneCell' = true := P6 (hx (oa t.rep x.1 x.2 r) (List.mem_singleton.2 rfl))
  refine ⟨⟨updHd hs 1 ⟨x.1, x.2, 0, h1⟩, fun i hi => ?_⟩, rfl, rfl⟩
  have : i = 0 := by have : i < 1 := hi
                     omega
  subst this
  rfl
def SG (t : Ty) (m : List t.den → Option (List t.den)) (ps : List (Bool × List KA)) : bI := ⟨[.sl t], [.sl t], m, (false, [.own 0]) :: ps, [.oa 0 (.d 0 0)], [], [.oa 0 (.d 0 0)], 1, 1⟩
theorem E6 {t : Ty} {m : List t.den → Option (List t.den)} {g : Nat} (h : ∀ s r, m s = some r → ∀ h0 : Value × List Nat, gw P f [pv h0.1, pv (.func (.func g) #[] #[])] [oa t.rep h0.1 h0.2 s] (fun _ : Unit => []) (fun _ => [oa t.rep h0.1 h0.2 r])) (hg : Nat.blt g IA = true := by decide) :
    Pn P f (SG t m [(false, [.fn g []])]) := fun a r har hs => by
  have e : Ur g [] = .func (.func g) #[] #[] := JY hg
  rw [← e] at h
  refine (h a r har ((hs 0).hv, (hs 0).S)).re fun x F w _ => ?_
  exact ⟨⟨hs, fun _ _ => rfl⟩, rfl, rfl⟩
def conW3 (t : Ty) (m : List t.den → Option (List t.den)) : bI := ⟨[.sl t], [.sl t], m, [(false, [.d 0 0])], [], [(false, [.own 0])], [.oa 0 (.d 0 0)], 0, 1⟩
theorem SF {t : Ty} {m : List t.den → Option (List t.den)} (h : ∀ s r, m s = some r → gw P f [eN t.rep s] [] (fun x : Value × List Nat => [pv x.1]) (fun x => [oa t.rep x.1 x.2 r])) :
  Pn P f (conW3 t m) := fun a r har hs => by
 refine (h a r har).re fun x F w hx => ?_
 have h1 : x.1.oneCell' = true := P6 (hx (oa t.rep x.1 x.2 r) (List.mem_singleton.2 rfl))
 refine ⟨⟨updHd hs 0 ⟨x.1, x.2, 0, h1⟩, fun i hi => ?_⟩, rfl, rfl⟩
 have : i < 0 := hi
 omega
end Go.Dc
namespace Go.Dc
open Classical in
noncomputable def K0 {A B : Type} (m : Nat → A → Option B) (a : A) : Option B := if h : ∃ n r, m n a = some r then some h.choose_spec.choose else none
theorem Qf {A B : Type} {m : Nat → A → Option B} {a : A} {r : B} (h : K0 m a = some r) : ∃ n, m n a = some r := by
 unfold K0 at h
 split at h
 ·rename_i h1
  cases h
  exact ⟨_, h1.choose_spec.choose_spec⟩
 ·cases h
theorem Xn {A B : Type} {m : Nat → A → Option B} {a : A} {n : Nat} {r : B} (h : m n a = some r) : ∃ r', K0 m a = some r' := by
 unfold K0
 rw [dif_pos ⟨n, r, h⟩]
 exact ⟨_, rfl⟩
def Mono {A B : Type} (m : Nat → A → Option B) : Prop := ∀ n a r, m n a = some r → m (n + 1) a = some r
theorem Mono.le {A B : Type} {m : Nat → A → Option B} (h : Mono m) {a : A} {r : B} {n : Nat} (h1 : m n a = some r) : ∀ k, n ≤ k → m k a = some r
  | 0, hk => by obtain rfl : n = 0 := by omega
                exact h1
  | k + 1, hk => by
    by_cases e : n = k + 1
    · subst e; exact h1
    · exact h _ _ _ (h.le h1 k (by omega))
theorem RU {A B : Type} {m : Nat → A → Option B} (h : Mono m) {a : A} {r : B} : K0 m a = some r ↔ ∃ n, m n a = some r := by
 refine ⟨Qf, fun ⟨n, hn⟩ => ?_⟩
 obtain ⟨r', h'⟩ := Xn hn
 obtain ⟨k, hk⟩ := Qf h'
 have h1 := h.le hn (max n k) (Nat.le_max_left _ _)
 have h2 := h.le hk (max n k) (Nat.le_max_right _ _)
 rw [h1] at h2; cases h2; exact h'
def bI.with [xw] (C : bI) (m : vQ C.ins → Option (vQ C.outs)) : bI := ⟨C.ins, C.outs, m, C.ps, C.os, C.rs, C.os', C.nh, C.P8⟩
variable [aq] {P : Program} {f : FuncId} [bl P]
theorem UF {C : bI} (hc : ∀ args w, (callFunc f args).run P w = .ok (.enter f args) w) : aG P f (C.with fun _ => none) := ⟨hc, fun a r h => by cases h⟩
theorem XS {C : bI} {m : Nat → vQ C.ins → Option (vQ C.outs)} (h : ∀ n, aG P f (C.with (m n))) : aG P f (C.with (K0 m)) :=
 ⟨(h 0).call, fun a r har => by
  obtain ⟨n, hn⟩ := Qf (show K0 m a = some r from har)
  exact (h n).ok a r hn⟩
theorem O5 {C : bI} {m : Nat → vQ C.ins → Option (vQ C.outs)} (hc : ∀ args w, (callFunc f args).run P w = .ok (.enter f args) w) (h0 : m 0 = fun _ => none) (h : ∀ n, aG P f (C.with (m n)) → aG P f (C.with (m (n + 1)))) : aG P f (C.with (K0 m)) :=
 XS fun n => by
  induction n with
  | zero => rw [h0]; exact UF hc
  | succ n ih => exact h n ih
end Go.Dc
namespace Go.Dc
variable {P : Program}
theorem Rf {W : World} {name : String} {k : IntKind} {zs : List Int} {g : Nat} (h : Lib.TabIs P W name k zs) (hg : P.globalNamed name = some g) :
  ∃ ty fz, W.heap[g]? = some (.cells (zs.map fun z => Value.int k z).toArray ty fz) := by
 unfold Lib.TabIs World.var? at h
 rw [hg] at h
 have h' : (match W.heap[g]? with | some (.cells cs _ _) => some cs | _ => none) = some (zs.map fun z => Value.int k z).toArray := h
 split at h'
 ·rename_i cs ty fz e
  cases h'
  exact ⟨ty, fz, e⟩
 ·cases h'
theorem B5 {x : String × DataW Unit} {l : List (String × DataW Unit)} {W : World} (h : laidMet P (x :: l) W) : laidMet P l W := by
 obtain ⟨ps, hv, hn, hr⟩ := h
 obtain ⟨n, d⟩ := x
 obtain ⟨g, t, cs, fuel, p, q, h1, h2, h3, h4, h5, h6⟩ := hv
 subst h6
 exact ⟨q, h5, (List.nodup_append.1 hn).2.1, fun b off hm => hr b off (List.mem_append_right _ hm)⟩
end Go.Dc
