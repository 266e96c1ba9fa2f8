/- Part M.Mem5 of a proof: lemmas. -/
import Derived.Test.YtkkgghdjclkknaaGreatDoorMData
import Derived.Test.YtkkgghdjclkknaaGreatDoorDcDrawI
set_option linter.unusedSectionVars false
set_option linter.unusedVariables false
set_option linter.unusedSimpArgs false
namespace Go.Dc
variable [aq] {R : Type} {P : Program} [bl P] {E : Env} {N : Nat} {K : KT R} {m : Option R} {op : Op} {ty : TypeId} {n : Nat} {env : List (Nat × bX)} {G : List (Nat × Sh)} {O : List MO}
def yX (v : Sh) : dV := ⟨v, [], 0, [], []⟩
def VD (G : List (Nat × Sh)) (x : Operand) : Ask dV := Ask.of (OI G x) fun v => .ret (yX v)
theorem ZZ (hw : WF n env) {x : Operand} : aC (aM P E N (.move x) ty n env G O) (VD G x) :=
 aC.of fun v h => aM.same hw fun η => (xO (sL (c := ⟨n, env, η⟩) h))
theorem UQ (hw : WF n env) {x : Operand} : aC (aM P E N (.assign x) ty n env G O) (VD G x) :=
 aC.of fun v h => aM.same hw fun η => (vq (sL (c := ⟨n, env, η⟩) h))
def pickE (env : List (Nat × bX)) (G : List (Nat × Sh)) (c x y : Operand) : Ask dV := Ask.of (CA G c) fun a => match a with
 | .cb true => Ask.of (OI G x) fun v => .ret (yX v)
 | .cb false => Ask.of (OI G y) fun v => .ret (yX v)
 | _ => .fail
theorem ZD (hw : WF n env) {c x y : Operand} : aC (aM P E N (.pick c x y) ty n env G O) (pickE env G c x y) :=
 aC.of fun a h => by
  have hc := fun η => fB (c := ⟨n, env, η⟩) h
  split
  ·exact aC.of fun v h => aM.same hw fun η => (BO (hc η) (sL h))
  ·exact aC.of fun v h => aM.same hw fun η => (Lv (hc η) (sL h))
  ·trivial
def Si (G : List (Nat × Sh)) (x : Operand) (i : Nat) : Ask dV := Ask.of (OI G x) fun v => match v with
 | .I9 l => Ask.of l[i]? fun p => .ret (yX (.vl p.1 p.2))
 | _ => .fail
theorem Sg (hw : WF n env) {x : Operand} {i : Nat} : aC (aM P E N (.extract x i) ty n env G O) (Si G x i) :=
 aC.of fun v h => by
  split
  ·rename_i l
   exact aC.of fun p hp => aM.same hw fun η => (Av (sL (c := ⟨n, env, η⟩) h) (by rw [List.getElem?_map, hp]; rfl))
  ·trivial
def fieldE (P : Program) (G : List (Nat × Sh)) (t : TypeId) (x : Operand) (f : Nat) : Ask dV :=
 Ask.of (match P.underlying t with | some (.struct fs) => fs[f]? | _ => none) fun fd =>
 Ask.of (SU P fd.type) fun g => Ask.of (Cv P fd.type) fun k => Ask.of (OI G x) fun v => match v with
  | .vl true l => bif g then .ret (yX (.vl true ((l.drop fd.offset).take k))) else Ask.of l[fd.offset]? fun a => .ret (yX (.vl false [a]))
  | _ => .fail
theorem XN (hw : WF n env) {t : TypeId} {x : Operand} {f : Nat} : aC (aM P E N (.field t x f) ty n env G O) (fieldE P G t x f) :=
 aC.of fun fd hf => aC.of fun g hg => aC.of fun k hk => aC.of fun v h => by
  obtain ⟨fs, hu, hf⟩ : ∃ fs, P.underlying t = some (.struct fs) ∧ fs[f]? = some fd := by
   split at hf
   ·rename_i fs hu; exact ⟨fs, hu, hf⟩
   ·cases hf
  split
  ·rename_i l
   cases g with
   | true => exact aM.same hw fun η => (r_field hu hf rfl (xu hg) (gi hk) (sL (c := ⟨n, env, η⟩) h) (by simp only [List.map_drop, List.map_take]))
   | false => exact aC.of fun a ha => aM.same hw fun η => (Zq hu hf rfl (xu hg) (sL (c := ⟨n, env, η⟩) h) (by rw [List.getElem?_map, ha]; rfl))
  ·trivial
def isShift : BinOp → Bool
 | .shl => true
 | .shr => true
 | _ => false
def intE (n : Nat) (env : List (Nat × bX)) (G : List (Nat × Sh)) (b : BinOp) (x y : Operand) : Ask dV :=
 Ask.of (P3 env G x) fun u => Ask.of (P3 env G y) fun v => if v.1 = u.1 ∨ isShift b = true then binI n b u.1 u.2 v.2 (Vy G y) else .fail
theorem intE_ok (hw : WF n env) {b : BinOp} {t yt : TypeId} {x y : Operand} : aC (aM P E N (.binOp b t x y yt) ty n env G O) (intE n env G b x y) :=
 aC.of fun u hu => aC.of fun v hv => by
  split
  ·rename_i h
   refine binI_ok hw (k' := v.1) hu hv (h.imp id fun h => ?_)
   cases b <;> first | exact .inl rfl | exact .inr rfl | cases h
  ·trivial
def boolE (P : Program) (n : Nat) (env : List (Nat × bX)) (G : List (Nat × Sh)) (b : BinOp) (t : TypeId) (x y : Operand) : Ask dV :=
 Ask.of (opB env G x) fun u => Ask.of (opB env G y) fun v => match P.underlying t, b with
  | some .bool, .eql => .ret (iB n .bool (u == v : Bool))
  | some .bool, .neq => .ret (iB n .bool (!(u == v) : Bool))
  | _, _ => .fail
theorem boolE_ok (hw : WF n env) {b : BinOp} {t yt : TypeId} {x y : Operand} : aC (aM P E N (.binOp b t x y yt) ty n env G O) (boolE P n env G b t x y) :=
 aC.of fun u hu => aC.of fun v hv => by
  have hx := fun η => TO (n := n) (η := η) hu
  have hy := fun η => TO (n := n) (η := η) hv
  split
  ·rename_i h; exact aM.dat hw rfl fun η => (r_beql h (hx η) (hy η))
  ·rename_i h; exact aM.dat hw rfl fun η => (r_bneq h (hx η) (hy η))
  ·trivial
def strE (n : Nat) (env : List (Nat × bX)) (G : List (Nat × Sh)) (b : BinOp) (x y : Operand) : Ask dV :=
 Ask.of (opS env G x) fun u => Ask.of (opS env G y) fun v => match b with
  | .eql => .ret (iB n .bool (u.toList == v.toList : Bool))
  | .neq => .ret (iB n .bool (!(u.toList == v.toList) : Bool))
  | .lss => .ret (iB n .bool (Go.Op.bytesLess u.toList v.toList))
  | .geq => .ret (iB n .bool (!Go.Op.bytesLess u.toList v.toList : Bool))
  | .gtr => .ret (iB n .bool (!(Go.Op.bytesLess u.toList v.toList || u.toList == v.toList) : Bool))
  | .add => .bind (Y5 u v) fun r => .ret (iB n .str r)
  | _ => .fail
theorem strE_ok (hw : WF n env) {b : BinOp} {t yt : TypeId} {x y : Operand} : aC (aM P E N (.binOp b t x y yt) ty n env G O) (strE n env G b x y) :=
 aC.of fun u hu => aC.of fun v hv => by
  have hx := fun η => Gz (n := n) (η := η) hu
  have hy := fun η => Gz (n := n) (η := η) hv
  split
  ·exact aM.dat hw rfl fun η => (r_seql (hx η) (hy η))
  ·exact aM.dat hw rfl fun η => (r_sneq (hx η) (hy η))
  ·exact aM.dat hw rfl fun η => (r_slss (hx η) (hy η))
  ·exact aM.dat hw rfl fun η => (r_sgeq (hx η) (hy η))
  ·exact aM.dat hw rfl fun η => (r_sgtr (hx η) (hy η))
  ·exact fun r hr => aM.dat hw rfl fun η => (r_sadd hr (hx η) (hy η))
  ·trivial
def Vm (env : List (Nat × bX)) : List At → Option (List cm)
 | [] => some []
 | a :: l => (Vl env a).bind fun D => (Vm env l).map (D :: ·)
theorem Rr {c : Cx} : ∀ {l : List At} {Ds : List cm}, Vm c.env l = some Ds → l.map (At.rp c) = Ds.map cm.rp
 | [], _, h => by cases h; rfl
 | a :: l, Ds, h => by
  simp only [Vm] at h
  obtain ⟨D, h1, h2⟩ := Option.bind_eq_some_iff.1 h
  obtain ⟨Ds', h3, rfl⟩ := Option.map_eq_some_iff.1 h2
  rw [List.map_cons, List.map_cons, (zQ h1).1, Rr h3]
def opG (P : Program) [bl P] (env : List (Nat × bX)) (G : List (Nat × Sh)) (k : Nat) (x : Operand) : Option (xw.den k) := match OI G x with
 | some (.vl true l) => (Vm env l).bind (bl.join (P := P) k)
 | _ => none
theorem P4 {η : Nat → Hd} {k : Nat} {x : Operand} {d : xw.den k} (h : opG P env G k x = some d) : dw (dN ⟨n, env, η⟩ G) x = some (ag ((qc.rep k).cp d)) := by
 unfold opG at h
 split at h
 ·rename_i l h1
  obtain ⟨Ds, h2, h3⟩ := Option.bind_eq_some_iff.1 h
  rw [sL h1, bl.Qn k Ds d h3, ← Rr (c := ⟨n, env, η⟩) h2]; rfl
 ·cases h
def YN (P : Program) [bl P] (n : Nat) (env : List (Nat × bX)) (G : List (Nat × Sh)) (b : BinOp) (t : TypeId) (x y : Operand) : Ask dV :=
 Ask.of (bl.code P t) fun k => Ask.when (bl.eqs P t k) (Ask.of (opG P env G k x) fun u => Ask.of (opG P env G k y) fun v => letI := bl.deq (P := P) k; match b with
  | .eql => .ret (iB n .bool (decide (u = v)))
  | .neq => .ret (iB n .bool (!decide (u = v) : Bool))
  | _ => .fail)
theorem WG (hw : WF n env) {b : BinOp} {t yt : TypeId} {x y : Operand} : aC (aM P E N (.binOp b t x y yt) ty n env G O) (YN P n env G b t x y) :=
 aC.of fun k _ => aC.when fun he => aC.of fun u hu => aC.of fun v hv => by
  letI := bl.deq (P := P) k
  have heq : EqT P t (qc.rep k) := bl.eqs_ok t k he
  split
  ·exact aM.dat hw rfl fun η => (PO heq (P4 hu) (P4 hv) rfl rfl)
  ·exact aM.dat hw rfl fun η => (Vo heq (P4 hu) (P4 hv) rfl rfl)
  ·trivial
def optE (P : Program) (n : Nat) (env : List (Nat × bX)) (G : List (Nat × Sh)) (b : BinOp) (t : TypeId) (x y : Operand) : Ask dV :=
 match b, P.underlying t, CA G y with
 | .neq, some (.pointer _), some .nF => Ask.of (CA G x) fun a => match a with
  | .nF => .ret (iB n .bool false)
  | .vr i => Ask.of (Vl env (.vr i)) fun D => match D with
   | ⟨.op t, d⟩ => .ret (iB n .bool d.isSome)
   | _ => .fail
  | _ => .fail
 | _, _, _ => .fail
theorem optE_ok (hw : WF n env) {b : BinOp} {t yt : TypeId} {x y : Operand} : aC (aM P E N (.binOp b t x y yt) ty n env G O) (optE P n env G b t x y) := by
 unfold optE
 split
 ·rename_i e hu hy
  refine aC.of fun a ha => ?_
  have hy' := fun η => fB (c := ⟨n, env, η⟩) hy
  split
  ·exact aM.dat hw rfl fun η => (Rs (ρ := rB) (o := none) hu (fB (c := ⟨n, env, η⟩) ha) (hy' η))
  ·refine aC.of fun D hD => ?_
   split
   ·rename_i t' d
    refine aM.dat hw rfl fun η => (Rs (ρ := t'.rep) (o := d) hu ?_ (hy' η))
    rw [fB (c := ⟨n, env, η⟩) ha, (zQ (c := ⟨n, env, η⟩) hD).1]; rfl
   ·trivial
  ·trivial
 ·trivial
def HN (i : Nat) : Nat → Nat → List At → Bool
 | _, 0, _ => true
 | j, m + 1, .pj i' j' :: l => Nat.beq i' i && Nat.beq j' j && HN i (j + 1) m l
 | _, _ + 1, _ => false
theorem KC {i : Nat} : ∀ {m j : Nat} {l : List At}, HN i j m l = true → ∀ q, q < m → l[q]? = some (.pj i (j + q))
 | 0, _, _, _, q, hq => by omega
 | m + 1, j, [], h, q, hq => by cases h
 | m + 1, j, a :: l, h, q, hq => by
  cases a with
  | pj i' j' =>
   simp only [HN, Bool.and_eq_true] at h
   obtain ⟨⟨h1, h2⟩, h3⟩ := h
   cases q with
   | zero => rw [Nat.eq_of_beq_eq_true h1, Nat.eq_of_beq_eq_true h2]; rfl
   | succ q =>
    have := KC h3 q (by omega)
    rw [List.getElem?_cons_succ, this, show j + (q + 1) = j + 1 + q from by omega]
  | _ => cases h
def Oq (env : List (Nat × bX)) (len : Nat) (l : List At) : Option (Nat × IntKind × List Int) := match l with
 | .pj i _ :: _ => match iQ env i with
  | some ⟨.vec k, d, _⟩ => bif HN i 0 len l then some (i, k, d) else none
  | _ => none
 | _ => none
theorem Rq {len : Nat} {l : List At} {i : Nat} {k : IntKind} {d : List Int} (h : Oq env len l = some (i, k, d)) : (∃ s, iQ env i = some ⟨.vec k, d, s⟩) ∧ ∀ q, q < len → l[q]? = some (.pj i q) := by
 unfold Oq at h
 split at h
 ·rename_i i' j' l'
  split at h
  ·rename_i k' d' s he
   cases hb : HN i' 0 len (.pj i' j' :: l') with
   | false => rw [hb] at h; cases h
   | true =>
    rw [hb] at h; cases h
    exact ⟨⟨s, he⟩, fun q hq => by have := KC hb q hq; rwa [Nat.zero_add] at this⟩
  ·cases h
 ·cases h
theorem RA {c : Cx} {i j : Nat} {k : IntKind} {d : List Int} {s : Option Src} {x : Int} (he : iQ c.env i = some ⟨.vec k, d, s⟩) (hx : d[j]? = some x) : (At.pj i j).rp c = iv k x := by
 simp only [At.rp, he, pjG, hx]
theorem run_map {c : Cx} {len : Nat} {l : List At} {i : Nat} {k : IntKind} {d : List Int} (h : Oq c.env len l = some (i, k, d)) (hl : l.length = len) (hd : d.length = len) : l.map (At.rp c) = d.map (iv k) := by
 obtain ⟨⟨s, he⟩, hr⟩ := Rq h
 refine List.ext_getElem? fun q => ?_
 rw [List.getElem?_map, List.getElem?_map]
 by_cases hq : q < len
 ·rw [hr q hq, List.getElem?_eq_getElem (show q < d.length by omega), Option.map_some, Option.map_some, RA he (List.getElem?_eq_getElem (by omega))]
 ·rw [List.getElem?_eq_none (by omega), List.getElem?_eq_none (by omega)]; rfl
def iRep (k : IntKind) (n : Nat) : iC { l : List Int // l.length = n } where
 size := n
 agg := true
 cp l := l.1.map (iv k)
 len l := by rw [List.length_map, l.2]
 at_ l φ hφ := by obtain ⟨x, _, rfl⟩ := List.mem_map.1 hφ; exact jy
 one h := by cases h
theorem Sl {e : TypeId} {k : IntKind} (hu : P.underlying e = some (.int k)) {F : FP} {w : World} : ∀ {x y : List Int} {cs ds : List Value}, x.length = y.length → bZ F w (x.map (iv k)) cs → bZ F w (y.map (iv k)) ds → ∃ r, Yf P e cs ds r ∧ r = decide (x = y)
 | [], [], [], [], _, _, _ => ⟨true, rfl, by simp⟩
 | a :: x, b :: y, c :: cs, d :: ds, hl, ⟨h1, h2⟩, ⟨h3, h4⟩ => by
  obtain ⟨r, h5, h6⟩ := Sl hu (by simpa using hl) h2 h4
  obtain rfl : c = .int k a := h1
  obtain rfl : d = .int k b := h3
  refine ⟨_, ⟨_, r, .int hu, h5, rfl⟩, ?_⟩
  rw [h6]
  by_cases e1 : a = b
  ·subst e1; simp
  ·simp [e1]
 | [], _ :: _, _, _, h, _, _ => by simp at h
 | _ :: _, [], _, _, h, _, _ => by simp at h
 | [], [], _ :: _, _, _, h, _ => h.elim
 | [], [], [], _ :: _, _, _, h => h.elim
 | _ :: _, _ :: _, [], _, _, h, _ => h.elim
 | _ :: _, _ :: _, _ :: _, [], _, _, h => h.elim
theorem eqT_ints {t e : TypeId} {n : Nat} {k : IntKind} {i : TypeInfo} (hu : P.underlying t = some (.array n e)) (hi : P.info? e = some i) (h1 : i.size = 1) (he : P.underlying e = some (.int k)) (hg : P.eqGuardType P.depth t = false) : EqT P t (iRep k n) :=
 XP hu hi h1 (fun w => by simp [isAgg, run_underlying he]) hg fun x y F w cs ds hc hd => by
  refine ⟨by rw [hc.length, (iRep k n).len]; rfl, ?_⟩
  obtain ⟨r, h2, h3⟩ := Sl (x := x.1) (y := y.1) he (by rw [x.2, y.2]) hc hd
  exact ⟨r, h2, h3.trans (by rw [decide_eq_decide]; exact ⟨Subtype.ext, fun h => by rw [h]⟩)⟩
def Tk (n : Nat) (x y : List Int) : Option Bool := if x.length = n ∧ y.length = n then some (decide (x = y)) else none
def arrE (P : Program) (n : Nat) (env : List (Nat × bX)) (G : List (Nat × Sh)) (b : BinOp) (t : TypeId) (x y : Operand) : Ask dV := match P.underlying t with
 | some (.array len e) => match P.underlying e, OI G x, OI G y with
  | some (.int k), some (.vl true l), some (.vl true l') => Ask.of (P.info? e) fun i => Ask.of (Oq env len l) fun u => Ask.of (Oq env len l') fun v =>
   Ask.when (Nat.beq l.length len && (Nat.beq l'.length len && ((u.2.1 == k) && ((v.2.1 == k) && (Nat.beq i.size 1 && !P.eqGuardType P.depth t))))) (match b with
    | .eql => .bind (Tk len u.2.2 v.2.2) fun r => .ret (iB n .bool r)
    | .neq => .bind (Tk len u.2.2 v.2.2) fun r => .ret (iB n .bool (!r : Bool))
    | _ => .fail)
  | _, _, _ => .fail
 | _ => .fail
theorem arrE_ok (hw : WF n env) {b : BinOp} {t yt : TypeId} {x y : Operand} : aC (aM P E N (.binOp b t x y yt) ty n env G O) (arrE P n env G b t x y) := by
 unfold arrE
 split
 ·rename_i len e hu
  split
  ·rename_i k l l' he hx hy
   refine aC.of fun i hi => aC.of fun u hu1 => aC.of fun v hv1 => aC.when fun hb => ?_
   simp only [Bool.and_eq_true, Bool.not_eq_true'] at hb
   obtain ⟨h1, h2, h3, h4, h5, h6⟩ := hb
   obtain ⟨ui, uk, ud⟩ := u
   obtain ⟨vi, vk, vd⟩ := v
   obtain rfl := eq_of_beq h3
   obtain rfl := eq_of_beq h4
   have hT := eqT_ints hu hi (Nat.eq_of_beq_eq_true h5) he h6
   have use : ∀ {r : Bool}, Tk len ud vd = some r → ∃ (hu : ud.length = len) (hv : vd.length = len), r = decide ((⟨ud, hu⟩ : { l : List Int // l.length = len }) = ⟨vd, hv⟩) ∧
     ∀ η, dw (dN ⟨n, env, η⟩ G) x = some (ag ((iRep vk len).cp ⟨ud, hu⟩)) ∧ dw (dN ⟨n, env, η⟩ G) y = some (ag ((iRep vk len).cp ⟨vd, hv⟩)) := fun {r} hr => by
    unfold Tk at hr
    split at hr
    ·rename_i hlen
     refine ⟨hlen.1, hlen.2, ?_, fun η => ⟨?_, ?_⟩⟩
     ·rw [← Option.some.inj hr, decide_eq_decide]; exact ⟨fun h => Subtype.ext h, fun h => congrArg Subtype.val h⟩
     ·rw [sL (c := ⟨n, env, η⟩) hx]; simp only [Sh.rp, wS, cond_true]; rw [run_map (c := ⟨n, env, η⟩) hu1 (Nat.eq_of_beq_eq_true h1) hlen.1]; rfl
     ·rw [sL (c := ⟨n, env, η⟩) hy]; simp only [Sh.rp, wS, cond_true]; rw [run_map (c := ⟨n, env, η⟩) hv1 (Nat.eq_of_beq_eq_true h2) hlen.2]; rfl
    ·cases hr
   split
   ·intro r hr
    obtain ⟨hu', Ef, e1, h7⟩ := use hr
    subst e1
    exact aM.dat hw rfl fun η => PO hT (h7 η).1 (h7 η).2 rfl rfl
   ·intro r hr
    obtain ⟨hu', Ef, e1, h7⟩ := use hr
    subst e1
    exact aM.dat hw rfl fun η => Vo hT (h7 η).1 (h7 η).2 rfl rfl
   ·trivial
  ·trivial
 ·trivial
def binE (P : Program) [bl P] (n : Nat) (env : List (Nat × bX)) (G : List (Nat × Sh)) (b : BinOp) (t : TypeId) (x y : Operand) : Ask dV :=
 match OI G x with
 | some (.vl true _) => bif (bl.code P t).isSome then YN P n env G b t x y else arrE P n env G b t x y
 | _ => match (opD env G x).map (fun D => D.t) with
  | some (Ty.int _) => intE n env G b x y
  | some Ty.bool => boolE P n env G b t x y
  | some Ty.str => strE n env G b x y
  | _ => optE P n env G b t x y
theorem binE_ok (hw : WF n env) {b : BinOp} {t yt : TypeId} {x y : Operand} : aC (aM P E N (.binOp b t x y yt) ty n env G O) (binE P n env G b t x y) := by
 unfold binE
 split
 ·cases (bl.code P t).isSome with
  | true => exact WG hw
  | false => exact arrE_ok hw
 ·split
  ·exact intE_ok hw
  ·exact boolE_ok hw
  ·exact strE_ok hw
  ·exact optE_ok hw
def unE (n : Nat) (env : List (Nat × bX)) (G : List (Nat × Sh)) (b : UnOp) (x : Operand) : Ask dV := match b with
 | .not => Ask.of (opB env G x) fun u => .ret (iB n .bool (!u : Bool))
 | .neg => Ask.of (P3 env G x) fun u => .ret (iB n (.int u.1) (pZ u.1 u.2))
 | .xor => Ask.of (P3 env G x) fun u => .ret (iB n (.int u.1) (icom u.1 u.2))
 | _ => .fail
theorem unE_ok (hw : WF n env) {b : UnOp} {t : TypeId} {x : Operand} : aC (aM P E N (.unOp b t x) ty n env G O) (unE n env G b x) := by
 cases b with
 | not => exact aC.of fun u hu => aM.dat hw rfl fun η => (Ru (TO hu))
 | neg => exact aC.of fun u hu => aM.dat hw rfl fun η => (r_neg (mB hu))
 | xor => exact aC.of fun u hu => aM.dat hw rfl fun η => (r_com (mB hu))
 | plus => trivial
def convE (P : Program) (n : Nat) (env : List (Nat × bX)) (G : List (Nat × Sh)) (s d : TypeId) (x : Operand) : Ask dV := match P.underlying s, P.underlying d with
 | some (.int _), some (.int k') => Ask.of (P3 env G x) fun u => .ret (iB n (.int k') (k'.wrap u.2))
 | some (.slice e), some .string => match P.underlying e with
  | some (.int .u8) => Ask.of (opL env G x) fun l => match l with
   | ⟨.int .u8, l⟩ => .ret (iB n .str (bstr l))
   | _ => .fail
  | _ => .fail
 | _, _ => .fail
theorem convE_ok (hw : WF n env) {s d : TypeId} {x : Operand} : aC (aM P E N (.convert s d x) ty n env G O) (convE P n env G s d x) := by
 unfold convE
 split
 ·rename_i h1 h2
  exact aC.of fun u hu => aM.dat hw rfl fun η => (r_conv h2 (by rw [h1]; rfl) (mB hu))
 ·rename_i e h1 h2
  split
  ·rename_i h3
   refine aC.of fun l hl => ?_
   split
   ·exact aM.dat hw rfl fun η => (r_b2s h1 h2 h3 (DU hl))
   ·trivial
  ·trivial
 ·trivial
def nilcE (n : Nat) (env : List (Nat × bX)) (G : List (Nat × Sh)) (x : Operand) : Ask dV := Ask.of (CA G x) fun a => match a with
 | .ptr o h off => .ret (yX (.vl false [.ptr o h off]))
 | .vr i => Ask.of (Vl env (.vr i)) fun D => match D with
  | ⟨.op t, d⟩ => .bind d fun y => .ret ⟨.vl false [.ea n], [⟨t, y, none⟩], 0, [], []⟩
  | _ => .fail
 | _ => .fail
theorem ZR (hw : WF n env) {x : Operand} : aC (aM P E N (.nilCheck x) ty n env G O) (nilcE n env G x) :=
 aC.of fun a ha => by
  split
  ·rename_i o h off
   refine aM.same hw fun η => ?_
   have h1 := fB (c := ⟨n, env, η⟩) ha
   cases hb : Nat.blt h n with
   | true =>
    have e : (At.ptr o h off).rp ⟨n, env, η⟩ = pv (ptr (η h).b off) := by simp only [At.rp, hb, cond_true]
    show Rd _ _ _ _ _ _ _ _ ((At.ptr o h off).rp ⟨n, env, η⟩)
    rw [e] at h1 ⊢
    exact r_nilc h1
   | false =>
    have e : (At.ptr o h off).rp ⟨n, env, η⟩ = RP.no := by simp only [At.rp, hb, cond_false]
    rw [e] at h1
    exact fun a w hs => (hs.op h1).elim
  ·refine aC.of fun D hD => ?_
   split
   ·rename_i t' d
    intro y hy
    refine aM.rd' hw (fun e' he' => by rw [List.mem_singleton.1 he']; trivial) fun η => ?_
    have h1 := fB (c := ⟨n, env, η⟩) ha
    rw [(zQ (c := ⟨n, env, η⟩) hD).1] at h1
    have h2 := r_optc (P := P) (E := E) (N := N) (Ω := bL ⟨n, env, η⟩ O) (ty := ty) (ρ := t'.rep) hy h1
    simp only [Sh.rp, wS, cond_false, List.map_cons, List.headD_cons, At.rp, keyed, bM, if_true]
    exact h2
   ·trivial
  ·trivial
end Go.Dc
namespace Go.Dc
variable [aq] {R : Type} {P : Program} [bl P] {E : Env} {N : Nat} {K : KT R} {m : Option R} {op : Op} {ty : TypeId} {n : Nat} {env : List (Nat × bX)} {G : List (Nat × Sh)} {O : List MO}
def Fb (η : Nat → Hd) (k : Nat) (d : Hd) : Nat → Hd := fun i => bif Nat.beq i k then d else η i
theorem qy {η : Nat → Hd} {k : Nat} {d : Hd} : Fb η k d k = d := by simp [Fb]
theorem qx {η : Nat → Hd} {k h : Nat} {d : Hd} (hh : h < k) : Fb η k d h = η h := by simp only [Fb]; rw [wz (by omega)]; rfl
theorem P6 {α : Type} {ρ : iC α} {hv : Value} {S : List Nat} {d : List α} {F : FP} {w : World} (h : (oa ρ hv S d).h F w) : hv.oneCell' = true := by
 obtain ⟨a, c, e, _⟩ := h; rw [e]; rfl
theorem Sat.MB {Γ : List (Nat × RP)} {Ω : List OB} {a : Act} {w : World} (hs : Sat E N Γ Ω a w) {o : OB} (ho : o ∈ Ω) : o.h (fr E Ω) w := hs.ob o ho
theorem aM.newA (hw : WF n env) {t : Ty} {d : List t.den} (h : ∀ η, St P E N op ty (dN ⟨n, env, η⟩ G) (bL ⟨n, env, η⟩ O) [] (fun X : Value × List Nat => pv X.1) (fun X => bL ⟨n, env, η⟩ O ++ [oa t.rep X.1 X.2 d])) :
  aM P E N op ty n env G O ⟨.vl false [.own O.length (n + 1)], [⟨.sl t, d, none⟩], 1, [], [.oa (n + 1) n]⟩ := by
 have hsrc : ∀ e ∈ [(⟨.sl t, d, none⟩ : bX)], gR env e := fun e he => by rw [List.mem_singleton.1 he]; exact .none rfl
 refine ⟨hsrc, (fun _ _ h => by cases h), fun η => ?_⟩
 have h := h η
 refine h.to' fun X a w hs => ?_
 have h1 := P6 (hs.MB (o := oa t.rep X.1 X.2 d) (by simp))
 refine ⟨⟨Fb η (n + 1) ⟨X.1, X.2, 0, h1⟩, fun k hk => qx (by omega)⟩, ?_, ?_⟩
 ·simp only [dV.O', wU]
  refine H7 (aM.ext hw (r := ⟨.vl false [.own O.length (n + 1)], [⟨.sl t, d, none⟩], 1, [], [.oa (n + 1) n]⟩) hsrc ⟨Fb η (n + 1) ⟨X.1, X.2, 0, h1⟩, fun k hk => qx (by omega)⟩) ?_ hs
  simp only [MO.ob, dV.bC, dV.env', dV.n', keyed, bM, if_true, Option.bind_some, cm.ob, bX.QG, qy]
  rw [show Nat.blt (n + 1) (n + [(⟨.sl t, d, none⟩ : bX)].length + 1) = true from by simp [Nat.blt_eq]]
  rfl
 ·simp only [Sh.rp, wS, cond_false, List.map_cons, List.headD_cons, At.rp, dV.bC, dV.n', qy]
  rw [show Nat.blt (n + 1) (n + [(⟨.sl t, d, none⟩ : bX)].length + 1) = true from by simp [Nat.blt_eq]]
  rfl
theorem aM.chgA (hw : WF n env) {t : Ty} {d : List t.den} {j : Nat} (h : ∀ η, St P E N op ty (dN ⟨n, env, η⟩ G) (bL ⟨n, env, η⟩ O) [j] (fun X : Value × List Nat => pv X.1) (fun X => (bL ⟨n, env, η⟩ O).set j (oa t.rep X.1 X.2 d))) (hj : j < O.length) :
  aM P E N op ty n env G O ⟨.vl false [.own j (n + 1)], [⟨.sl t, d, none⟩], 1, [(j, .oa (n + 1) n)], []⟩ := by
 have hsrc : ∀ e ∈ [(⟨.sl t, d, none⟩ : bX)], gR env e := fun e he => by rw [List.mem_singleton.1 he]; exact .none rfl
 refine ⟨hsrc, (fun _ h => by cases h), fun η => ?_⟩
 have h := h η
 refine h.to' fun X a w hs => ?_
 have h1 := P6 (hs.MB (o := oa t.rep X.1 X.2 d) (List.mem_iff_getElem?.2 ⟨j, by rw [List.getElem?_set_self (by simpa [bL] using hj)]⟩))
 refine ⟨⟨Fb η (n + 1) ⟨X.1, X.2, 0, h1⟩, fun k hk => qx (by omega)⟩, ?_, ?_⟩
 ·simp only [dV.O', wU, List.append_nil]
  refine BV (aM.ext hw (r := ⟨.vl false [.own j (n + 1)], [⟨.sl t, d, none⟩], 1, [(j, .oa (n + 1) n)], []⟩) hsrc ⟨Fb η (n + 1) ⟨X.1, X.2, 0, h1⟩, fun k hk => qx (by omega)⟩) ?_ hs
  simp only [MO.ob, dV.bC, dV.env', dV.n', keyed, bM, if_true, Option.bind_some, cm.ob, bX.QG, qy]
  rw [show Nat.blt (n + 1) (n + [(⟨.sl t, d, none⟩ : bX)].length + 1) = true from by simp [Nat.blt_eq]]
  rfl
 ·simp only [Sh.rp, wS, cond_false, List.map_cons, List.headD_cons, At.rp, dV.bC, dV.n', qy]
  rw [show Nat.blt (n + 1) (n + [(⟨.sl t, d, none⟩ : bX)].length + 1) = true from by simp [Nat.blt_eq]]
  rfl
theorem aM.setC (hw : WF n env) {l : List At} {j k : Nat} {X : Type} [Inhabited X] (hj : j < O.length) (hk : Nat.blt k n = true)
  (h : ∀ η, St P E N op ty (dN ⟨n, env, η⟩ G) (bL ⟨n, env, η⟩ O) [j] (fun _ : X => pv Go.undef) (fun _ => (bL ⟨n, env, η⟩ O).set j (oc (η k).b (l.map (At.rp ⟨n, env, η⟩))))) :
  aM P E N op ty n env G O ⟨.undef, [], 0, [(j, .oc k l)], []⟩ := by
 have hsrc : ∀ e ∈ ([] : List bX), gR env e := fun e he => by simp at he
 refine ⟨hsrc, (fun _ h => by cases h), fun η => ?_⟩
 have h := h η
 refine h.to' fun x a w hs => ?_
 refine ⟨⟨η, fun _ _ => rfl⟩, ?_, rfl⟩
 simp only [dV.O', wU, List.append_nil]
 refine BV (aM.ext hw (r := ⟨.undef, [], 0, [(j, .oc k l)], []⟩) hsrc ⟨η, fun _ _ => rfl⟩) ?_ hs
 simp only [MO.ob, dV.bC, dV.n', dV.env', keyed]
 rw [show Nat.blt k (n + ([] : List bX).length + 0) = true from by simpa using hk]
 rfl
theorem aM.setD (hw : WF n env) {t : Ty} {d : List t.den} {j k : Nat} {X : Type} [Inhabited X] (hk : Nat.blt k n = true)
  (h : ∀ η, St P E N op ty (dN ⟨n, env, η⟩ G) (bL ⟨n, env, η⟩ O) [j] (fun _ : X => pv Go.undef) (fun _ => (bL ⟨n, env, η⟩ O).set j (oa t.rep (η k).hv (η k).S d))) :
  aM P E N op ty n env G O ⟨.undef, [⟨.sl t, d, none⟩], 0, [(j, .oa k n)], []⟩ := by
 have hsrc : ∀ e ∈ [(⟨.sl t, d, none⟩ : bX)], gR env e := fun e he => by rw [List.mem_singleton.1 he]; exact .none rfl
 refine ⟨hsrc, (fun _ h => by cases h), fun η => ?_⟩
 have h := h η
 refine h.to' fun x a w hs => ?_
 refine ⟨⟨η, fun _ _ => rfl⟩, ?_, rfl⟩
 simp only [dV.O', wU, List.append_nil]
 refine BV (aM.ext hw (r := ⟨.undef, [⟨.sl t, d, none⟩], 0, [(j, .oa k n)], []⟩) hsrc ⟨η, fun _ _ => rfl⟩) ?_ hs
 simp only [MO.ob, dV.bC, dV.n', dV.env', keyed, bM, if_true, Option.bind_some, cm.ob, bX.QG]
 rw [bV hk (show n ≤ n + [(⟨.sl t, d, none⟩ : bX)].length + 0 from by omega)]
 rfl
theorem aM.newV (hw : WF n env) {k : IntKind} {d : List Int} (h : ∀ η, St P E N op ty (dN ⟨n, env, η⟩ G) (bL ⟨n, env, η⟩ O) [] (fun b : Nat => pv (Dc.ptr b 0)) (fun b => bL ⟨n, env, η⟩ O ++ [oc b (d.map (iv k))])) :
  aM P E N op ty n env G O ⟨.vl false [.ptr O.length (n + 1) 0], [⟨.vec k, d, none⟩], 1, [], [.oa (n + 1) n]⟩ := by
 have hsrc : ∀ e ∈ [(⟨.vec k, d, none⟩ : bX)], gR env e := fun e he => by rw [List.mem_singleton.1 he]; exact .none rfl
 refine ⟨hsrc, (fun _ _ h => by cases h), fun η => ?_⟩
 have h := h η
 refine h.to' fun b a w hs => ?_
 refine ⟨⟨Fb η (n + 1) ⟨.bool true, [], b, rfl⟩, fun k hk => qx (by omega)⟩, ?_, ?_⟩
 ·simp only [dV.O', wU]
  refine H7 (aM.ext hw (r := ⟨.vl false [.ptr O.length (n + 1) 0], [⟨.vec k, d, none⟩], 1, [], [.oa (n + 1) n]⟩) hsrc ⟨Fb η (n + 1) ⟨.bool true, [], b, rfl⟩, fun k hk => qx (by omega)⟩) ?_ hs
  simp only [MO.ob, dV.bC, dV.env', dV.n', keyed, bM, if_true, cm.ob, qy]
  rw [show Nat.blt (n + 1) (n + [(⟨.vec k, d, none⟩ : bX)].length + 1) = true from by simp [Nat.blt_eq]]
  rfl
 ·simp only [Sh.rp, wS, cond_false, List.map_cons, List.headD_cons, At.rp, dV.bC, dV.n', qy]
  rw [show Nat.blt (n + 1) (n + [(⟨.vec k, d, none⟩ : bX)].length + 1) = true from by simp [Nat.blt_eq]]
  rfl
theorem aM.setV (hw : WF n env) {kd : IntKind} {d : List Int} {j k : Nat} {X : Type} [Inhabited X] (hk : Nat.blt k n = true)
  (h : ∀ η, St P E N op ty (dN ⟨n, env, η⟩ G) (bL ⟨n, env, η⟩ O) [j] (fun _ : X => pv Go.undef) (fun _ => (bL ⟨n, env, η⟩ O).set j (oc (η k).b (d.map (iv kd))))) :
  aM P E N op ty n env G O ⟨.undef, [⟨.vec kd, d, none⟩], 0, [(j, .oa k n)], []⟩ := by
 have hsrc : ∀ e ∈ [(⟨.vec kd, d, none⟩ : bX)], gR env e := fun e he => by rw [List.mem_singleton.1 he]; exact .none rfl
 refine ⟨hsrc, (fun _ h => by cases h), fun η => ?_⟩
 have h := h η
 refine h.to' fun x a w hs => ?_
 refine ⟨⟨η, fun _ _ => rfl⟩, ?_, rfl⟩
 simp only [dV.O', wU, List.append_nil]
 refine BV (aM.ext hw (r := ⟨.undef, [⟨.vec kd, d, none⟩], 0, [(j, .oa k n)], []⟩) hsrc ⟨η, fun _ _ => rfl⟩) ?_ hs
 simp only [MO.ob, dV.bC, dV.n', dV.env', keyed, bM, if_true, cm.ob]
 rw [bV hk (show n ≤ n + [(⟨.vec kd, d, none⟩ : bX)].length + 0 from by omega)]
 rfl
theorem aM.newD (hw : WF n env) (hq : E0 op = false) {t : Ty} (ht : t.one = true) {d : t.den} {X : Type} (h : ∀ η, St P E N op ty (dN ⟨n, env, η⟩ G) (bL ⟨n, env, η⟩ O) [] (fun _ : X => sh t.rep d) (fun _ => bL ⟨n, env, η⟩ O)) :
  aM P E N op ty n env G O (iB n t d) := by
 have hsrc : ∀ e ∈ [(⟨t, d, none⟩ : bX)], gR env e := fun e he => by rw [List.mem_singleton.1 he]; exact .none rfl
 refine ⟨hsrc, (fun h => by rw [hq] at h; cases h), fun η => ?_⟩
 have h := h η
 refine h.to' fun x a w hs => ?_
 refine ⟨⟨η, fun _ _ => rfl⟩, ?_, ?_⟩
 ·show bL _ (O ++ []) = _
  rw [List.append_nil]
  exact H6 (aM.ext hw (r := iB n t d) hsrc ⟨η, fun _ _ => rfl⟩) hs
 ·exact YF ht
def RC (n : Nat) (env : List (Nat × bX)) (O : List MO) (o h : Nat) : Option (Nat × (t : Ty) × List t.den) := match O[o]? with
 | some (.oa h' i) => bif Nat.beq h' h && Nat.blt h n then ((iQ env i).bind bX.QG).map fun p => (i, p) else none
 | _ => none
theorem ES {o h i : Nat} {t : Ty} {d : List t.den} (hh : RC n env O o h = some (i, ⟨t, d⟩)) :
  Nat.blt h n = true ∧ o < O.length ∧ (∃ s, iQ env i = some ⟨.sl t, d, s⟩) ∧ ∀ η, (bL ⟨n, env, η⟩ O)[o]? = some (oa t.rep (η h).hv (η h).S d) := by
 unfold RC at hh
 split at hh
 ·rename_i h' i' ho
  cases hb : Nat.beq h' h && Nat.blt h n with
  | false => rw [hb] at hh; cases hh
  | true =>
   rw [hb] at hh
   simp only [cond_true, Option.map_eq_some_iff, Prod.mk.injEq] at hh
   obtain ⟨p, hp, rfl, rfl⟩ := hh
   obtain ⟨e, he, hs⟩ := Option.bind_eq_some_iff.1 hp
   obtain ⟨s, rfl⟩ := Wl hs
   simp only [Bool.and_eq_true] at hb
   obtain ⟨h1, h2⟩ := hb
   obtain rfl := Nat.eq_of_beq_eq_true h1
   refine ⟨h2, (List.getElem?_eq_some_iff.1 ho).1, ⟨s, he⟩, fun η => ?_⟩
   simp only [bL, List.getElem?_map, ho, Option.map_some, MO.ob, he, Option.bind_some, cm.ob, bX.QG, h2, cond_true]
 ·cases hh
def X6 (n : Nat) (env : List (Nat × bX)) (O : List MO) (o h : Nat) : Option (Nat × cm) := match O[o]? with
 | some (.oa h' i) => bif Nat.beq h' h && Nat.blt h n then (iQ env i).map fun e => (i, ⟨e.t, e.d⟩) else none
 | _ => none
theorem LK {o h i : Nat} {D : cm} (hh : X6 n env O o h = some (i, D)) :
  Nat.blt h n = true ∧ o < O.length ∧ (∃ s, iQ env i = some ⟨D.t, D.d, s⟩) ∧ ∀ η, (bL ⟨n, env, η⟩ O)[o]? = some (D.ob (η h)) := by
 unfold X6 at hh
 split at hh
 ·rename_i h' i' ho
  cases hb : Nat.beq h' h && Nat.blt h n with
  | false => rw [hb] at hh; cases hh
  | true =>
   rw [hb] at hh
   obtain ⟨e, he, hs⟩ := Option.map_eq_some_iff.1 hh
   cases hs
   simp only [Bool.and_eq_true] at hb
   obtain ⟨h1, h2⟩ := hb
   obtain rfl := Nat.eq_of_beq_eq_true h1
   refine ⟨h2, (List.getElem?_eq_some_iff.1 ho).1, ⟨e.src, he⟩, fun η => ?_⟩
   simp only [bL, List.getElem?_map, ho, Option.map_some, MO.ob, he, h2, cond_true]
 ·cases hh
def LU (n : Nat) (O : List MO) (o h : Nat) : Option (List At) := match O[o]? with
 | some (.oc h' l) => bif Nat.beq h' h && Nat.blt h n then some l else none
 | _ => none
theorem EK {o h : Nat} {l : List At} (hh : LU n O o h = some l) : Nat.blt h n = true ∧ o < O.length ∧ ∀ η, (bL ⟨n, env, η⟩ O)[o]? = some (oc (η h).b (l.map (At.rp ⟨n, env, η⟩))) := by
 unfold LU at hh
 split at hh
 ·rename_i h' l' ho
  cases hb : Nat.beq h' h && Nat.blt h n with
  | false => rw [hb] at hh; cases hh
  | true =>
   rw [hb] at hh
   cases hh
   simp only [Bool.and_eq_true] at hb
   obtain ⟨h1, h2⟩ := hb
   obtain rfl := Nat.eq_of_beq_eq_true h1
   refine ⟨h2, (List.getElem?_eq_some_iff.1 ho).1, fun η => ?_⟩
   simp only [bL, List.getElem?_map, ho, Option.map_some]
   rw [oc_ob h2]
 ·cases hh
end Go.Dc
namespace Go.Dc
variable [aq] {R : Type} {P : Program} [bl P] {E : Env} {N : Nat} {K : KT R} {m : Option R} {op : Op} {ty : TypeId} {n : Nat} {env : List (Nat × bX)} {G : List (Nat × Sh)} {O : List MO}
def Tn (P : Program) (t : TypeId) (f : Nat) : Option Go.Field := match P.underlying t with
 | some (.struct fs) => fs[f]?
 | _ => none
theorem WE {t : TypeId} {f : Nat} {fd : Go.Field} (h : Tn P t f = some fd) : ∃ fs, P.underlying t = some (.struct fs) ∧ fs[f]? = some fd := by
 unfold Tn at h
 split at h
 ·rename_i fs hu; exact ⟨fs, hu, h⟩
 ·cases h
def fldE (P : Program) [bl P] (e : bX) (f : Nat) : Option (Nat × cm) := match e with
 | ⟨.st k, d, _⟩ => bl.fld (P := P) k f d
 | _ => none
theorem V0 {e : bX} {f fo : Nat} {D : cm} (h : fldE P e f = some (fo, D)) : ((e.t.rep.cp e.d).drop fo).take D.t.rep.size = D.t.rep.cp D.d ∧ fo + D.t.rep.size ≤ e.t.rep.size := by
 unfold fldE at h
 split at h
 ·rename_i k d s; exact bl.fld_ok k f d fo D h
 ·cases h
def TK (n : Nat) (env : List (Nat × bX)) (O : List MO) (o h y : Nat) : Option (bX × Int × (t : Ty) × List t.den) := match iQ env y with
 | some ⟨t, d, some (.el ds ix)⟩ => (RC n env O o h).bind fun p => bif Nat.beq p.1 ds then some (⟨t, d, some (.el ds ix)⟩, ix, p.2) else none
 | _ => none
theorem HX (hw : WF n env) {o h y : Nat} {e : bX} {ix : Int} {p : (t : Ty) × List t.den} (hh : TK n env O o h y = some (e, ix, p)) :
  iQ env y = some e ∧ (∃ ds, e.src = some (.el ds ix)) ∧ ∃ l : List e.t.den, p = ⟨e.t, l⟩ ∧ aL l ix = some e.d ∧ Nat.blt h n = true ∧ o < O.length ∧ ∀ η, (bL ⟨n, env, η⟩ O)[o]? = some (oa e.t.rep (η h).hv (η h).S l) := by
 unfold TK at hh
 split at hh
 ·rename_i t d ds ix' he
  obtain ⟨q, hq, h2⟩ := Option.bind_eq_some_iff.1 hh
  cases hb : Nat.beq q.1 ds with
  | false => rw [hb] at h2; cases h2
  | true =>
   rw [hb] at h2
   simp only [cond_true, Option.some.injEq, Prod.mk.injEq] at h2
   obtain ⟨rfl, rfl, rfl⟩ := h2
   obtain ⟨i, t', l⟩ := q
   obtain ⟨h3, h4, ⟨s, h5⟩, h6⟩ := ES hq
   obtain rfl := Nat.eq_of_beq_eq_true hb
   have h7 := hw.src y _ he
   unfold gR at h7
   obtain ⟨l', s', h8, h9⟩ := h7
   dsimp only at h8
   rw [h5] at h8
   cases h8
   exact ⟨he, ⟨_, rfl⟩, l, rfl, h9, h3, h4, h6⟩
 ·cases hh
def vecA (n : Nat) (env : List (Nat × bX)) (O : List MO) (o h : Nat) : Option (Nat × IntKind × List Int) := match X6 n env O o h with
 | some (i, ⟨.vec k, d⟩) => some (i, k, d)
 | _ => none
theorem U5 {o h i : Nat} {k : IntKind} {d : List Int} (hh : vecA n env O o h = some (i, k, d)) :
  Nat.blt h n = true ∧ o < O.length ∧ (∃ s, iQ env i = some ⟨.vec k, d, s⟩) ∧ ∀ η, (bL ⟨n, env, η⟩ O)[o]? = some (oc (η h).b (d.map (iv k))) := by
 unfold vecA at hh
 split at hh
 ·rename_i i' k' d' h1
  cases hh
  obtain ⟨h2, h3, h4, h5⟩ := LK h1
  exact ⟨h2, h3, h4, h5⟩
 ·cases hh
def vecE (n : Nat) (env : List (Nat × bX)) (O : List MO) (o h y : Nat) : Option (IntKind × Int × Int × List Int) := match iQ env y with
 | some ⟨.int k, z, some (.ve ds ix)⟩ => (vecA n env O o h).bind fun p => bif Nat.beq p.1 ds && (p.2.1 == k) then some (k, z, ix, p.2.2) else none
 | _ => none
theorem U4 (hw : WF n env) {o h y : Nat} {k : IntKind} {z ix : Int} {d : List Int} (hh : vecE n env O o h y = some (k, z, ix, d)) :
  (∃ ds, iQ env y = some ⟨.int k, z, some (.ve ds ix)⟩) ∧ aL d ix = some z ∧ Nat.blt h n = true ∧ o < O.length ∧ ∀ η, (bL ⟨n, env, η⟩ O)[o]? = some (oc (η h).b (d.map (iv k))) := by
 unfold vecE at hh
 split at hh
 ·rename_i k' z' ds ix' he
  obtain ⟨⟨i, k2, d'⟩, hq, h2⟩ := Option.bind_eq_some_iff.1 hh
  cases hb : Nat.beq i ds && (k2 == k') with
  | false => rw [hb] at h2; cases h2
  | true =>
   rw [hb] at h2
   simp only [cond_true, Option.some.injEq, Prod.mk.injEq] at h2
   obtain ⟨rfl, rfl, rfl, rfl⟩ := h2
   simp only [Bool.and_eq_true] at hb
   obtain ⟨Q5, rQ⟩ := hb
   obtain rfl := Nat.eq_of_beq_eq_true Q5
   obtain rfl := eq_of_beq rQ
   obtain ⟨h3, h4, ⟨s, h5⟩, h6⟩ := U5 hq
   have h7 := hw.src y _ he
   obtain ⟨k3, l3, s3, y3, h8, h9, h10⟩ := h7
   rw [h5] at h8
   cases h8
   cases h10
   exact ⟨⟨_, he⟩, h9, h3, h4, h6⟩
 ·cases hh
def runA (n : Nat) (env : List (Nat × bX)) (O : List MO) (o h off len : Nat) : Option (Nat × IntKind × List Int) := (LU n O o h).bind fun l => Oq env len (l.drop off)
theorem PK {o h off len i : Nat} {k : IntKind} {d : List Int} (hh : runA n env O o h off len = some (i, k, d)) :
  Nat.blt h n = true ∧ o < O.length ∧ (∃ s, iQ env i = some ⟨.vec k, d, s⟩) ∧ ∃ l, LU n O o h = some l ∧ (∀ q, q < len → l[off + q]? = some (.pj i q)) ∧ ∀ η, (bL ⟨n, env, η⟩ O)[o]? = some (oc (η h).b (l.map (At.rp ⟨n, env, η⟩))) := by
 obtain ⟨l, h1, h2⟩ := Option.bind_eq_some_iff.1 hh
 obtain ⟨h3, h4⟩ := Rq h2
 obtain ⟨h5, h6, h7⟩ := EK (env := env) h1
 refine ⟨h5, h6, h3, l, h1, fun q hq => ?_, h7⟩
 rw [← List.getElem?_drop]; exact h4 q hq
def runE (n : Nat) (env : List (Nat × bX)) (O : List MO) (o h y : Nat) : Option (IntKind × Int × Int × Nat × Nat × List Int) := match iQ env y with
 | some ⟨.int k, z, some (.vf ds ix off len)⟩ => (runA n env O o h off len).bind fun p => bif Nat.beq p.1 ds && (p.2.1 == k) then some (k, z, ix, off, len, p.2.2) else none
 | _ => none
theorem Vj (hw : WF n env) {o h y off len : Nat} {k : IntKind} {z ix : Int} {d : List Int} (hh : runE n env O o h y = some (k, z, ix, off, len, d)) :
  ∃ ds, iQ env y = some ⟨.int k, z, some (.vf ds ix off len)⟩ ∧ aL d ix = some z ∧ ix < (len : Int) ∧ Nat.blt h n = true ∧ o < O.length ∧ (∃ s, iQ env ds = some ⟨.vec k, d, s⟩) ∧
   ∃ l, LU n O o h = some l ∧ (∀ q, q < len → l[off + q]? = some (.pj ds q)) ∧ ∀ η, (bL ⟨n, env, η⟩ O)[o]? = some (oc (η h).b (l.map (At.rp ⟨n, env, η⟩))) := by
 unfold runE at hh
 split at hh
 ·rename_i k' z' ds ix' off' len' he
  obtain ⟨⟨i, k2, d'⟩, hq, h2⟩ := Option.bind_eq_some_iff.1 hh
  cases hb : Nat.beq i ds && (k2 == k') with
  | false => rw [hb] at h2; cases h2
  | true =>
   rw [hb] at h2
   simp only [cond_true, Option.some.injEq, Prod.mk.injEq] at h2
   obtain ⟨rfl, rfl, rfl, rfl, rfl, rfl⟩ := h2
   simp only [Bool.and_eq_true] at hb
   obtain ⟨Q5, rQ⟩ := hb
   obtain rfl := Nat.eq_of_beq_eq_true Q5
   obtain rfl := eq_of_beq rQ
   obtain ⟨h3, h4, ⟨s, h5⟩, l, h6, h7, h8⟩ := PK hq
   have h9 := hw.src y _ he
   obtain ⟨k3, l3, s3, y3, g1, g2, g3, g4⟩ := h9
   rw [h5] at g1
   cases g1
   cases g4
   exact ⟨i, he, g2, g3, h3, h4, ⟨s, h5⟩, l, h6, h7, h8⟩
 ·cases hh
theorem VQ {d : List Int} {ix z : Int} (h : aL d ix = some z) : 0 ≤ ix ∧ d[ix.toNat]? = some z := by
 obtain ⟨h0, _, hl, hd⟩ := jB h
 exact ⟨h0, by rw [List.getElem?_eq_getElem hl, hd]⟩
theorem runE_at {o h y off len : Nat} {k : IntKind} {z ix : Int} {d : List Int} {ds : Nat} {s : Option Src} {l : List At} (hi : aL d ix = some z) (hlt : ix < (len : Int)) (he : iQ env ds = some ⟨.vec k, d, s⟩)
  (hl : ∀ q, q < len → l[off + q]? = some (.pj ds q)) (η : Nat → Hd) : (l.map (At.rp ⟨n, env, η⟩))[off + ix.toNat]? = some (iv k z) := by
 obtain ⟨h0, hd⟩ := VQ hi
 rw [List.getElem?_map, hl ix.toNat (by omega), Option.map_some, RA (c := ⟨n, env, η⟩) he hd]
def faddrE (P : Program) [bl P] (n : Nat) (env : List (Nat × bX)) (G : List (Nat × Sh)) (O : List MO) (t : TypeId) (x : Operand) (f : Nat) : Ask dV :=
 Ask.of (Tn P t f) fun fd => Ask.of (Cv P fd.type) fun k => Ask.when (Nat.blt 0 k) (Ask.of (CA G x) fun a => match a with
  | .ptr o h off => Ask.when (Nat.blt h n) (.ret (yX (.vl false [.ptr o h (off + fd.offset)])))
  | .ea i => Ask.of (iQ env i) fun e => Ask.of (fldE P e f) fun p => Ask.when (Nat.beq fd.offset p.1) (.ret ⟨.vl false [.ea n], [⟨p.2.t, p.2.d, none⟩], 0, [], []⟩)
  | .Mx o h y => Ask.of (TK n env O o h y) fun q => Ask.of (fldE P q.1 f) fun p => Ask.when (Nat.beq fd.offset p.1) (.ret ⟨.vl false [.Yn o h n], [⟨p.2.t, p.2.d, some (.fl y p.1)⟩], 0, [], []⟩)
  | _ => .fail)
theorem XO (hw : WF n env) {t : TypeId} {x : Operand} {f : Nat} : aC (aM P E N (.fieldAddr t x f) ty n env G O) (faddrE P n env G O t x f) :=
 aC.of fun fd hfd => aC.of fun k hk => aC.when fun Ce => aC.of fun a ha => by
  obtain ⟨fs, hu, hf⟩ := WE hfd
  obtain ⟨k, rfl⟩ : ∃ k', k = k' + 1 := ⟨k - 1, by simp only [Nat.blt_eq] at Ce; omega⟩
  have hx := fun η => fB (c := ⟨n, env, η⟩) ha
  split
  ·rename_i o h off
   refine aC.when fun hb => aM.same hw fun η => ?_
   have h1 := hx η
   rw [lQ (c := ⟨n, env, η⟩) hb] at h1
   have h2 := kF (E := E) (N := N) (Ω := bL ⟨n, env, η⟩ O) (ty := ty) hu hf rfl (gi hk) h1
   show Rd _ _ _ _ _ _ _ _ ((At.ptr o h (off + fd.offset)).rp ⟨n, env, η⟩)
   rw [lQ (c := ⟨n, env, η⟩) hb]
   exact h2
  ·rename_i i
   refine aC.of fun e he => aC.of fun p hp => aC.when fun hb => ?_
   obtain ⟨h1, h2⟩ := V0 hp
   have hb := Nat.eq_of_beq_eq_true hb
   refine aM.rd' hw (fun e he => by rw [List.mem_singleton.1 he]; exact .none rfl) fun η => ?_
   have h3 := hx η
   simp only [At.rp, he] at h3
   have h4 := r_fea (E := E) (N := N) (Ω := bL ⟨n, env, η⟩ O) (ty := ty) (ρ' := p.2.t.rep) (z := p.2.d) hu hf hb (gi hk) h3 h1 (Nat.ble_eq_true_of_le h2)
   simp only [Sh.rp, wS, cond_false, List.map_cons, List.headD_cons, At.rp, keyed, bM, if_true]
   exact h4
  ·rename_i o h y
   refine aC.of fun q hq => aC.of fun p hp => aC.when fun hb => ?_
   obtain ⟨e, ix, pl⟩ := q
   obtain ⟨he, ⟨ds, hsrc⟩, l, rfl, hi, uX, hlt, hj⟩ := HX hw hq
   obtain ⟨h1, h2⟩ := V0 hp
   have hb := Nat.eq_of_beq_eq_true hb
   have hy : y ≠ n := fun h => by have := hw.lt y e he; omega
   refine aM.rd' hw (fun e' he' => ?_) fun η => ?_
   ·rw [List.mem_singleton.1 he']; exact ⟨e, he, h1, h2⟩
   ·have h3 := hx η
    obtain ⟨t', d', s'⟩ := e
    simp only at hsrc
    subst hsrc
    simp only [At.rp, he, uX, cond_true] at h3
    have h4 := r_foea (E := E) (N := N) (Ω := bL ⟨n, env, η⟩ O) (ty := ty) (ρ := t'.rep) (fo := p.1) hi hu hf hb (gi hk) h3 (hj η)
    simp only [Sh.rp, wS, cond_false, List.map_cons, List.headD_cons, At.rp, keyed, bM, if_true, if_neg hy, he]
    rw [bV uX (show n ≤ n + [(⟨p.2.t, p.2.d, some (.fl y p.1)⟩ : bX)].length from by omega)]
    exact h4
  ·trivial
def Zj (P : Program) [bl P] (n i : Nat) (e : bX) : dV := bif e.t.one then yX (.vl false [.vr i]) else ⟨(YH P n ⟨e.t, e.d⟩).1, (YH P n ⟨e.t, e.d⟩).2, 0, [], []⟩
theorem PL (hw : WF n env) {i : Nat} {e : bX} (he : iQ env i = some e) {J : List Nat} (hJ : ∀ j ∈ J, j ∈ F4 G op) (h : ∀ η, Rd P E N op ty (dN ⟨n, env, η⟩ G) (bL ⟨n, env, η⟩ O) J (sh e.t.rep e.d)) : aM P E N op ty n env G O (Zj P n i e) := by
 unfold Zj
 cases ho : e.t.one with
 | true =>
  refine aM.rdJ hw (fun e he => by simp at he) hJ fun η => ?_
  show Rd _ _ _ _ _ _ _ _ ((At.vr i).rp ⟨n, env, η⟩)
  simp only [At.rp, he, ho, cond_true]
  exact h η
 | false =>
  refine aM.rdJ hw (U7 (D := ⟨e.t, e.d⟩) (η := fun _ => ⟨.bool true, [], 0, rfl⟩) (n' := 0) rfl).2 hJ fun η => ?_
  rw [(U7 (D := ⟨e.t, e.d⟩) (v := (YH P n ⟨e.t, e.d⟩).1) (add := (YH P n ⟨e.t, e.d⟩).2) rfl).1]; exact h η
theorem cst_no {v : Value} {a : At} {o : Nat} (hc : cst v = some (.vl false [a])) (h : (∃ h off, a = .ptr o h off) ∨ (∃ h y, a = .Mx o h y) ∨ (∃ h z, a = .Yn o h z)) : False := by
 unfold cst at hc
 split at hc <;> first
  | (cases hc; rcases h with ⟨_, _, e⟩ | ⟨_, _, e⟩ | ⟨_, _, e⟩ <;> cases e; done)
  | (cases hc; done)
  | skip
 rename_i f
 cases hb : Nat.blt f IA with
 | false => rw [hb] at hc; cases hc
 | true => rw [hb] at hc; cases hc; rcases h with ⟨_, _, e⟩ | ⟨_, _, e⟩ | ⟨_, _, e⟩ <;> cases e
theorem uq {G : List (Nat × Sh)} {t : TypeId} {x : Operand} {a : At} {o : Nat} (ha : CA G x = some a) (h : (∃ h off, a = .ptr o h off) ∨ (∃ h y, a = .Mx o h y) ∨ (∃ h z, a = .Yn o h z)) : ∀ j ∈ [o], j ∈ F4 G (.load t x) := by
 intro j hj
 rw [List.mem_singleton.1 hj]
 cases x with
 | tmp s =>
  have h1 : y7 G s = some (.vl false [a]) := by
   unfold CA OI at ha
   split at ha
   ·rename_i b hb; cases ha; exact hb
   ·cases ha
  simp only [F4, h1]
  rcases h with ⟨_, _, rfl⟩ | ⟨_, _, rfl⟩ | ⟨_, _, rfl⟩ <;> simp [Wr]
 | const v =>
  unfold CA at ha
  split at ha
  ·rename_i b hb
   cases ha
   exact (cst_no (show cst v = _ from hb) h).elim
  ·cases ha
 | func f =>
  unfold CA OI at ha
  simp only at ha
  cases hb : Nat.blt f IA with
  | false => rw [hb] at ha; cases ha
  | true =>
   rw [hb] at ha
   cases ha
   rcases h with ⟨_, _, h⟩ | ⟨_, _, h⟩ | ⟨_, _, h⟩ <;> cases h
 | global g => unfold CA OI at ha; cases ha
def loadE (P : Program) [bl P] (n : Nat) (env : List (Nat × bX)) (G : List (Nat × Sh)) (O : List MO) (t : TypeId) (x : Operand) : Ask dV :=
 Ask.of (CA G x) fun a => match a with
  | .ptr o h off => Ask.of (LU n O o h) fun l => Ask.of (SU P t) fun g => bif g
    then Ask.of (Cv P t) fun k => Ask.when (Nat.beq ((l.drop off).take k).length k) (.ret (yX (.vl true ((l.drop off).take k))))
    else Ask.of l[off]? fun a => .ret (yX (.vl false [a]))
  | .ea i => Ask.of (iQ env i) fun e => Ask.of (XR P t) fun c => if c.1 = e.t then .ret (Zj P n i e) else .fail
  | .Mx o h y => match vecE n env O o h y with
   | some v => Ask.of (SU P t) fun g => Ask.when (!g) (.ret (yX (.vl false [.vr y])))
   | none => match runE n env O o h y with
   | some v => Ask.of (SU P t) fun g => Ask.when (!g) (.ret (yX (.vl false [.vr y])))
   | none => Ask.of (TK n env O o h y) fun q => Ask.of (XR P t) fun c => if c.1 = q.1.t then .ret (Zj P n y q.1) else .fail
  | .Yn o h z => Ask.of (iQ env z) fun ez => match ez.src with
   | some (.fl y fo) => Ask.of (TK n env O o h y) fun q => Ask.of (XR P t) fun c => if c.1 = ez.t then .ret (Zj P n z ez) else .fail
   | _ => .fail
  | _ => .fail
theorem aaf (hw : WF n env) {t : TypeId} {x : Operand} : aC (aM P E N (.load t x) ty n env G O) (loadE P n env G O t x) :=
 aC.of fun a ha => by
  have hx := fun η => fB (c := ⟨n, env, η⟩) ha
  split
  ·rename_i o h off
   refine aC.of fun l hl => aC.of fun g hg => ?_
   obtain ⟨hb, hlt, hj⟩ := EK (env := env) hl
   cases g with
   | true =>
    refine aC.of fun k hk => aC.when fun hkl => aM.rdJ hw (fun e he => by simp at he) (uq ha (.inl ⟨_, _, rfl⟩)) fun η => ?_
    have h1 := hx η
    rw [lQ (c := ⟨n, env, η⟩) hb] at h1
    have h2 := iT (E := E) (N := N) (ty := ty) (xu hg) (gi hk) h1 (hj η) rfl (by simpa using hkl)
    simp only [Sh.rp, wS, cond_true]
    rw [List.map_take, List.map_drop]
    exact h2
   | false =>
    refine aC.of fun b hb' => aM.rdJ hw (fun e he => by simp at he) (uq ha (.inl ⟨_, _, rfl⟩)) fun η => ?_
    have h1 := hx η
    rw [lQ (c := ⟨n, env, η⟩) hb] at h1
    exact iD (E := E) (N := N) (ty := ty) (xu hg) h1 (hj η) (by rw [List.getElem?_map, hb']; rfl)
  ·rename_i i
   refine aC.of fun e he => aC.of fun c hc => ?_
   split
   ·rename_i h
    obtain ⟨c1, c2⟩ := c
    simp only at h
    subst h
    refine PL hw he (J := []) (fun j hj => by simp at hj) fun η => (BP (lg hc) ?_)
    have h1 := hx η
    simp only [At.rp, he] at h1
    exact h1
   ·trivial
  ·rename_i o h y
   split
   ·rename_i v hv
    obtain ⟨k, z, ix, d⟩ := v
    obtain ⟨⟨ds, he⟩, hi, uX, hlt, hj⟩ := U4 hw hv
    refine aC.of fun g hg => aC.when fun hgg => aM.rdJ hw (fun e he => by simp at he) (uq ha (.inr (.inl ⟨_, _, rfl⟩))) fun η => ?_
    have hg0 : g = false := by simpa using hgg
    subst hg0
    have h1 := hx η
    simp only [At.rp, he, uX, cond_true] at h1
    simp only [Sh.rp, wS, cond_false, List.map_cons, List.headD_cons, At.rp, keyed, he]
    exact r_vload (E := E) (N := N) (ty := ty) hi (xu hg) h1 (hj η)
   split
   ·rename_i v hv
    obtain ⟨k, z, ix, off, len, d⟩ := v
    obtain ⟨ds, he, hi, NK, uX, hlt, ⟨s, hs⟩, l, hvar, hrun, hj⟩ := Vj hw hv
    refine aC.of fun g hg => aC.when fun hgg => aM.rdJ hw (fun e he => by simp at he) (uq ha (.inr (.inl ⟨_, _, rfl⟩))) fun η => ?_
    have hg0 : g = false := by simpa using hgg
    subst hg0
    have h1 := hx η
    simp only [At.rp, he, uX, cond_true] at h1
    simp only [Sh.rp, wS, cond_false, List.map_cons, List.headD_cons, At.rp, keyed, he]
    exact iD (E := E) (N := N) (ty := ty) (xu hg) h1 (hj η) (runE_at (o := o) (h := h) (y := y) hi NK hs hrun η)
   refine aC.of fun q hq => aC.of fun c hc => ?_
   split
   ·rename_i h0
    obtain ⟨e, ix, pl⟩ := q
    obtain ⟨he, ⟨ds, hsrc⟩, l, rfl, hi, uX, hlt, hj⟩ := HX hw hq
    obtain ⟨c1, c2⟩ := c
    simp only at h0
    subst h0
    refine PL hw he (uq ha (.inr (.inl ⟨_, _, rfl⟩))) fun η => (Vp hi (lg hc) ?_ (hj η))
    have h1 := hx η
    obtain ⟨t', d', s'⟩ := e
    simp only at hsrc
    subst hsrc
    simp only [At.rp, he, uX, cond_true] at h1
    exact h1
   ·trivial
  ·rename_i o h z
   refine aC.of fun ez hez => ?_
   split
   ·rename_i y fo hsz
    refine aC.of fun q hq => aC.of fun c hc => ?_
    split
    ·rename_i h0
     obtain ⟨e, ix, pl⟩ := q
     obtain ⟨he, ⟨ds, hsrc⟩, l, rfl, hi, uX, hlt, hj⟩ := HX hw hq
     obtain ⟨c1, c2⟩ := c
     simp only at h0
     subst h0
     have h7 := hw.src z _ hez
     unfold gR at h7
     rw [hsz] at h7
     obtain ⟨ey, h8, h9, h10⟩ := h7
     rw [he] at h8
     cases h8
     refine PL hw hez (uq ha (.inr (.inr ⟨_, _, rfl⟩))) fun η => (Zp hi (lg hc) ?_ (hj η) h9 (Nat.ble_eq_true_of_le h10))
     have h1 := hx η
     obtain ⟨t', d', s'⟩ := e
     simp only at hsrc
     subst hsrc
     obtain ⟨tz, dz, sz⟩ := ez
     simp only at hsz
     subst hsz
     simp only [At.rp, hez, he, uX, cond_true] at h1
     exact h1
    ·trivial
   ·trivial
  ·trivial
end Go.Dc
namespace Go.Dc
variable [aq] {R : Type} {P : Program} [bl P] {E : Env} {N : Nat} {K : KT R} {m : Option R} {op : Op} {ty : TypeId} {n : Nat} {env : List (Nat × bX)} {G : List (Nat × Sh)} {O : List MO}
def Wj {α : Type} (ix : Int) (k : Nat → Ask α) : Nat → Nat → Ask α
 | _, 0 => .fail
 | i, m + 1 => .cond (ix == (i : Int)) (k i) (Wj ix k (i + 1) m)
theorem Nu {α : Type} {Q : α → Prop} {ix : Int} {k : Nat → Ask α} {len : Nat} (h : ∀ i, i < len → ix = (i : Int) → aC Q (k i)) : ∀ {m i : Nat}, i + m = len → aC Q (Wj ix k i m)
 | 0, _, _ => trivial
 | m + 1, i, e => ⟨fun hb => h i (by omega) (eq_of_beq hb), fun _ => Nu h (m := m) (by omega)⟩
def Jd (c : Nat) (d : List Int) (l ix : Int) : Option Int := if d.length = c then aL (d.take l.toNat) ix else none
theorem Q_ {c : Nat} {d : List Int} {l ix y : Int} (h : Jd c d l ix = some y) : d.length = c ∧ aL d ix = some y ∧ 0 ≤ ix ∧ ix < (l.toNat : Int) ∧ ix < (c : Int) := by
 unfold Jd at h
 split at h
 ·rename_i hl
  obtain ⟨h0, h1, hi, hd⟩ := jB h
  rw [List.length_take] at h1 hi
  rw [List.getElem_take] at hd
  refine ⟨hl, ?_, h0, by omega, by omega⟩
  unfold aL
  rw [if_pos h0, List.getElem?_eq_getElem (by omega), hd]
 ·cases h
def XQ : bX → Option Int
 | ⟨.int .i64, l, _⟩ => some l
 | _ => none
theorem LH {e : bX} {l : Int} (h : XQ e = some l) : ∃ s, e = ⟨.int .i64, l, s⟩ := by
 unfold XQ at h
 split at h
 ·cases h; exact ⟨_, rfl⟩
 ·cases h
theorem W8 {t e : TypeId} {α : Type} {ρ : iC α} {bytes : Nat} {x i : Operand} {Γ : List (Nat × RP)} {Ω : List OB} {b off l c : Nat} {k : IntKind} {m : Int} (h0 : 0 ≤ m) (h1 : m < (l : Int)) (hu : P.underlying t = some (.slice e)) (h : Hr P e ρ bytes) (hs : ρ.size = 1)
  (hx : dw Γ x = some (pv (.slice (some ⟨b, off, none⟩) l c))) (hi : dw Γ i = some (iv k m)) : Rd P E N (.indexAddr t x i) ty Γ Ω [] (pv (Dc.ptr b (off + m.toNat))) := .mk fun a w hs' => by
 have Ef : a.eval x = .slice (some ⟨b, off, none⟩) l c := hs'.op hx
 have h2 : a.eval i = .int k m := hs'.op hi
 refine ⟨_, rfl, fun w' o ho _ => ?_⟩
 simp [execOp, ho, Ef, h2, Jo hu h h0 h1, hs, Dc.ptr]
def idxE (P : Program) [bl P] (n : Nat) (env : List (Nat × bX)) (G : List (Nat × Sh)) (O : List MO) (t : TypeId) (x i : Operand) : Ask dV :=
 Ask.of (P3 env G i) fun ix => match P.underlying t with
 | some (.slice e) => Ask.of (XR P e) fun c => Ask.of (CA G x) fun a => match a with
  | .own o h => Ask.of (RC n env O o h) fun q => if hc : c.1 = q.2.1 then .bind (aL q.2.2 ix.2) fun y => .ret ⟨.vl false [.Mx o h n], [⟨q.2.1, y, some (.el q.1 ix.2)⟩], 0, [], []⟩ else .fail
  | .vs o h off i cp => Ask.of (runA n env O o h off cp) fun v => Ask.of ((iQ env i).bind XQ) fun l => Ask.when (Nat.beq c.1.rep.size 1) (.bind (Jd cp v.2.2 l ix.2) fun y => .ret ⟨.vl false [.Mx o h n], [⟨.int v.2.1, y, some (.vf v.1 ix.2 off cp)⟩], 0, [], []⟩)
  | _ => Ask.of (opL env G x) fun l => if hc : c.1 = l.1 then .bind (aL l.2 ix.2) fun y => .ret ⟨.vl false [.ea n], [⟨l.1, y, none⟩], 0, [], []⟩ else .fail
 | some (.array len e) => Ask.of (Cv P e) fun sz => Ask.of (CA G x) fun a => match a with
  | .ptr o h off => match vecA n env O o h with
   | some v => Ask.when (Nat.beq off 0 && Nat.beq sz 1) (.bind (lq len v.2.2 ix.2) fun y => .ret ⟨.vl false [.Mx o h n], [⟨.int v.2.1, y, some (.ve v.1 ix.2)⟩], 0, [], []⟩)
   | none => match runA n env O o h off len with
   | some v => Ask.when (Nat.beq sz 1) (.bind (lq len v.2.2 ix.2) fun y => .ret ⟨.vl false [.Mx o h n], [⟨.int v.2.1, y, some (.vf v.1 ix.2 off len)⟩], 0, [], []⟩)
   | none => Ask.when (Nat.blt h n) (bif Vy G i then (if 0 ≤ ix.2 ∧ ix.2 < len then .ret (yX (.vl false [.ptr o h (off + ix.2.toNat * sz)])) else .fail)
   else Ask.when (Nat.ble len 8) (Wj ix.2 (fun j => .ret (yX (.vl false [.ptr o h (off + j * sz)]))) 0 len))
  | _ => .fail
 | _ => .fail
theorem idxE_ok (hw : WF n env) {t : TypeId} {x i : Operand} : aC (aM P E N (.indexAddr t x i) ty n env G O) (idxE P n env G O t x i) :=
 aC.of fun ix Ja => by
  have hi := fun η => mB (n := n) (η := η) Ja
  split
  ·rename_i e hu
   refine aC.of fun c hc => aC.of fun a ha => ?_
   have hx := fun η => fB (c := ⟨n, env, η⟩) ha
   split
   ·rename_i o h
    refine aC.of fun q hq => ?_
    split
    ·rename_i hct
     obtain ⟨i0, t', l⟩ := q
     obtain ⟨c1, c2⟩ := c
     simp only at hct
     subst hct
     obtain ⟨hb, hlt, ⟨s, he⟩, hj⟩ := ES hq
     intro y hy
     refine aM.rd' hw (fun e' he' => ?_) fun η => ?_
     ·rw [List.mem_singleton.1 he']; exact ⟨l, s, he, hy⟩
     ·have h1 := hx η
      rw [xT (c := ⟨n, env, η⟩) hb] at h1
      have h2 := Rt (E := E) (N := N) (ty := ty) hy hu (lg hc) h1 (hj η) (hi η)
      simp only [Sh.rp, wS, cond_false, List.map_cons, List.headD_cons, At.rp, keyed, bM, if_true]
      rw [bV hb (show n ≤ n + [(⟨c1, y, some (.el i0 ix.2)⟩ : bX)].length from by omega)]
      exact h2
    ·trivial
   ·rename_i o h off j cp
    refine aC.of fun v hv => aC.of fun l hl => aC.when fun hsz => ?_
    obtain ⟨ds, k, d⟩ := v
    obtain ⟨hb, hlt, ⟨s, he⟩, lc, hvar, hrun, hj⟩ := PK hv
    obtain ⟨ej, hej, hl⟩ := Option.bind_eq_some_iff.1 hl
    obtain ⟨sj, rfl⟩ := LH hl
    intro y hy
    obtain ⟨q1, q2, q3, q4, q5⟩ := Q_ hy
    refine aM.rd' hw (fun e' he' => ?_) fun η => ?_
    ·rw [List.mem_singleton.1 he']; exact ⟨k, d, s, y, he, q2, q5, rfl⟩
    ·have h1 := hx η
     simp only [At.rp, hej, hb, cond_true] at h1
     have h2 := W8 (E := E) (N := N) (Ω := bL ⟨n, env, η⟩ O) (ty := ty) q3 q4 hu (lg hc) (Nat.eq_of_beq_eq_true hsz) h1 (hi η)
     simp only [Sh.rp, wS, cond_false, List.map_cons, List.headD_cons, At.rp, keyed, bM, if_true]
     rw [bV hb (show n ≤ n + [(⟨.int k, y, some (.vf ds ix.2 off cp)⟩ : bX)].length from by omega)]
     exact h2
   ·refine aC.of fun l hl => ?_
    split
    ·rename_i hct
     obtain ⟨t', l⟩ := l
     obtain ⟨c1, c2⟩ := c
     simp only at hct
     subst hct
     intro y hy
     refine aM.rd' hw (fun e' he' => by rw [List.mem_singleton.1 he']; exact .none rfl) fun η => ?_
     have h2 := w6 (E := E) (N := N) (Ω := bL ⟨n, env, η⟩ O) (ty := ty) hy hu (lg hc) (DU (n := n) (η := η) hl) (hi η)
     simp only [Sh.rp, wS, cond_false, List.map_cons, List.headD_cons, At.rp, keyed, bM, if_true]
     exact h2
    ·trivial
  ·rename_i len e hu
   refine aC.of fun sz hsz => aC.of fun a ha => ?_
   have hx := fun η => fB (c := ⟨n, env, η⟩) ha
   split
   ·rename_i o h off
    split
    ·rename_i v hv
     obtain ⟨di, k, d⟩ := v
     obtain ⟨hb, hlt, ⟨s, he⟩, hj⟩ := U5 hv
     refine aC.when fun h0 => ?_
     simp only [Bool.and_eq_true] at h0
     obtain rfl := Nat.eq_of_beq_eq_true h0.1
     obtain rfl := Nat.eq_of_beq_eq_true h0.2
     intro y hy
     have hid := Ra hy
     have hdl := LS hy
     obtain ⟨q1, q2, _, _⟩ := jB hid
     refine aM.rd' hw (fun e' he' => ?_) fun η => ?_
     ·rw [List.mem_singleton.1 he']; exact ⟨k, d, s, y, he, hid, rfl⟩
     ·have h1 := hx η
      rw [lQ (c := ⟨n, env, η⟩) hb] at h1
      have h2 := Lw (E := E) (N := N) (Ω := bL ⟨n, env, η⟩ O) (ty := ty) (show 0 ≤ ix.2 ∧ ix.2 < (len : Int) by omega) hu (gi hsz) h1 (hi η)
      simp only [Sh.rp, wS, cond_false, List.map_cons, List.headD_cons, At.rp, keyed, bM, if_true]
      rw [bV hb (show n ≤ n + [(⟨.int k, y, some (.ve di ix.2)⟩ : bX)].length from by omega)]
      rw [Nat.mul_one] at h2
      exact h2
    split
    ·rename_i v hv
     obtain ⟨di, k, d⟩ := v
     obtain ⟨hb, hlt, ⟨s, he⟩, lc, hvar, hrun, hj⟩ := PK hv
     refine aC.when fun h0 => ?_
     obtain rfl := Nat.eq_of_beq_eq_true h0
     intro y hy
     have hid := Ra hy
     have hdl := LS hy
     obtain ⟨q1, q2, _, _⟩ := jB hid
     refine aM.rd' hw (fun e' he' => ?_) fun η => ?_
     ·rw [List.mem_singleton.1 he']; exact ⟨k, d, s, y, he, hid, by omega, rfl⟩
     ·have h1 := hx η
      rw [lQ (c := ⟨n, env, η⟩) hb] at h1
      have h2 := Lw (E := E) (N := N) (Ω := bL ⟨n, env, η⟩ O) (ty := ty) (show 0 ≤ ix.2 ∧ ix.2 < (len : Int) by omega) hu (gi hsz) h1 (hi η)
      simp only [Sh.rp, wS, cond_false, List.map_cons, List.headD_cons, At.rp, keyed, bM, if_true]
      rw [bV hb (show n ≤ n + [(⟨.int k, y, some (.vf di ix.2 off len)⟩ : bX)].length from by omega)]
      rw [Nat.mul_one] at h2
      exact h2
    refine aC.when fun hb => ?_
    cases XH : Vy G i with
    | true =>
     simp only [cond_true]
     split
     ·rename_i hr
      refine aM.same hw fun η => ?_
      have h1 := hx η
      rw [lQ (c := ⟨n, env, η⟩) hb] at h1
      have h2 := Lw (E := E) (N := N) (Ω := bL ⟨n, env, η⟩ O) (ty := ty) hr hu (gi hsz) h1 (hi η)
      show Rd _ _ _ _ _ _ _ _ ((At.ptr o h (off + ix.2.toNat * sz)).rp ⟨n, env, η⟩)
      rw [lQ (c := ⟨n, env, η⟩) hb]
      exact h2
     ·trivial
    | false =>
     simp only [cond_false]
     refine aC.when fun _ => Nu (len := len) (fun j hj hij => ?_) (by omega)
     refine aM.same hw fun η => ?_
     have h1 := hx η
     rw [lQ (c := ⟨n, env, η⟩) hb] at h1
     have h2 := Lw (E := E) (N := N) (Ω := bL ⟨n, env, η⟩ O) (ty := ty) (show 0 ≤ ix.2 ∧ ix.2 < (len : Int) by omega) hu (gi hsz) h1 (hi η)
     show Rd _ _ _ _ _ _ _ _ ((At.ptr o h (off + j * sz)).rp ⟨n, env, η⟩)
     rw [lQ (c := ⟨n, env, η⟩) hb]
     have e : ix.2.toNat = j := by omega
     rw [e] at h2
     exact h2
   ·trivial
  ·trivial
def Ym (i : Nat) : Nat → Nat → List At
 | _, 0 => []
 | j, m + 1 => .pj i j :: Ym i (j + 1) m
theorem PU {i : Nat} : ∀ {m j : Nat}, (Ym i j m).length = m
 | 0, _ => rfl
 | m + 1, j => by simp [Ym, PU]
theorem PV {i : Nat} : ∀ {m j q : Nat}, q < m → (Ym i j m)[q]? = some (.pj i (j + q))
 | 0, _, q, h => by omega
 | m + 1, j, 0, h => rfl
 | m + 1, j, q + 1, h => by
  simp only [Ym, List.getElem?_cons_succ]
  rw [PV (by omega), show j + 1 + q = j + (q + 1) from by omega]
theorem aM.setR (hw : WF n env) {kd : IntKind} {d : List Int} {s : Option Src} {l : List At} {j k off len ds ix : Nat} {u : Int} {X : Type} [Inhabited X] (hk : Nat.blt k n = true) (he : iQ env ds = some ⟨.vec kd, d, s⟩)
  (hrun : ∀ q, q < len → l[off + q]? = some (.pj ds q)) (NK : ix < len) (hid : ix < d.length)
  (h : ∀ η, St P E N op ty (dN ⟨n, env, η⟩ G) (bL ⟨n, env, η⟩ O) [j] (fun _ : X => pv Go.undef) (fun _ => (bL ⟨n, env, η⟩ O).set j (oc (η k).b ((l.map (At.rp ⟨n, env, η⟩)).take (off + ix) ++ [iv kd u] ++ (l.map (At.rp ⟨n, env, η⟩)).drop (off + ix + 1))))) :
  aM P E N op ty n env G O ⟨.undef, [⟨.vec kd, d.set ix u, none⟩], 0, [(j, .oc k (l.take off ++ Ym n 0 len ++ l.drop (off + len)))], []⟩ := by
 have hsrc : ∀ e ∈ [(⟨.vec kd, d.set ix u, none⟩ : bX)], gR env e := fun e he => by rw [List.mem_singleton.1 he]; exact .none rfl
 refine ⟨hsrc, (fun _ h => by cases h), fun η => ?_⟩
 have h := h η
 refine h.to' fun x a w hs => ?_
 have hx := aM.ext hw (r := ⟨.undef, [⟨.vec kd, d.set ix u, none⟩], 0, [(j, .oc k (l.take off ++ Ym n 0 len ++ l.drop (off + len)))], []⟩) hsrc ⟨η, fun _ _ => rfl⟩
 refine ⟨⟨η, fun _ _ => rfl⟩, ?_, rfl⟩
 simp only [dV.O', wU, List.append_nil]
 by_cases hjl : j < O.length
 ·refine BV hx ?_ hs
  obtain ⟨cells, ty', _, hl⟩ := hs.MB (o := oc (η k).b ((l.map (At.rp ⟨n, env, η⟩)).take (off + ix) ++ [iv kd u] ++ (l.map (At.rp ⟨n, env, η⟩)).drop (off + ix + 1))) (List.mem_iff_getElem?.2 ⟨j, by rw [List.getElem?_set_self (by simpa [bL] using hjl)]⟩)
  have hb' := bV hk (show n ≤ n + [(⟨.vec kd, d.set ix u, none⟩ : bX)].length + 0 from by omega)
  simp only [MO.ob, dV.bC, dV.n', dV.env', hb', cond_true]
  congr 1
  have hlen := (List.getElem?_eq_some_iff.1 (hrun (len - 1) (by omega))).1
  have hnew : ∀ q, (l.take off ++ Ym n 0 len ++ l.drop (off + len))[q]? = if q < off then l[q]? else if q < off + len then some (.pj n (q - off)) else l[q]? := fun q => by
   rw [List.append_assoc, List.getElem?_append]
   rw [List.length_take, Nat.min_eq_left (by omega)]
   split
   ·rename_i h1; rw [List.getElem?_take_of_lt h1]
   ·rename_i h1
    rw [List.getElem?_append, PU]
    split
    ·rename_i h2; rw [if_pos (by omega), PV h2, Nat.zero_add]
    ·rename_i h2; rw [if_neg (by omega), List.getElem?_drop]; congr 1; omega
  have hold : ∀ q, ((l.map (At.rp ⟨n, env, η⟩)).take (off + ix) ++ [iv kd u] ++ (l.map (At.rp ⟨n, env, η⟩)).drop (off + ix + 1))[q]? = if q = off + ix then some (iv kd u) else (l[q]?).map (At.rp ⟨n, env, η⟩) := fun q => by
   rw [List.append_assoc, List.getElem?_append, List.length_take, List.length_map, Nat.min_eq_left (by omega)]
   split
   ·rename_i h1; rw [List.getElem?_take_of_lt h1, List.getElem?_map, if_neg (by omega)]
   ·rename_i h1
    rw [List.getElem?_append]
    split
    ·rename_i h2; simp only [List.length_singleton] at h2; rw [if_pos (by omega), show q - (off + ix) = 0 from by omega]; rfl
    ·rename_i h2; simp only [List.length_singleton] at h2 ⊢; rw [if_neg (by omega), List.getElem?_drop, List.getElem?_map]; congr 2; omega
  refine List.ext_getElem? fun q => ?_
  rw [List.getElem?_map, hnew, hold]
  have keep : ∀ b : At, q ≠ off + ix → l[q]? = some b → (l[q]?).map (At.rp ⟨n + [(⟨.vec kd, d.set ix u, none⟩ : bX)].length + 0, keyed n [⟨.vec kd, d.set ix u, none⟩] env, η⟩) = (l[q]?).map (At.rp ⟨n, env, η⟩) := fun b hq hb => by
   rw [hb]
   obtain ⟨v, _, hv⟩ := hl.get (i := q) (φ := At.rp ⟨n, env, η⟩ b) (by rw [hold, if_neg hq, hb]; rfl)
   rw [Option.map_some, Option.map_some]
   exact congrArg some (At.rp_eq hx hv)
  by_cases h1 : q < off
  ·rw [if_pos h1, if_neg (by omega)]
   cases hb : l[q]? with
   | none => rfl
   | some b => rw [← hb]; exact keep b (by omega) hb
  ·rw [if_neg h1]
   by_cases h2 : q < off + len
   ·rw [if_pos h2, Option.map_some]
    have henew : iQ (keyed n [(⟨.vec kd, d.set ix u, none⟩ : bX)] env) n = some ⟨.vec kd, d.set ix u, none⟩ := by simp only [keyed, bM, if_true]
    by_cases h3 : q = off + ix
    ·rw [if_pos h3]
     refine congrArg some (RA henew ?_)
     rw [h3, show off + ix - off = ix from by omega, List.getElem?_set_self hid]
    ·rw [if_neg h3]
     have h4 := hrun (q - off) (by omega)
     rw [show off + (q - off) = q from by omega] at h4
     obtain ⟨v, _, hv⟩ := hl.get (i := q) (φ := At.rp ⟨n, env, η⟩ (.pj ds (q - off))) (by rw [hold, if_neg h3, h4]; rfl)
     rw [h4, Option.map_some]
     cases hd : d[q - off]? with
     | none => simp only [At.rp, he, pjG, hd] at hv; exact hv.elim
     | some y =>
      rw [RA (c := ⟨n, env, η⟩) he hd]
      refine congrArg some (RA henew ?_)
      rw [List.getElem?_set_ne (by omega), hd]
   ·rw [if_neg h2, if_neg (by omega)]
    cases hb : l[q]? with
    | none => rfl
    | some b => rw [← hb]; exact keep b (by omega) hb
 ·have e : ∀ mo : MO, O.set j mo = O := fun mo => List.set_eq_of_length_le (by omega)
  have e2 : ∀ ob : OB, (bL ⟨n, env, η⟩ O).set j ob = bL ⟨n, env, η⟩ O := fun ob => List.set_eq_of_length_le (by simp [bL]; omega)
  rw [e, e2]
  rw [e2] at hs
  exact H6 hx hs
def putD (P : Program) [bl P] (k : Nat) (d : xw.den k) (fo : Nat) (Ds : List cm) : Option (xw.den k) :=
 bl.join (P := P) k ((bl.split (P := P) k d).take fo ++ Ds ++ (bl.split (P := P) k d).drop (fo + Ds.length))
def YO (P : Program) [bl P] (n : Nat) (env : List (Nat × bX)) (G : List (Nat × Sh)) (O : List MO) (t : TypeId) (x y : Operand) : Ask dV :=
 Ask.of (Cv P t) fun k => Ask.of (CA G x) fun a => match a with
  | .ptr o h off => Ask.of (LU n O o h) fun l => Ask.of (opC G y) fun cs => Ask.when (Nat.beq cs.length k && Nat.ble (off + k) l.length)
    (.ret ⟨.undef, [], 0, [(o, .oc h (l.take off ++ cs ++ l.drop (off + k)))], []⟩)
  | .Mx o h z => match vecE n env O o h z with
   | some v => Ask.when (Nat.beq k 1) (Ask.of (opT P env G (.int v.1) y) fun u => .ret ⟨.undef, [⟨.vec v.1, List.set v.2.2.2 v.2.2.1.toNat u, none⟩], 0, [(o, .oa h n)], []⟩)
   | none => match runE n env O o h z with
   | some v => Ask.when (Nat.beq k 1) (Ask.of (opT P env G (.int v.1) y) fun u => Ask.of (LU n O o h) fun l =>
    .ret ⟨.undef, [⟨.vec v.1, List.set v.2.2.2.2.2 v.2.2.1.toNat u, none⟩], 0, [(o, .oc h (l.take v.2.2.2.1 ++ Ym n 0 v.2.2.2.2.1 ++ l.drop (v.2.2.2.1 + v.2.2.2.2.1)))], []⟩)
   | none => Ask.of (TK n env O o h z) fun q => Ask.of (XR P t) fun c => if c.1 = q.1.t ∧ q.2.2.1 = q.1.t then
    Ask.of (opT P env G q.2.2.1 y) fun u => .ret ⟨.undef, [⟨.sl q.2.2.1, q.2.2.2.set q.2.1.toNat u, none⟩], 0, [(o, .oa h n)], []⟩ else .fail
  | .Yn o h z => Ask.of (iQ env z) fun ez => match ez.src with
   | some (.fl ye fo) => Ask.of (TK n env O o h ye) fun q => Ask.of (opC G y) fun cs => match q with
    | ⟨⟨.st k', d, s⟩, ix, ⟨.st k2, l⟩⟩ => if hk : k2 = k' then
     Ask.of (atsD env (((bl.split (P := P) k' d).drop fo).map (·.t) |>.take cs.length) cs) fun Ds => Ask.when (Nat.beq Ds.length k && Nat.ble (fo + Ds.length) (qc.rep k').size)
      (Ask.of (putD P k' d fo Ds) fun u => .ret ⟨.undef, [⟨.sl (.st k2), l.set ix.toNat (hk ▸ u), none⟩], 0, [(o, .oa h n)], []⟩) else .fail
    | _ => .fail
   | _ => .fail
  | _ => .fail
theorem WH (hw : WF n env) {t : TypeId} {x y : Operand} : aC (aM P E N (.store t x y) ty n env G O) (YO P n env G O t x y) :=
  aC.of fun k hk => aC.of fun a ha => by
    have hx := fun η => fB (c := ⟨n, env, η⟩) ha
    split
    · rename_i o h off
      refine aC.of fun l hl => aC.of fun cs hcs => aC.when fun hb => ?_
      obtain ⟨uX, hlt, hj⟩ := EK (env := env) hl
      simp only [Bool.and_eq_true] at hb
      refine aM.setC hw (X := Unit) hlt uX fun η => ?_
      have h1 := hx η
      rw [lQ (c := ⟨n, env, η⟩) uX] at h1
      exact gm (E := E) (N := N) (ty := ty) (gi hk) h1 (hj η) (DV hcs) (by simpa using hb.1) (by simpa using hb.2) (by simp)
    · rename_i o h z
      split
      · rename_i v hv
        obtain ⟨ki, zz, ix, d⟩ := v
        obtain ⟨⟨ds, he⟩, hi, uX, hlt, hj⟩ := U4 hw hv
        refine aC.when fun hk1 => aC.of fun u hu => ?_
        obtain rfl := Nat.eq_of_beq_eq_true hk1
        refine aM.setV hw (X := Unit) uX fun η => ?_
        have h1 := hx η
        simp only [At.rp, he, uX, cond_true] at h1
        exact Y7 (E := E) (N := N) (ty := ty) hi (gi hk) h1 (hj η) (HZ hu)
      split
      · rename_i v hv
        obtain ⟨ki, zz, ix, off, len, d⟩ := v
        obtain ⟨ds, he, hi, NK, uX, hlt, ⟨s, hs⟩, l, hvar, hrun, hj⟩ := Vj hw hv
        refine aC.when fun hk1 => aC.of fun u hu => aC.of fun l' hl' => ?_
        obtain rfl : l = l' := by rw [hvar] at hl'; exact Option.some.inj hl'
        obtain rfl := Nat.eq_of_beq_eq_true hk1
        obtain ⟨h0, hd⟩ := VQ hi
        have hil2 : ix.toNat < len := by have h3 : ix < (len : Int) := NK; have h4 : 0 ≤ ix := h0; omega
        refine aM.setR hw (X := Unit) (ix := ix.toNat) uX hs hrun hil2 (List.getElem?_eq_some_iff.1 hd).1 fun η => ?_
        have h1 := hx η
        simp only [At.rp, he, uX, cond_true] at h1
        refine gm (E := E) (N := N) (ty := ty) (gi hk) h1 (hj η) (HZ hu) rfl ?_ rfl
        have h2 := (List.getElem?_eq_some_iff.1 (hrun ix.toNat (by omega))).1
        exact Nat.ble_eq_true_of_le (by rw [List.length_map]; omega)
      refine aC.of fun q hq => aC.of fun c hc => ?_
      split
      · rename_i hct
        refine aC.of fun u hu => ?_
        obtain ⟨e, ix, pl⟩ := q
        obtain ⟨he, ⟨ds, hsrc⟩, l, rfl, hi, uX, hlt, hj⟩ := HX hw hq
        obtain ⟨c1, c2⟩ := c
        simp only at hct
        obtain ⟨rfl, _⟩ := hct
        refine aM.setD hw (X := Unit) uX fun η => ?_
        have h1 := hx η
        obtain ⟨t', d', s'⟩ := e
        simp only at hsrc
        subst hsrc
        simp only [At.rp, he, uX, cond_true] at h1
        exact Y8 (E := E) (N := N) (ty := ty) hi (lg hc) h1 (hj η) (HZ hu)
      · trivial
    · rename_i o h z
      refine aC.of fun ez hez => ?_
      split
      · rename_i ye fo hsz
        refine aC.of fun q hq => aC.of fun cs hcs => ?_
        split
        · rename_i k' d s ix k2 l
          split
          · rename_i hkk
            subst hkk
            refine aC.of fun Ds hDs => aC.when fun hb => aC.of fun u hu => ?_
            obtain ⟨he, ⟨ds, hsrc⟩, l', hl', hi, uX, hlt, hj⟩ := HX hw hq
            cases hl'
            simp only [Bool.and_eq_true] at hb
            have hDl : Ds.length = k := Nat.eq_of_beq_eq_true hb.1
            refine aM.setD hw (X := Unit) uX fun η => ?_
            have h1 := hx η
            obtain ⟨tz, dz, sz⟩ := ez
            simp only at hsz hsrc
            subst hsz; subst hsrc
            simp only [At.rp, hez, he, uX, cond_true] at h1
            have hsp : (qc.rep k2).cp d = (bl.split (P := P) k2 d).map cm.rp := bl.HG k2 d
            have hju : (qc.rep k2).cp u = ((bl.split (P := P) k2 d).take fo ++ Ds ++ (bl.split (P := P) k2 d).drop (fo + Ds.length)).map cm.rp := bl.Qn k2 _ u hu
            exact WR (E := E) (N := N) (ty := ty) (ρ := (Ty.st k2).rep) (u := u) (bY := Ds.map cm.rp) hi (by rw [List.length_map, hDl]; exact gi hk) h1 (hj η)
              ((DV hcs).imp (Nr (c := ⟨n, env, η⟩) hDs))
              (by show (qc.rep k2).cp u = List.take fo ((qc.rep k2).cp d) ++ _ ++ List.drop _ ((qc.rep k2).cp d)
                  rw [hju, hsp]; simp [List.map_take, List.map_drop])
              (by rw [List.length_map]; exact hb.2)
          · trivial
        · trivial
      · trivial
    · trivial
end Go.Dc
namespace Go.Dc
variable [qc]
def Ti (k : IntKind) : At → Bool
 | .ci k' x => k' == k && x == 0
 | _ => false
theorem Po {k : IntKind} {c : Cx} : ∀ {l : List At}, l.all (Ti k) = true → l.map (At.rp c) = (List.replicate l.length (0 : Int)).map (iv k)
 | [], _ => rfl
 | a :: l, h => by
  simp only [List.all_cons, Bool.and_eq_true] at h
  rw [List.map_cons, Po h.2, List.length_cons, List.replicate_succ, List.map_cons]
  congr 1
  have h1 := h.1
  unfold Ti at h1
  split at h1
  ·rename_i k' x
   simp only [Bool.and_eq_true] at h1
   obtain rfl := eq_of_beq h1.1
   have := h1.2
   obtain rfl : x = 0 := by simpa using this
   rfl
  ·cases h1
def oS (k : IntKind) : List At → Nat
 | a :: l => bif Ti k a then oS k l + 1 else 0
 | [] => 0
theorem LO {k : IntKind} : ∀ {l : List At}, oS k l ≤ l.length
 | [] => Nat.le_refl _
 | a :: l => by
  simp only [oS]
  cases Ti k a with
  | true => simp only [cond_true, List.length_cons]; have := LO (k := k) (l := l); omega
  | false => simp
theorem Kt {k : IntKind} : ∀ {l : List At}, (l.take (oS k l)).all (Ti k) = true
 | [] => rfl
 | a :: l => by
  simp only [oS]
  cases h : Ti k a with
  | true => simp only [cond_true, List.take_succ_cons, List.all_cons, h, Bool.true_and]; exact Kt
  | false => rfl
def iF (n : Nat) : Nat → List At → List At × List bX
 | 0, l => (l, [])
 | _, [] => ([], [])
 | f + 1, .ci k x :: l => bif Nat.blt 8 (oS k (.ci k x :: l))
   then (Ym n 0 (oS k (.ci k x :: l)) ++ (iF (n + 1) f ((At.ci k x :: l).drop (oS k (.ci k x :: l)))).1, ⟨.vec k, List.replicate (oS k (.ci k x :: l)) (0 : Int), none⟩ :: (iF (n + 1) f ((At.ci k x :: l).drop (oS k (.ci k x :: l)))).2)
   else (.ci k x :: (iF n f l).1, (iF n f l).2)
 | f + 1, a :: l => (a :: (iF n f l).1, (iF n f l).2)
theorem pj_rpS {c : Cx} {i j : Nat} {k : IntKind} {d : List Int} {s : Option Src} {x : Int} (he : iQ c.env i = some ⟨.vec k, d, s⟩) (hx : d[j]? = some x) : (At.pj i j).rp c = iv k x := by
 simp only [At.rp, he, pjG, hx]
theorem pjs_rp {c : Cx} {i : Nat} {k : IntKind} {d : List Int} {s : Option Src} (he : iQ c.env i = some ⟨.vec k, d, s⟩) : (Ym i 0 d.length).map (At.rp c) = d.map (iv k) := by
 refine List.ext_getElem? fun q => ?_
 rw [List.getElem?_map, List.getElem?_map]
 by_cases hq : q < d.length
 ·rw [PV hq, Nat.zero_add, List.getElem?_eq_getElem hq, Option.map_some, Option.map_some, pj_rpS he (List.getElem?_eq_getElem hq)]
 ·rw [List.getElem?_eq_none (by rw [PU]; omega), List.getElem?_eq_none (by omega)]; rfl
theorem Mq {c c' : Cx} (hx : Ext c c') {F : FP} {w : World} : ∀ {f n : Nat} {l : List At} {vs : List Value}, (∀ i e, (iF n f l).2[i]? = some e → iQ c'.env (n + i) = some e) → bZ F w (l.map (At.rp c)) vs → ((iF n f l).1).map (At.rp c') = l.map (At.rp c)
 | 0, n, l, vs, _, h => Ns hx h
 | f + 1, n, [], vs, _, h => rfl
 | f + 1, n, a :: l, v :: vs, hE, ⟨h1, h2⟩ => by
  have plain : (iF n (f + 1) (a :: l)) = (a :: (iF n f l).1, (iF n f l).2) → ((iF n (f + 1) (a :: l)).1).map (At.rp c') = (a :: l).map (At.rp c) := fun e => by
   rw [e] at hE ⊢
   rw [List.map_cons, List.map_cons, At.rp_eq hx h1, Mq hx (fun i e' he' => hE i e' he') h2]
  cases a with
  | ci k x =>
   cases hb : Nat.blt 8 (oS k (.ci k x :: l)) with
   | false => exact plain (by simp only [iF, hb, cond_false])
   | true =>
    simp only [iF, hb, cond_true] at hE ⊢
    generalize hm : oS k (.ci k x :: l) = m at hE ⊢
    have hall : bZ F w (((At.ci k x :: l).map (At.rp c)).drop m) ((v :: vs).drop m) := bZ.drop m ⟨h1, h2⟩
    rw [← List.map_drop] at hall
    have he0 := hE 0 _ rfl
    rw [Nat.add_zero] at he0
    have hz : ((At.ci k x :: l).take m).map (At.rp c) = (List.replicate m (0 : Int)).map (iv k) := by
     have e1 := Po (k := k) (c := c) (l := (At.ci k x :: l).take m) (by rw [← hm]; exact Kt)
     rw [e1, List.length_take, Nat.min_eq_left (by rw [← hm]; exact LO)]
    have hp : (Ym n 0 m).map (At.rp c') = (List.replicate m (0 : Int)).map (iv k) := by
     have := pjs_rp (c := c') he0
     rwa [List.length_replicate] at this
    rw [List.map_append, hp, ← hz, Mq hx (fun i e' he' => by have := hE (i + 1) e' he'; rwa [show n + (i + 1) = n + 1 + i from by omega] at this) hall, ← List.map_append, List.take_append_drop]
  | _ => exact plain rfl
 | f + 1, n, _ :: _, [], _, h => h.elim
theorem Jw : ∀ {f n : Nat} {l : List At}, VA (iF n f l).2
 | 0, _, _ => fun e he => by simp [iF] at he
 | f + 1, n, [] => fun e he => by simp [iF] at he
 | f + 1, n, a :: l => by
  have plain : (iF n (f + 1) (a :: l)) = (a :: (iF n f l).1, (iF n f l).2) → VA (iF n (f + 1) (a :: l)).2 := fun e => by rw [e]; exact Jw
  cases a with
  | ci k x =>
   cases hb : Nat.blt 8 (oS k (.ci k x :: l)) with
   | false => exact plain (by simp only [iF, hb, cond_false])
   | true =>
    simp only [iF, hb, cond_true]
    intro e he
    rcases List.mem_cons.1 he with h | h
    ·rw [h]
    ·exact Jw e h
  | _ => exact plain rfl
end Go.Dc
namespace Go.Dc
variable [aq] {R : Type} {P : Program} [bl P] {E : Env} {N : Nat} {K : KT R} {m : Option R} {op : Op} {ty : TypeId} {n : Nat} {env : List (Nat × bX)} {G : List (Nat × Sh)} {O : List MO}
def zAt : Value → Option At
 | .int k n => some (.ci k n)
 | .bool b => some (.cb b)
 | .string s => some (.ck s)
 | .slice none 0 0 => some .nl
 | .pointer none => some .nF
 | .nilFunc => some .H8
 | .map none => some .junk
 | _ => none
theorem zAt_rp {v : Value} {a : At} (h : zAt v = some a) {c : Cx} {F : FP} {w : World} : (a.rp c).h F w v := by
 unfold zAt at h
 split at h <;> first | (cases h; rfl) | cases h
def zAts : List Value → Option (List At)
 | [] => some []
 | v :: vs => (zAt v).bind fun a => (zAts vs).map (a :: ·)
theorem U1 {c : Cx} {F : FP} {w : World} : ∀ {vs : List Value} {l : List At}, zAts vs = some l → bZ F w (l.map (At.rp c)) vs
 | [], _, h => by cases h; trivial
 | v :: vs, l, h => by
  simp only [zAts] at h
  obtain ⟨a, h1, h2⟩ := Option.bind_eq_some_iff.1 h
  obtain ⟨l', h3, rfl⟩ := Option.map_eq_some_iff.1 h2
  exact ⟨zAt_rp h1, U1 h3⟩
def LN (P : Program) (t : TypeId) : Option (List At) := (P.info? t).bind fun i => i.zero.bind fun z => zAts z.cells.toList
theorem Hu {t : TypeId} {l : List At} (h : LN P t = some l) : ∃ i z, P.info? t = some i ∧ i.zero = some z ∧ ∀ c F w, bZ F w (l.map (At.rp c)) z.cells.toList := by
 obtain ⟨i, hi, h⟩ := Option.bind_eq_some_iff.1 h
 obtain ⟨z, hz, h⟩ := Option.bind_eq_some_iff.1 h
 exact ⟨i, z, hi, hz, fun c F w => U1 h⟩
def vecT (P : Program) (t : TypeId) : Option IntKind := match P.underlying t with
 | some (.array len e) => bif Nat.blt 8 len then (match P.underlying e with
  | some (.int k) => some k
  | _ => none) else none
 | _ => none
theorem aM.newP (hw : WF n env) {l : List At} (h : ∀ η, St P E N op ty (dN ⟨n, env, η⟩ G) (bL ⟨n, env, η⟩ O) [] (fun b : Nat => pv (ptr b 0)) (fun b => bL ⟨n, env, η⟩ O ++ [oc b (l.map (At.rp ⟨n, env, η⟩))])) :
  aM P E N op ty n env G O ⟨.vl false [.ptr O.length (n + (iF n l.length l).2.length) 0], (iF n l.length l).2, 1, [], [.oc (n + (iF n l.length l).2.length) (iF n l.length l).1]⟩ := by
 have hsrc : ∀ e ∈ (iF n l.length l).2, gR env e := Jw.ok
 refine ⟨hsrc, (fun _ _ h => by cases h), fun η => ?_⟩
 have h := h η
 generalize uW : (iF n l.length l).2 = es at hsrc ⊢
 generalize hls : (iF n l.length l).1 = ls
 refine h.to' fun b a w hs => ?_
 have hx := aM.ext hw (r := ⟨.vl false [.ptr O.length (n + es.length) 0], es, 1, [], [.oc (n + es.length) ls]⟩) hsrc ⟨Fb η (n + es.length) ⟨.bool true, [], b, rfl⟩, fun k hk => qx (by omega)⟩
 refine ⟨⟨Fb η (n + es.length) ⟨.bool true, [], b, rfl⟩, fun k hk => qx (by omega)⟩, ?_, ?_⟩
 ·simp only [dV.O', wU]
  refine H7 hx ?_ hs
  obtain ⟨cells, ty', _, hl⟩ := hs.MB (o := oc b (l.map (At.rp ⟨n, env, η⟩))) (by simp)
  have h1 := Mq (n := n) (f := l.length) hx (fun i e he => by rw [uW] at he; exact EV he) hl
  rw [hls] at h1
  simp only [MO.ob]
  rw [h1]
  simp only [dV.bC, dV.n', qy]
  rw [show Nat.blt (n + es.length) (n + es.length + 1) = true from by simp [Nat.blt_eq]]
  rfl
 ·simp only [Sh.rp, wS, cond_false, List.map_cons, List.headD_cons, At.rp, dV.bC, dV.n', qy]
  rw [show Nat.blt (n + es.length) (n + es.length + 1) = true from by simp [Nat.blt_eq]]
  rfl
def newC (n : Nat) (O : List MO) (l : List At) : dV := ⟨.vl false [.ptr O.length (n + (iF n l.length l).2.length) 0], (iF n l.length l).2, 1, [], [.oc (n + (iF n l.length l).2.length) (iF n l.length l).1]⟩
def allocE (P : Program) (own : Bool) (n : Nat) (O : List MO) (t : TypeId) : Ask dV := Ask.of (LN P t) fun l => match (bif own then none else vecT P t) with
 | some k => Ask.when (l.all (Ti k)) (.ret ⟨.vl false [.ptr O.length (n + 1) 0], [⟨.vec k, List.replicate l.length (0 : Int), none⟩], 1, [], [.oa (n + 1) n]⟩)
 | none => .ret (newC n O l)
theorem X7 (hw : WF n env) {own : Bool} {t : TypeId} : aC (aM P E N (.alloc t) ty n env G O) (allocE P own n O t) :=
 aC.of fun l hl => by
  obtain ⟨i, z, hi, hz, h⟩ := Hu hl
  split
  ·rename_i k hk
   refine aC.when fun hz0 => aM.newV hw fun η => ?_
   rw [← Po (c := ⟨n, env, η⟩) hz0]
   exact uS ⟨i, z, hi, hz, fun F w => h _ F w⟩
  ·exact aM.newP hw fun η => uS ⟨i, z, hi, hz, fun F w => h _ F w⟩
def boxE (n : Nat) (G : List (Nat × Sh)) (O : List MO) (x : Operand) : Ask dV := Ask.of (opC G x) fun l => .ret (newC n O l)
theorem boxE_ok (hw : WF n env) {t : TypeId} {x : Operand} : aC (aM P E N (.box t x) ty n env G O) (boxE n G O x) :=
 aC.of fun l hl => aM.newP hw fun η => (L9 (DV hl))
def Lz (P : Program) (fs : List Go.Field) : Option (List (Nat × Nat)) := match fs with
 | [] => some []
 | f :: fs => (Cv P f.type).bind fun k => (Lz P fs).map ((f.offset, k) :: ·)
theorem Mm : ∀ {fs : List Go.Field} {l : List (Nat × Nat)}, Lz P fs = some l → ∀ w, (fs.mapM (fun (f : Go.Field) => do pure (f.offset, ← Go.sizeOf f.type)) : Sem (List (Nat × Nat))).run P w = .ok l w
 | [], _, h, w => by cases h; rfl
 | f :: fs, l, h, w => by
  simp only [Lz] at h
  obtain ⟨k, h1, h2⟩ := Option.bind_eq_some_iff.1 h
  obtain ⟨l', h3, rfl⟩ := Option.map_eq_some_iff.1 h2
  have h4 := Mm h3 w
  rw [List.mapM_cons]
  simp [gi h1] at h4 ⊢
  rw [h4]; rfl
def Sf (places : List (Nat × Nat)) (l : List At) : List (Nat × List At) → Option (List At)
 | [] => some l
 | (i, cs) :: r => match places[i]? with
  | some (off, size) => bif Nat.beq cs.length size && Nat.ble (off + size) l.length then Sf places (l.take off ++ cs ++ l.drop (off + size)) r else none
  | none => none
theorem Na {f : At → RP} {places : List (Nat × Nat)} : ∀ {rs : List (Nat × List At)} {l out : List At}, Sf places l rs = some out →
  CI (fun i => places[i]?) l.length (rs.map fun p => (p.1, p.2.map f)) = true ∧ zY (fun i => places[i]?) (l.map f) (rs.map fun p => (p.1, p.2.map f)) = out.map f
 | [], l, out, h => by cases h; exact ⟨rfl, rfl⟩
 | (i, cs) :: r, l, out, h => by
  simp only [Sf] at h
  split at h
  ·rename_i off size hp
   cases hb : Nat.beq cs.length size && Nat.ble (off + size) l.length with
   | false => rw [hb] at h; cases h
   | true =>
    rw [hb] at h
    obtain ⟨h1, h2⟩ := Na (f := f) h
    simp only [Bool.and_eq_true] at hb
    have hs := Nat.eq_of_beq_eq_true hb.1
    have hle : off + size ≤ l.length := Nat.le_of_ble_eq_true hb.2
    have hlen : (l.take off ++ cs ++ l.drop (off + size)).length = l.length := by simp; omega
    rw [hlen] at h1
    refine ⟨?_, ?_⟩
    ·simp only [List.map_cons, CI, hp, List.length_map]
     rw [hb.1, hb.2, h1]; rfl
    ·simp only [List.map_cons, zY, hp]
     rw [← h2]; simp [List.map_take, List.map_drop]
  ·cases h
def Mp (G : List (Nat × Sh)) : List (Nat × Operand) → Option (List (Nat × List At))
 | [] => some []
 | (i, x) :: r => (opC G x).bind fun l => (Mp G r).map ((i, l) :: ·)
theorem Jv {c : Cx} {Ω : List OB} : ∀ {ps : List (Nat × Operand)} {rs : List (Nat × List At)}, Mp G ps = some rs → E9 E N (dN c G) Ω ps (rs.map fun p => (p.1, p.2.map (At.rp c)))
 | [], _, h => by cases h; trivial
 | (i, x) :: r, rs, h => by
  simp only [Mp] at h
  obtain ⟨l, h1, h2⟩ := Option.bind_eq_some_iff.1 h
  obtain ⟨rs', h3, rfl⟩ := Option.map_eq_some_iff.1 h2
  exact ⟨rfl, DV h1, Jv h3⟩
def UK (P : Program) (G : List (Nat × Sh)) (t : TypeId) (ps : List (Nat × Operand)) : Ask dV := match P.underlying t with
 | some (.struct fs) => Ask.of (LN P t) fun zs => Ask.of (Lz P fs.toList) fun pl => Ask.of (Mp G ps) fun rs => Ask.of (Sf pl zs rs) fun out => .ret (yX (.vl true out))
 | _ => .fail
theorem X1 (hw : WF n env) {t : TypeId} {ps : List (Nat × Operand)} : aC (aM P E N (.build t ps.toArray) ty n env G O) (UK P G t ps) := by
 unfold UK
 split
 ·rename_i fs hu
  refine aC.of fun zs hz => aC.of fun pl hpl => aC.of fun rs hrs => aC.of fun out hout => aM.same hw fun η => ?_
  obtain ⟨i, z, hi, R4, hall⟩ := Hu hz
  have hzl : z.cells.size = zs.length := by
   have := (hall ⟨0, [], fun _ => ⟨.bool true, [], 0, rfl⟩⟩ (fun _ => True) default).length
   simpa using this
  obtain ⟨h1, h2⟩ := Na (f := At.rp ⟨n, env, η⟩) hout
  refine zf (E := E) (N := N) (Ω := bL ⟨n, env, η⟩ O) (ty := ty) (n := zs.length) (places := pl) (zs := zs.map (At.rp ⟨n, env, η⟩)) (rs := rs.map fun p => (p.1, p.2.map (At.rp ⟨n, env, η⟩))) ⟨fs, hu, ⟨i, z, hi, R4, hzl⟩, fun w => ?_⟩ (fun i' z' hi' hz'' F w => ?_) (Jv hrs) (by rw [List.length_map]; exact h1) ?_
  ·have := Mm hpl w
   rw [Array.mapM_eq_mapM_toList]
   simp at this ⊢
   rw [this]; rfl
  ·rw [hi] at hi'; cases hi'; rw [R4] at hz''; cases hz''; exact hall _ F w
  ·rw [h2]
 ·trivial
end Go.Dc
namespace Go.Dc
variable [aq] {R : Type} {P : Program} [bl P] {E : Env} {N : Nat} {K : KT R} {m : Option R} {op : Op} {ty : TypeId} {n : Nat} {env : List (Nat × bX)} {G : List (Nat × Sh)} {O : List MO}
def Qp : Nat → List (Nat × Operand) → Bool
 | _, [] => true
 | k, (i, _) :: r => Nat.beq i k && Qp (k + 1) r
theorem OU : ∀ {k : Nat} {l : List (Nat × Operand)}, Qp k l = true → l = Er k (l.map (·.2))
 | _, [], _ => rfl
 | k, (i, x) :: r, h => by
  simp only [Qp, Bool.and_eq_true] at h
  obtain rfl := Nat.eq_of_beq_eq_true h.1
  simp only [List.map_cons, Er]
  rw [← OU h.2]
def opTs (P : Program) [bl P] (env : List (Nat × bX)) (G : List (Nat × Sh)) (c : Ty) : List Operand → Option (List c.den)
 | [] => some []
 | x :: xs => (opT P env G c x).bind fun d => (opTs P env G c xs).map (d :: ·)
theorem P0 {η : Nat → Hd} {Ω : List OB} {c : Ty} : ∀ {xs : List Operand} {ds : List c.den}, opTs P env G c xs = some ds → xx E N (dN ⟨n, env, η⟩ G) Ω c.rep xs ds
 | [], _, h => by cases h; trivial
 | x :: xs, ds, h => by
  simp only [opTs] at h
  obtain ⟨d, h1, h2⟩ := Option.bind_eq_some_iff.1 h
  obtain ⟨ds', h3, rfl⟩ := Option.map_eq_some_iff.1 h2
  exact ⟨HZ h1, P0 h3⟩
def QB (P : Program) [bl P] (n : Nat) (env : List (Nat × bX)) (G : List (Nat × Sh)) (O : List MO) (own : Bool) (t : TypeId) (k : Nat) (ps : List (Nat × Operand)) : Ask dV := match P.underlying t with
 | some (.slice e) => Ask.of (XR P e) fun c => Ask.when (Qp 0 ps) (Ask.of (opTs P env G c.1 (ps.map (·.2))) fun ds =>
   Ask.when (Nat.beq k ds.length && Nat.ble (ds.length * c.1.rep.size) 16777216)
    (bif own then .ret ⟨.vl false [.own O.length (n + 1)], [⟨.sl c.1, ds, none⟩], 1, [], [.oa (n + 1) n]⟩ else .ret (iB n (.sl c.1) ds)))
 | _ => .fail
theorem UL (hw : WF n env) {own : Bool} {t : TypeId} {k : Nat} {ps : List (Nat × Operand)} : aC (aM P E N (.buildSlice t k ps.toArray) ty n env G O) (QB P n env G O own t k ps) := by
 unfold QB
 split
 ·rename_i e hu
  refine aC.of fun c hc => aC.when fun hen => aC.of fun ds hds => aC.when fun hb => ?_
  simp only [Bool.and_eq_true] at hb
  have h1 := Nat.eq_of_beq_eq_true hb.1
  have h2 := Nat.le_of_ble_eq_true hb.2
  rw [OU hen]
  cases own with
  | true => exact aM.newA hw fun η => (Jn hu (lg hc) h1 h2 (P0 hds))
  | false => exact aM.newD hw rfl (t := .sl c.1) rfl fun η => (Rl hu (lg hc) h1 h2 (P0 hds))
 ·trivial
def sameAt : At → At → Bool
 | .vr i, .vr j => Nat.beq i j
 | .ci k a, .ci k' b => decide (k = k') && decide (a = b)
 | _, _ => false
theorem WQ {a b : At} (h : sameAt a b = true) : a = b := by
 unfold sameAt at h
 split at h
 ·rw [Nat.eq_of_beq_eq_true h]
 ·simp only [Bool.and_eq_true, decide_eq_true_eq] at h; rw [h.1, h.2]
 ·cases h
def aac (P : Program) [bl P] (n : Nat) (env : List (Nat × bX)) (G : List (Nat × Sh)) (O : List MO) (t : TypeId) (x y : Operand) : Ask dV := match P.underlying t with
 | some (.slice e) => Ask.of (XR P e) fun c => Ask.of (CA G x) fun a => Ask.of (CA G y) fun b => Ask.when (sameAt a b) (Ask.of (P3 env G x) fun l =>
   Ask.of ((LN P e).bind (UJ P env c.1)) fun z => .bind (uB c.2 z l.2) fun d => .ret ⟨.vl false [.own O.length (n + 1)], [⟨.sl c.1, d, none⟩], 1, [], [.oa (n + 1) n]⟩)
 | _ => .fail
theorem Q7 {e : TypeId} {c : Ty} {z : c.den} (h : (LN P e).bind (UJ P env c) = some z) : ZeroT P e c.rep z := by
 obtain ⟨l, h1, h2⟩ := Option.bind_eq_some_iff.1 h
 obtain ⟨i, zv, hi, hz, hall⟩ := Hu h1
 exact ⟨i, zv, hi, hz, fun F w => (Nl (c := ⟨0, env, fun _ => ⟨.bool true, [], 0, rfl⟩⟩) h2).all (hall _ F w)⟩
theorem Z_ (hw : WF n env) {t : TypeId} {x y : Operand} : aC (aM P E N (.makeSlice t x y) ty n env G O) (aac P n env G O t x y) := by
 unfold aac
 split
 ·rename_i e hu
  refine aC.of fun c hc => aC.of fun a ha => aC.of fun b hb => aC.when fun hab => aC.of fun l hl => aC.of fun z hz => fun d hd => ?_
  have hs := WQ hab
  subst hs
  have hy : ∀ η, dw (dN ⟨n, env, η⟩ G) y = some (iv l.1 l.2) := fun η => by rw [fB hb, ← fB (c := ⟨n, env, η⟩) ha]; exact mB hl
  exact aM.newA hw fun η => (s_make hd hu (lg hc) (Q7 hz) (mB hl) (hy η))
 ·trivial
def bdE (env : List (Nat × bX)) (G : List (Nat × Sh)) (d : Int) : Option Operand → Option Int
 | none => some d
 | some x => (P3 env G x).map (·.2)
theorem ED {η : Nat → Hd} {d i : Int} {x : Option Operand} (h : bdE env G d x = some i) : Kr (dN ⟨n, env, η⟩ G) d x i := by
 cases x with
 | none => cases h; exact .dft
 | some x =>
  simp only [bdE] at h
  obtain ⟨p, h1, rfl⟩ := Option.map_eq_some_iff.1 h
  exact .of (mB h1)
def vsM (len : Nat) (h : Int) : Option Int := if 0 ≤ h ∧ h ≤ (len : Int) then some h else none
theorem Zr {t e : TypeId} {x y : Operand} {Γ : List (Nat × RP)} {Ω : List OB} {b off len sz : Nat} {k : IntKind} {h l : Int} (hl : vsM len h = some l) (h0 : 0 < len) (hu : P.underlying t = some (.array len e)) (hs : ∀ w, (Go.sizeOf e).run P w = .ok sz w)
  (hx : dw Γ x = some (pv (Dc.ptr b off))) (hy : dw Γ y = some (iv k h)) : Rd P E N (.slice t x none (some y) none) ty Γ Ω [] (pv (.slice (some ⟨b, off, none⟩) l.toNat len)) := .mk fun a w hs' => by
 have h1 : a.eval x = Dc.ptr b off := hs'.op hx
 have h2 : a.eval y = .int k h := hs'.op hy
 unfold vsM at hl
 split at hl
 ·rename_i hr
  cases hl
  refine ⟨_, rfl, fun w' o ho _ => ?_⟩
  simp [execOp, ho, h1, h2, Instr.sliceAt, run_underlying hu, Instr.sureAddr, Dc.ptr, Instr.sliceBounds, Instr.sliceBound, asIntOf, hr.1, hr.2, hs, Addr.add]
 ·cases hl
def YZ (P : Program) [bl P] (own : Bool) (n : Nat) (env : List (Nat × bX)) (G : List (Nat × Sh)) (O : List MO) (t : TypeId) (x : Operand) (lo hi : Option Operand) : Ask dV :=
 Ask.of (bdE env G 0 lo) fun l => match P.underlying t with
 | some .string => Ask.of (opS env G x) fun s => Ask.of (bdE env G s.size hi) fun h => .bind (YT s l h) fun r => .ret (iB n .str r)
 | some (.slice e) => Ask.of (XR P e) fun c => Ask.of (CA G x) fun a => match a with
  | .own o h => Ask.of (RC n env O o h) fun q => if c.1 = q.2.1 then Ask.of (bdE env G q.2.2.length hi) fun m => .bind (QV q.2.2 l m) fun d =>
    bif own then .ret ⟨.vl false [.sb o h n (n + 1) q.2.1.rep.size], [⟨.int .i64, l, none⟩, ⟨.int .i64, m, none⟩], 0, [], []⟩ else .ret ⟨.vl false [.own o (n + 1)], [⟨.sl q.2.1, d, none⟩], 1, [(o, .oa (n + 1) n)], []⟩ else .fail
  | .nl => match lo, hi with
   | none, some y => Ask.of (P3 env G y) fun p => if p.2 = 0 ∧ Vy G y = true then .ret (yX (.vl false [.nl])) else .fail
   | _, _ => .fail
  | _ => Ask.of (opL env G x) fun q => if c.1 = q.1 then Ask.of (bdE env G q.2.length hi) fun m => .bind (QV q.2 l m) fun d => .ret (iB n (.sl q.1) d) else .fail
 | some (.array len e) => Ask.of (Cv P e) fun sz => Ask.of (CA G x) fun a => match a, lo, hi with
  | .ptr o h off, none, some y => Ask.when (Nat.blt h n && Nat.blt 0 len) (Ask.of (P3 env G y) fun p => .bind (vsM len p.2) fun l => .ret ⟨.vl false [.vs o h off n len], [⟨.int .i64, l, none⟩], 0, [], []⟩)
  | _, _, _ => .fail
 | _ => .fail
theorem WM (hw : WF n env) {own : Bool} {t : TypeId} {x : Operand} {lo hi : Option Operand} : aC (aM P E N (.slice t x lo hi none) ty n env G O) (YZ P own n env G O t x lo hi) :=
 aC.of fun l hl => by
  split
  ·rename_i hu
   exact aC.of fun s hs => aC.of fun h hh => fun r hr => aM.dat hw rfl fun η => (r_ssub hr hu (Gz hs) (ED hl) (ED hh))
  ·rename_i e hu
   refine aC.of fun c hc => aC.of fun a ha => ?_
   have hx := fun η => fB (c := ⟨n, env, η⟩) ha
   split
   ·rename_i o h
    refine aC.of fun q hq => ?_
    split
    ·rename_i hct
     refine aC.of fun m hm => fun d hd => ?_
     obtain ⟨i0, t', l'⟩ := q
     obtain ⟨c1, c2⟩ := c
     simp only at hct
     subst hct
     obtain ⟨hb, hlt, ⟨s, he⟩, hj⟩ := ES hq
     cases own with
     | true =>
      refine aM.rd' hw (fun e' he' => by
       rcases List.mem_cons.1 he' with rfl | he'
       ·exact .none rfl
       ·rw [List.mem_singleton.1 he']; exact .none rfl) fun η => ?_
      have h1 := hx η
      rw [xT (c := ⟨n, env, η⟩) hb] at h1
      have h2 := r_osub (E := E) (N := N) (Ω := bL ⟨n, env, η⟩ O) (ty := ty) hd hu (lg hc) h1 (hj η) (ED (η := η) hl) (ED (η := η) hm)
      have e0 : iQ (keyed n [(⟨.int .i64, l, none⟩ : bX), ⟨.int .i64, m, none⟩] env) n = some ⟨.int .i64, l, none⟩ := by simp only [keyed, bM, if_true]; rw [if_neg (by omega)]
      have e1 : iQ (keyed n [(⟨.int .i64, l, none⟩ : bX), ⟨.int .i64, m, none⟩] env) (n + 1) = some ⟨.int .i64, m, none⟩ := by simp only [keyed, bM, if_true]
      simp only [Sh.rp, wS, cond_false, List.map_cons, List.headD_cons, At.rp, e0, e1]
      rw [bV hb (show n ≤ n + [(⟨.int .i64, l, none⟩ : bX), ⟨.int .i64, m, none⟩].length from by omega)]
      exact h2
     | false =>
     refine aM.chgA hw (fun η => (Y9 hd hu (lg hc) ?_ (hj η) (ED hl) (ED hm))) hlt
     have h1 := hx η
     rw [xT (c := ⟨n, env, η⟩) hb] at h1
     exact h1
    ·trivial
   ·split
    ·rename_i y
     refine aC.of fun p hp => ?_
     split
     ·rename_i hp0
      refine aM.same hw fun η => (Zm (k := p.1) hu (lg hc) (hx η) ?_)
      rw [mB (k := p.1) (i := p.2) hp, hp0.1]
     ·trivial
    ·trivial
   ·refine aC.of fun q hq => ?_
    split
    ·rename_i hct
     refine aC.of fun m hm => fun d hd => ?_
     obtain ⟨t', l'⟩ := q
     obtain ⟨c1, c2⟩ := c
     simp only at hct
     subst hct
     exact aM.dat hw (t := .sl c1) rfl fun η => (r_slice hd hu (lg hc) (DU hq) (ED hl) (ED hm))
    ·trivial
  ·rename_i len e hu
   refine aC.of fun sz hsz => aC.of fun a ha => ?_
   have hx := fun η => fB (c := ⟨n, env, η⟩) ha
   split
   ·rename_i o h off y
    refine aC.when fun hb => aC.of fun p hp => fun d hd => ?_
    simp only [Bool.and_eq_true] at hb
    obtain ⟨hb, h0⟩ := hb
    refine aM.rd' hw (fun e' he' => by rw [List.mem_singleton.1 he']; exact .none rfl) fun η => ?_
    have h1 := hx η
    rw [lQ (c := ⟨n, env, η⟩) hb] at h1
    have h2 := Zr (E := E) (N := N) (Ω := bL ⟨n, env, η⟩ O) (ty := ty) (k := p.1) hd (by simpa [Nat.blt_eq] using h0) hu (gi hsz) h1 (mB (η := η) hp)
    simp only [Sh.rp, wS, cond_false, List.map_cons, List.headD_cons, At.rp, keyed, bM, if_true]
    rw [bV hb (show n ≤ n + [(⟨.int .i64, d, none⟩ : bX)].length from by omega)]
    exact h2
   ·trivial
  ·trivial
theorem Vn {t e : TypeId} {x : Operand} {Γ : List (Nat × RP)} {Ω : List OB} {ad : Option Addr} {l c : Nat} (hu : P.underlying t = some (.slice e)) (hx : dw Γ x = some (pv (.slice ad l c))) : Rd P E N (.call ⟨.builtin .len, #[x], #[t]⟩) ty Γ Ω [] (iv .i64 (l : Int)) := .mk fun a w hs => by
 have hv : a.eval x = .slice ad l c := hs.op hx
 exact ⟨.int .i64 l, rfl, fun w' o ho _ => by simp [execOp, ho, resolve, invoke, builtin, Builtin.len_, hv, run_underlying hu, goInt]⟩
def lenE (P : Program) [bl P] (n : Nat) (env : List (Nat × bX)) (G : List (Nat × Sh)) (O : List MO) (t : TypeId) (x : Operand) : Ask dV := match P.underlying t with
 | some .string => Ask.of (opS env G x) fun s => .ret (iB n (.int .i64) (s.size : Int))
 | some (.slice e) => Ask.of (CA G x) fun a => match a with
  | .nl => .ret (yX (.vl false [.ci .i64 0]))
  | .own o h => Ask.of (RC n env O o h) fun q => .ret (iB n (.int .i64) (q.2.2.length : Int))
  | .vs o h off i cp => Ask.of ((iQ env i).bind XQ) fun l => Ask.when (Nat.blt h n) (.ret (iB n (.int .i64) (l.toNat : Int)))
  | _ => Ask.of (opL env G x) fun q => .ret (iB n (.int .i64) (q.2.length : Int))
 | _ => .fail
theorem lenE_ok (hw : WF n env) {t : TypeId} {x : Operand} : aC (aM P E N (.call ⟨.builtin .len, #[x], #[t]⟩) ty n env G O) (lenE P n env G O t x) := by
 unfold lenE
 split
 ·rename_i hu
  exact aC.of fun s hs => aM.dat hw rfl fun η => (r_slen hu (Gz hs))
 ·rename_i e hu
  refine aC.of fun a ha => ?_
  have hx := fun η => fB (c := ⟨n, env, η⟩) ha
  split
  ·exact aM.same hw fun η => (r_lenN hu (hx η))
  ·rename_i o h
   refine aC.of fun q hq => ?_
   obtain ⟨i0, t', l'⟩ := q
   obtain ⟨hb, hlt, ⟨s, he⟩, hj⟩ := ES hq
   refine aM.dat hw rfl fun η => (Zn hu ?_ (hj η))
   have h1 := hx η
   rw [xT (c := ⟨n, env, η⟩) hb] at h1
   exact h1
  ·rename_i o h off i cp
   refine aC.of fun l hl => aC.when fun hb => aM.dat hw rfl fun η => ?_
   obtain ⟨ej, hej, hl⟩ := Option.bind_eq_some_iff.1 hl
   obtain ⟨sj, rfl⟩ := LH hl
   have h1 := hx η
   simp only [At.rp, hej, hb, cond_true] at h1
   exact Vn hu h1
  ·exact aC.of fun q hq => aM.dat hw rfl fun η => (DI hu (DU hq))
 ·trivial
def minE (n : Nat) (env : List (Nat × bX)) (G : List (Nat × Sh)) (mx : Bool) (x y : Operand) : Ask dV :=
 Ask.of (P3 env G x) fun u => Ask.of (P3 env G y) fun v => if v.1 = u.1 then .ret (iB n (.int u.1) (bif mx then imax u.2 v.2 else GQ u.2 v.2)) else .fail
theorem minE_ok (hw : WF n env) {x y : Operand} {t1 t2 : TypeId} : aC (aM P E N (.call ⟨.builtin .min, #[x, y], #[t1, t2]⟩) ty n env G O) (minE n env G false x y) :=
 aC.of fun u hu => aC.of fun v hv => by
  split
  ·rename_i h
   obtain ⟨k, i⟩ := u; obtain ⟨k', j⟩ := v
   simp only at h; subst h
   exact aM.dat hw rfl fun η => (r_min (mB hu) (mB hv))
  ·trivial
theorem maxE_ok (hw : WF n env) {x y : Operand} {t1 t2 : TypeId} : aC (aM P E N (.call ⟨.builtin .max, #[x, y], #[t1, t2]⟩) ty n env G O) (minE n env G true x y) :=
 aC.of fun u hu => aC.of fun v hv => by
  split
  ·rename_i h
   obtain ⟨k, i⟩ := u; obtain ⟨k', j⟩ := v
   simp only at h; subst h
   exact aM.dat hw rfl fun η => (r_max (mB hu) (mB hv))
  ·trivial
def aaI (P : Program) [bl P] (n : Nat) (env : List (Nat × bX)) (G : List (Nat × Sh)) (t : TypeId) (x hi mx : Operand) : Ask dV := match P.underlying t with
 | some (.slice e) => Ask.of (XR P e) fun c => Ask.of (opL env G x) fun q => Ask.of (P3 env G hi) fun p => Ask.of (P3 env G mx) fun m => if c.1 = q.1 then
   .cond ((p.2 == (q.2.length : Int)) && (m.2 == (q.2.length : Int))) (.ret ⟨.vl false [.fu n], [⟨.sl q.1, q.2, none⟩], 0, [], []⟩) .fail else .fail
 | _ => .fail
theorem aaH (hw : WF n env) {t : TypeId} {x hi mx : Operand} : aC (aM P E N (.slice t x none (some hi) (some mx)) ty n env G O) (aaI P n env G t x hi mx) := by
 unfold aaI
 split
 ·rename_i e hu
  refine aC.of fun c hc => aC.of fun q hq => aC.of fun p hp => aC.of fun m hm => ?_
  split
  ·rename_i hct
   obtain ⟨t', l⟩ := q
   obtain ⟨c1, c2⟩ := c
   simp only at hct
   subst hct
   refine ⟨fun hb => ?_, fun _ => trivial⟩
   simp only [Bool.and_eq_true, beq_iff_eq] at hb
   obtain ⟨h1, h2⟩ := hb
   refine aM.rd' hw (fun e' he' => by rw [List.mem_singleton.1 he']; exact .none rfl) fun η => ?_
   simp only [Sh.rp, wS, cond_false, List.map_cons, List.headD_cons, At.rp, keyed, bM, if_true]
   exact r_full (k1 := p.1) (k2 := m.1) hu (lg hc) (DU hq) (by rw [← h1]; exact mB hp) (by rw [← h2]; exact mB hm)
  ·trivial
 ·trivial
def appE (P : Program) [bl P] (n : Nat) (env : List (Nat × bX)) (G : List (Nat × Sh)) (O : List MO) (t : TypeId) (x y : Operand) : Ask dV := match P.underlying t with
 | some (.slice e) => Ask.of (XR P e) fun c => Ask.of (opL env G y) fun l => if hl : l.1 = c.1 then Ask.of (CA G x) fun a => match a with
  | .nl => .bind (dh c.2 ([] : List l.1.den) l.2) fun d => .ret ⟨.vl false [.own O.length (n + 1)], [⟨.sl l.1, d, none⟩], 1, [], [.oa (n + 1) n]⟩
  | .own o h => Ask.of (RC n env O o h) fun q => if hq : q.2.1 = l.1 then .bind (dh c.2 (hq ▸ q.2.2 : List l.1.den) l.2) fun d => .ret ⟨.vl false [.own o (n + 1)], [⟨.sl l.1, d, none⟩], 1, [(o, .oa (n + 1) n)], []⟩ else .fail
  | .fu i => Ask.of ((iQ env i).bind bX.QG) fun q => if hq : q.1 = l.1 then Ask.when (Nat.ble 1 l.2.length) (.bind (dh c.2 (hq ▸ q.2 : List l.1.den) l.2) fun d => .ret ⟨.vl false [.own O.length (n + 1)], [⟨.sl l.1, d, none⟩], 1, [], [.oa (n + 1) n]⟩) else .fail
  | _ => .fail else .fail
 | _ => .fail
theorem appE_ok (hw : WF n env) {t : TypeId} {x y : Operand} : aC (aM P E N (.call ⟨.builtin .append, #[x, y], #[t, t]⟩) ty n env G O) (appE P n env G O t x y) := by
 unfold appE
 split
 ·rename_i e hu
  refine aC.of fun c hc => aC.of fun l hl => ?_
  split
  ·rename_i hlc
   obtain ⟨t', l⟩ := l
   obtain ⟨c1, c2⟩ := c
   simp only at hlc
   subst hlc
   refine aC.of fun a ha => ?_
   have hx := fun η => fB (c := ⟨n, env, η⟩) ha
   split
   ·exact fun d hd => aM.newA hw fun η => (WT hd hu (lg hc) (hx η) (DU hl))
   ·rename_i o h
    refine aC.of fun q hq => ?_
    split
    ·rename_i hqt
     obtain ⟨i0, t2, l2⟩ := q
     simp only at hqt
     subst hqt
     obtain ⟨hb, hlt, ⟨s, he⟩, hj⟩ := ES hq
     refine fun d hd => aM.chgA hw (fun η => (DD hd hu (lg hc) ?_ (hj η) (DU hl))) hlt
     have h1 := hx η
     rw [xT (c := ⟨n, env, η⟩) hb] at h1
     exact h1
    ·trivial
   ·rename_i i
    refine aC.of fun q hq => ?_
    split
    ·rename_i hqt
     obtain ⟨t2, l2⟩ := q
     simp only at hqt
     subst hqt
     refine aC.when fun hne => fun d hd => aM.newA hw fun η => ?_
     obtain ⟨en, he, hs⟩ := Option.bind_eq_some_iff.1 hq
     obtain ⟨s, rfl⟩ := Wl hs
     have h1 := hx η
     simp only [At.rp, he] at h1
     exact WU hd hne hu (lg hc) h1 (DU hl)
    ·trivial
   ·trivial
  ·trivial
 ·trivial
theorem St.imp {X : Type} {Γ : List (Nat × RP)} {Ω : List OB} {js : List Nat} {φ ψ : X → RP} {fE : X → List OB} (h : St P E N op ty Γ Ω js φ fE) (hi : ∀ x F w v, (φ x).h F w v → (ψ x).h F w v) : St P E N op ty Γ Ω js ψ fE := by
 intro a w hs o ho ht
 refine (h a w hs o ho ht).mono ?_
 rintro v w' ⟨x, h1, h2, h3⟩
 exact ⟨x, h1, hi x _ _ _ h2, h3⟩
def UH (P : Program) [bl P] (n : Nat) (env : List (Nat × bX)) (G : List (Nat × Sh)) (O : List MO) (t : TypeId) (x : Operand) : Ask dV := match P.underlying t with
 | some (.slice e) => Ask.of (XR P e) fun c => Ask.of (CA G x) fun a => match a with
  | .sb o h a b sz => Ask.of (RC n env O o h) fun q => Ask.of ((iQ env a).bind XQ) fun l => Ask.of ((iQ env b).bind XQ) fun m => if c.1 = q.2.1 ∧ sz = q.2.1.rep.size then Ask.of ((LN P e).bind (UJ P env q.2.1)) fun z =>
    .bind (QV q.2.2 l m) fun _ =>   .ret ⟨.I9 [], [⟨.sl q.2.1, q.2.2.take (Int.toNat l) ++ List.replicate (Int.toNat m - Int.toNat l) z ++ q.2.2.drop (Int.toNat m), none⟩], 0, [(o, .oa h n)], []⟩ else .fail
  | _ => .fail
 | _ => .fail
theorem XW (hw : WF n env) {t : TypeId} {x : Operand} : aC (aM P E N (.call ⟨.builtin .clear, #[x], #[t]⟩) ty n env G O) (UH P n env G O t x) := by
 unfold UH
 split
 ·rename_i e hu
  refine aC.of fun c hc => aC.of fun a ha => ?_
  have hx := fun η => fB (c := ⟨n, env, η⟩) ha
  split
  ·rename_i o h a b sz
   refine aC.of fun q hq => aC.of fun l hl => aC.of fun m hm => ?_
   split
   ·rename_i hct
    refine aC.of fun z hz => fun d' hd => ?_
    obtain ⟨i0, t', l'⟩ := q
    obtain ⟨c1, c2⟩ := c
    simp only at hct
    obtain ⟨rfl, rfl⟩ := hct
    obtain ⟨hb, hlt, ⟨s, he⟩, hj⟩ := ES hq
    obtain ⟨ea, hea, hl⟩ := Option.bind_eq_some_iff.1 hl
    obtain ⟨eb, heb, hm⟩ := Option.bind_eq_some_iff.1 hm
    obtain ⟨sa, rfl⟩ := LH hl
    obtain ⟨sb, rfl⟩ := LH hm
    have hsrc : ∀ e ∈ [(⟨.sl c1, l'.take (Int.toNat l) ++ List.replicate (Int.toNat m - Int.toNat l) z ++ l'.drop (Int.toNat m), none⟩ : bX)], gR env e := fun e he => by rw [List.mem_singleton.1 he]; exact .none rfl
    refine ⟨hsrc, (fun _ h => by cases h), fun η => ?_⟩
    have h1 := hx η
    simp only [At.rp, hea, heb, hb, cond_true] at h1
    have h2 := s_clear (E := E) (N := N) (ty := ty) (ρ := c1.rep) hd hu (lg hc) (Q7 hz) h1 (hj η)
    refine (h2.imp (ψ := fun _ => Dc.I9 []) fun _ F w v hv => ⟨#[], hv, trivial⟩).to' fun x a w hs => ⟨⟨η, fun _ _ => rfl⟩, ?_, rfl⟩
    simp only [dV.O', wU, List.append_nil]
    refine BV (aM.ext hw (r := ⟨.I9 [], [⟨.sl c1, l'.take (Int.toNat l) ++ List.replicate (Int.toNat m - Int.toNat l) z ++ l'.drop (Int.toNat m), none⟩], 0, [(o, .oa h n)], []⟩) hsrc ⟨η, fun _ _ => rfl⟩) ?_ hs
    simp only [MO.ob, dV.bC, dV.n', dV.env', keyed, bM, if_true, cm.ob]
    rw [bV hb (show n ≤ n + [(⟨.sl c1, l'.take (Int.toNat l) ++ List.replicate (Int.toNat m - Int.toNat l) z ++ l'.drop (Int.toNat m), none⟩ : bX)].length + 0 from by omega)]
    rfl
   ·trivial
  ·trivial
 ·trivial
end Go.Dc
