/- Part M.Mem4 of a proof: lemmas. -/
import Derived.Test.YtpnhpildieghpaaGreatDoorMAsk
import Derived.Test.YtpnhpildieghpaaGreatDoorDcMem4
import Derived.Laws.IdiomRangeMap
import Derived.Test.YtpnhpildieghpaaGreatDoorDcEqS
set_option linter.unusedSectionVars false
set_option linter.unusedVariables false
set_option linter.unusedSimpArgs false
/-! Operations on integers, truths and texts. -/
namespace Go.Dc
variable [SRep] [DrawMode] {R : Type} {P : Program} {E : Env} {N : Nat} {K : KT R} {m : Option R} {op : Op} {ty : TypeId} {n : Nat} {env : List (Nat × Ent)} {G : List (Nat × Sh)} {O : List MO}

def cst : Value → Option Sh
  | .int k n => some (.vl false [.ci k n])
  | .bool b => some (.vl false [.cb b])
  | .string s => some (.vl false [.ck s])
  | .slice none 0 0 => some (.vl false [.nl])
  | .pointer none => some (.vl false [.nilp])
  | .nilFunc => some (.vl false [.nilf])
  | .func (.func f) ⟨[]⟩ ⟨[]⟩ => some (.vl false [.fn f []])
  | _ => none

def opd (G : List (Nat × Sh)) : Operand → Option Sh
  | .tmp t => lkG G t
  | .const v => cst v
  | .func f => some (.vl false [.fn f []])
  | .global _ => none

theorem opd_rp {c : Cx} {x : Operand} {s : Sh} (h : opd G x = some s) : lkO (gma c G) x = some (s.rp c) := by
  cases x with
  | tmp t => simp only [opd] at h; simp only [lkO, lk_gma, h]; rfl
  | func f => simp only [opd] at h; cases h; rfl
  | global g => cases h
  | const v =>
    simp only [opd] at h
    simp only [lkO]
    unfold cst at h
    split at h <;> first | (cases h; rfl) | cases h

/-- an atom's data -/
def rdD (env : List (Nat × Ent)) : At → Option Dyn
  | .vr i => (lkE env i).bind fun e => bif e.t.one then some ⟨e.t, e.d⟩ else none
  | .ci k n => some ⟨.int k, n⟩
  | .cb b => some ⟨.bool, b⟩
  | .ck s => some ⟨.str, s⟩
  | _ => none

def Dyn.rp (D : Dyn) : RP := sh D.t.rep D.d

theorem rdD_rp {c : Cx} {a : At} {D : Dyn} (h : rdD c.env a = some D) : a.rp c = D.rp ∧ D.t.one = true := by
  cases a <;> simp only [rdD] at h
  case vr i =>
    simp only [At.rp]
    cases he : lkE c.env i with
    | none => rw [he] at h; cases h
    | some e =>
      rw [he] at h
      simp only [Option.bind_some] at h ⊢
      cases ho : e.t.one with
      | false => rw [ho] at h; cases h
      | true => rw [ho] at h; cases h; exact ⟨rfl, ho⟩
  all_goals first | (cases h; exact ⟨rfl, rfl⟩) | cases h

def opA (G : List (Nat × Sh)) (x : Operand) : Option At := match opd G x with
  | some (.vl false [a]) => some a
  | _ => none
theorem opA_rp {c : Cx} {x : Operand} {a : At} (h : opA G x = some a) : lkO (gma c G) x = some (a.rp c) := by
  unfold opA at h
  split at h
  · rename_i h1; cases h; rw [opd_rp h1]; rfl
  · cases h

def opD (env : List (Nat × Ent)) (G : List (Nat × Sh)) (x : Operand) : Option Dyn := (opA G x).bind (rdD env)
theorem opD_rp {η : Nat → Hd} {x : Operand} {D : Dyn} (h : opD env G x = some D) : lkO (gma ⟨n, env, η⟩ G) x = some D.rp := by
  unfold opD at h
  cases ha : opA G x with
  | none => rw [ha] at h; cases h
  | some a => rw [ha] at h; rw [opA_rp ha, (rdD_rp (c := ⟨n, env, η⟩) h).1]

def Dyn.int : Dyn → Option (IntKind × Int)
  | ⟨.int k, n⟩ => some (k, n)
  | _ => none
def Dyn.bool : Dyn → Option Bool
  | ⟨.bool, b⟩ => some b
  | _ => none
def Dyn.str : Dyn → Option ByteArray
  | ⟨.str, s⟩ => some s
  | _ => none
def Dyn.sl : Dyn → Option ((t : Ty) × List t.den)
  | ⟨.sl t, d⟩ => some ⟨t, d⟩
  | _ => none
theorem Dyn.int_rp {D : Dyn} {k : IntKind} {m : Int} (h : D.int = some (k, m)) : D.rp = iv k m := by
  unfold Dyn.int at h; split at h
  · cases h; rfl
  · cases h
theorem Dyn.bool_rp {D : Dyn} {b : Bool} (h : D.bool = some b) : D.rp = bv b := by
  unfold Dyn.bool at h; split at h
  · cases h; rfl
  · cases h
theorem Dyn.str_rp {D : Dyn} {b : ByteArray} (h : D.str = some b) : D.rp = sv b := by
  unfold Dyn.str at h; split at h
  · cases h; rfl
  · cases h
theorem Dyn.sl_rp {D : Dyn} {t : Ty} {d : List t.den} (h : D.sl = some ⟨t, d⟩) : D.rp = slv t.rep d := by
  unfold Dyn.sl at h; split at h
  · cases h; rfl
  · cases h

def opI (env : List (Nat × Ent)) (G : List (Nat × Sh)) (x : Operand) : Option (IntKind × Int) := (opD env G x).bind Dyn.int
def opB (env : List (Nat × Ent)) (G : List (Nat × Sh)) (x : Operand) : Option Bool := (opD env G x).bind Dyn.bool
def opS (env : List (Nat × Ent)) (G : List (Nat × Sh)) (x : Operand) : Option ByteArray := (opD env G x).bind Dyn.str
def opL (env : List (Nat × Ent)) (G : List (Nat × Sh)) (x : Operand) : Option ((t : Ty) × List t.den) := (opD env G x).bind Dyn.sl
section
variable {η : Nat → Hd} {x : Operand}
theorem opI_rp {k : IntKind} {i : Int} (h : opI env G x = some (k, i)) : lkO (gma ⟨n, env, η⟩ G) x = some (iv k i) := by
  obtain ⟨D, h1, h2⟩ := Option.bind_eq_some_iff.1 h
  rw [opD_rp h1, Dyn.int_rp h2]
theorem opB_rp {b : Bool} (h : opB env G x = some b) : lkO (gma ⟨n, env, η⟩ G) x = some (bv b) := by
  obtain ⟨D, h1, h2⟩ := Option.bind_eq_some_iff.1 h
  rw [opD_rp h1, Dyn.bool_rp h2]
theorem opS_rp {b : ByteArray} (h : opS env G x = some b) : lkO (gma ⟨n, env, η⟩ G) x = some (sv b) := by
  obtain ⟨D, h1, h2⟩ := Option.bind_eq_some_iff.1 h
  rw [opD_rp h1, Dyn.str_rp h2]
theorem opL_rp {t : Ty} {d : List t.den} (h : opL env G x = some ⟨t, d⟩) : lkO (gma ⟨n, env, η⟩ G) x = some (slv t.rep d) := by
  obtain ⟨D, h1, h2⟩ := Option.bind_eq_some_iff.1 h
  rw [opD_rp h1, Dyn.sl_rp h2]
end

/-- a result that is data of one cell -/
def resD (n : Nat) (t : Ty) (d : t.den) : OpR := ⟨.vl false [.vr n], [⟨t, d, none⟩], 0, [], []⟩

theorem vr_rp {η : Nat → Hd} {n' : Nat} {t : Ty} (ht : t.one = true) {d : t.den} {s : Option Src} : (Sh.vl false [.vr n]).rp ⟨n', (n, ⟨t, d, s⟩) :: env, η⟩ = sh t.rep d := by
  simp only [Sh.rp, vrp, cond_false, List.map_cons, List.headD_cons, At.rp, lkE_cons, if_true, ht, cond_true]

theorem OpOk.dat (hw : WF n env) {t : Ty} (ht : t.one = true) {d : t.den} (h : ∀ η, Rd P E N op ty (gma ⟨n, env, η⟩ G) (oma ⟨n, env, η⟩ O) [] (sh t.rep d)) :
    OpOk P E N op ty n env G O (resD n t d) :=
  OpOk.rd' hw (fun e he => by rw [List.mem_singleton.1 he]; exact .none rfl) fun η => by
    rw [show keyed n [⟨t, d, none⟩] env = (n, ⟨t, d, none⟩) :: env from rfl, vr_rp ht]; exact h η

/-- a result that is a value which is there -/
theorem OpOk.same (hw : WF n env) {v : Sh} (h : ∀ η, Rd P E N op ty (gma ⟨n, env, η⟩ G) (oma ⟨n, env, η⟩ O) [] (v.rp ⟨n, env, η⟩)) : OpOk P E N op ty n env G O ⟨v, [], 0, [], []⟩ :=
  OpOk.rd' hw (fun e he => by simp at he) fun η => h η

theorem own_rp {c : Cx} {o h : Nat} (hb : Nat.blt h c.n = true) : (At.own o h).rp c = pv (c.η h).hv := by simp only [At.rp, hb, cond_true]
theorem ptr_rp {c : Cx} {o h off : Nat} (hb : Nat.blt h c.n = true) : (At.ptr o h off).rp c = pv (ptr (c.η h).b off) := by simp only [At.rp, hb, cond_true]
theorem oc_ob {c : Cx} {h : Nat} {l : List At} (hb : Nat.blt h c.n = true) : (MO.oc h l).ob c = oc (c.η h).b (l.map (At.rp c)) := by simp only [MO.ob, hb, cond_true]

theorem asSl_eq {e : Ent} {t : Ty} {d : List t.den} (h : e.asSl = some ⟨t, d⟩) : ∃ s, e = ⟨.sl t, d, s⟩ := by
  unfold Ent.asSl at h
  split at h
  · cases h; exact ⟨_, rfl⟩
  · cases h
/-! ### integers -/
def isLit : At → Bool
  | .ci _ n => decide (0 ≤ n)
  | _ => false
def opLit (G : List (Nat × Sh)) (x : Operand) : Bool := match opA G x with
  | some a => isLit a
  | none => false

def binI (n : Nat) (b : BinOp) (k : IntKind) (u v : Int) (lit : Bool) : Ask OpR :=
  match b with
  | .add => .ret (resD n (.int k) (iadd k u v))
  | .sub => .ret (resD n (.int k) (isub k u v))
  | .mul => .ret (resD n (.int k) (imul k u v))
  | .and => .ret (resD n (.int k) (iand k u v))
  | .or => .ret (resD n (.int k) (ior k u v))
  | .xor => .ret (resD n (.int k) (ixor k u v))
  | .andNot => .ret (resD n (.int k) (iandn k u v))
  | .quo => bif lit then (if v ≠ 0 then .ret (resD n (.int k) (iquo k u v)) else .fail) else .bind (iquoM k u v) fun x => .ret (resD n (.int k) x)
  | .rem => bif lit then (if v ≠ 0 then .ret (resD n (.int k) (irem k u v)) else .fail) else .bind (iremM k u v) fun x => .ret (resD n (.int k) x)
  | .shl => bif lit then (if 0 ≤ v then .ret (resD n (.int k) (ishl k u v)) else .fail) else .bind (ishlM k u v) fun x => .ret (resD n (.int k) x)
  | .shr => bif lit then (if 0 ≤ v then .ret (resD n (.int k) (ishr k u v)) else .fail) else .bind (ishrM k u v) fun x => .ret (resD n (.int k) x)
  | .eql => .ret (resD n .bool (u == v))
  | .neq => .ret (resD n .bool (u != v))
  | .lss => .ret (resD n .bool (decide (u < v)))
  | .leq => .ret (resD n .bool (decide (u ≤ v)))
  | .gtr => .ret (resD n .bool (decide (u > v)))
  | .geq => .ret (resD n .bool (decide (u ≥ v)))

theorem binI_ok (hw : WF n env) {b : BinOp} {t yt : TypeId} {x y : Operand} {k k' : IntKind} {u v : Int} {lit : Bool} (hx : opI env G x = some (k, u)) (hy : opI env G y = some (k', v)) (hk : k' = k ∨ b = .shl ∨ b = .shr) :
    AskOk (OpOk P E N (.binOp b t x y yt) ty n env G O) (binI n b k u v lit) := by
  have hx' := fun η => opI_rp (n := n) (η := η) hx
  have hy' := fun η => opI_rp (n := n) (η := η) hy
  have z := fun (h : (0 : Int) ≤ v) => h
  cases b with
  | shl =>
    cases lit with
    | true =>
      show AskOk _ (if 0 ≤ v then _ else _)
      split
      · rename_i h; exact OpOk.dat hw rfl fun η => (r_shl (hx' η) (hy' η) h)
      · trivial
    | false => exact fun w hw' => OpOk.dat hw rfl fun η => (r_shlM hw' (hx' η) (hy' η))
  | shr =>
    cases lit with
    | true =>
      show AskOk _ (if 0 ≤ v then _ else _)
      split
      · rename_i h; exact OpOk.dat hw rfl fun η => (r_shr (hx' η) (hy' η) h)
      · trivial
    | false => exact fun w hw' => OpOk.dat hw rfl fun η => (r_shrM hw' (hx' η) (hy' η))
  | quo =>
    obtain rfl : k' = k := by rcases hk with h | h | h <;> first | exact h | cases h
    cases lit with
    | true =>
      show AskOk _ (if v ≠ 0 then _ else _)
      split
      · rename_i h; exact OpOk.dat hw rfl fun η => (r_quo (hx' η) (hy' η) h)
      · trivial
    | false => exact fun w hw' => OpOk.dat hw rfl fun η => (r_quoM hw' (hx' η) (hy' η))
  | rem =>
    obtain rfl : k' = k := by rcases hk with h | h | h <;> first | exact h | cases h
    cases lit with
    | true =>
      show AskOk _ (if v ≠ 0 then _ else _)
      split
      · rename_i h; exact OpOk.dat hw rfl fun η => (r_rem (hx' η) (hy' η) h)
      · trivial
    | false => exact fun w hw' => OpOk.dat hw rfl fun η => (r_remM hw' (hx' η) (hy' η))
  | add => obtain rfl : k' = k := by { rcases hk with h | h | h <;> first | exact h | cases h }; exact OpOk.dat hw rfl fun η => (r_add (hx' η) (hy' η))
  | sub => obtain rfl : k' = k := by { rcases hk with h | h | h <;> first | exact h | cases h }; exact OpOk.dat hw rfl fun η => (r_sub (hx' η) (hy' η))
  | mul => obtain rfl : k' = k := by { rcases hk with h | h | h <;> first | exact h | cases h }; exact OpOk.dat hw rfl fun η => (r_mul (hx' η) (hy' η))
  | and => obtain rfl : k' = k := by { rcases hk with h | h | h <;> first | exact h | cases h }; exact OpOk.dat hw rfl fun η => (r_and (hx' η) (hy' η))
  | or => obtain rfl : k' = k := by { rcases hk with h | h | h <;> first | exact h | cases h }; exact OpOk.dat hw rfl fun η => (r_or (hx' η) (hy' η))
  | xor => obtain rfl : k' = k := by { rcases hk with h | h | h <;> first | exact h | cases h }; exact OpOk.dat hw rfl fun η => (r_xor (hx' η) (hy' η))
  | andNot => obtain rfl : k' = k := by { rcases hk with h | h | h <;> first | exact h | cases h }; exact OpOk.dat hw rfl fun η => (r_andn (hx' η) (hy' η))
  | eql => obtain rfl : k' = k := by { rcases hk with h | h | h <;> first | exact h | cases h }; exact OpOk.dat hw rfl fun η => (r_eql (hx' η) (hy' η))
  | neq => obtain rfl : k' = k := by { rcases hk with h | h | h <;> first | exact h | cases h }; exact OpOk.dat hw rfl fun η => (r_neq (hx' η) (hy' η))
  | lss => obtain rfl : k' = k := by { rcases hk with h | h | h <;> first | exact h | cases h }; exact OpOk.dat hw rfl fun η => (r_lss (hx' η) (hy' η))
  | leq => obtain rfl : k' = k := by { rcases hk with h | h | h <;> first | exact h | cases h }; exact OpOk.dat hw rfl fun η => (r_leq (hx' η) (hy' η))
  | gtr => obtain rfl : k' = k := by { rcases hk with h | h | h <;> first | exact h | cases h }; exact OpOk.dat hw rfl fun η => (r_gtr (hx' η) (hy' η))
  | geq => obtain rfl : k' = k := by { rcases hk with h | h | h <;> first | exact h | cases h }; exact OpOk.dat hw rfl fun η => (r_geq (hx' η) (hy' η))
end Go.Dc

/-! Slices made with room; a range over a map. -/
namespace Go.Dc
variable [DrawMode]
variable {P : Program} {E : Env} {N : Nat} {Γ : List (Nat × RP)} {Ω : List OB} {ty : TypeId}

def capM (bytes : Nat) (c : Int) : Option Unit := if 0 ≤ c ∧ bytes * c.toNat ≤ 140737488355328 then some () else none
end Go.Dc

/-! Strings: greater, parts; maps made with a size. -/
namespace Go.Dc
variable [DrawMode]
variable {P : Program} {E : Env} {N : Nat} {Γ : List (Nat × RP)} {Ω : List OB} {ty : TypeId} {α β : Type} [DecidableEq α]

theorem r_sgtr {t yt : TypeId} {x y : Operand} {s u : ByteArray} (hx : lkO Γ x = some (sv s)) (hy : lkO Γ y = some (sv u)) : Rd P E N (.binOp .gtr t x y yt) ty Γ Ω [] (bv (!(Op.bytesLess s.toList u.toList || s.toList == u.toList))) :=
  str_of hx hy (fun _ _ => rfl) fun w => by simp [binOp, Op.stringOp]

/-- s[lo:hi] -/
def ssubM (s : ByteArray) (lo hi : Int) : Option ByteArray := if 0 ≤ lo ∧ lo ≤ hi ∧ hi ≤ (s.size : Int) then some (s.extract lo.toNat hi.toNat) else none
theorem r_ssub {t : TypeId} {x : Operand} {lo hi : Option Operand} {s r : ByteArray} {l m : Int} (hd : ssubM s l m = some r) (hu : P.underlying t = some .string)
    (hx : lkO Γ x = some (sv s)) (hlo : BdOk Γ 0 lo l) (hhi : BdOk Γ s.size hi m) : Rd P E N (.slice t x lo hi none) ty Γ Ω [] (sv r) := .mk fun a w hs => by
  unfold ssubM at hd
  by_cases h0 : 0 ≤ l ∧ l ≤ m ∧ m ≤ (s.size : Int)
  · rw [if_pos h0] at hd
    cases hd
    obtain ⟨h0, h1, h2⟩ := h0
    obtain ⟨l, rfl⟩ := Int.eq_ofNat_of_zero_le h0
    obtain ⟨m, rfl⟩ := Int.eq_ofNat_of_zero_le (Int.le_trans h0 h1)
    have hv : a.eval x = .string s := hs.op hx
    have hl := hlo.val hs
    have hm := hhi.val hs
    have e1 : l ≤ m := by omega
    have e2 : m ≤ s.size := by omega
    refine ⟨_, rfl, fun w' o ho _ => ?_⟩
    have hH : (Instr.sliceBounds false s.size s.size (lo.map a.eval) (hi.map a.eval) none).run P w' = .ok (l, m, s.size) w' := by
      unfold Instr.sliceBounds
      have b1 : ∀ (k : IntKind) (n y : Nat) (c : BoundsCode), n ≤ y → (Instr.sliceBound (.int k (n : Int)) y c).run P w' = .ok n w' := fun k n y c h => by simp [Instr.sliceBound, asIntOf, h]
      rcases hl with ⟨q1, q⟩ | ⟨k, q1⟩ <;> rcases hm with ⟨q2, q'⟩ | ⟨k2, q2⟩ <;> rw [q1, q2]
      · have a1 : l = 0 := by omega
        have a2 : m = s.size := by omega
        subst a1; subst a2; rfl
      · have a1 : l = 0 := by omega
        subst a1
        simp [b1 k2 m s.size _ e2]
      · have a2 : m = s.size := by omega
        subst a2
        simp [b1 k l s.size _ e1]
      · simp [b1 k2 m s.size _ e2, b1 k l m _ e1]
    simp [execOp, ho, hv, Instr.sliceAt, Instr.slice, run_underlying hu, hH]
  · rw [if_neg h0] at hd; cases hd

/-! a part of a slice that is ours, looked at beside it -/
def vixM (lo hi i : Int) : Option Int := if 0 ≤ i ∧ i < ((hi.toNat - lo.toNat : Nat) : Int) then some ((lo.toNat : Int) + i) else none
section
variable {γ : Type} {ρ : Rep γ} {e t : TypeId} {bytes : Nat} {x : Operand} {hv : Value} {S : List Nat} {d : List γ} {j : Nat} {l m : Nat}
end

end Go.Dc

/-! Types of a program, structs, and data in cells. -/
namespace Go.Dc

class PTab (P : Program) extends SRep where
  code : TypeId → Option Nat
  split : (n : Nat) → SDen.den n → List Dyn
  split_ok : ∀ n x, (SRep.rep n).cp x = (split n x).map Dyn.rp
  split_one : ∀ n x, ∀ D ∈ split n x, D.t.one = true
  join : (n : Nat) → List Dyn → Option (SDen.den n)
  join_ok' : ∀ n l x, join n l = some x → split n x = l
  fts : Nat → List Ty
  fld : (n f : Nat) → SDen.den n → Option (Nat × Dyn)
  fld_ok : ∀ n f x off D, fld n f x = some (off, D) → (((SRep.rep n).cp x).drop off).take D.t.rep.size = D.t.rep.cp D.d ∧ off + D.t.rep.size ≤ (SRep.rep n).size
  deq : (n : Nat) → DecidableEq (SDen.den n)
  eqs : TypeId → Nat → Bool
  eqs_ok : ∀ t n, eqs t n = true → letI := deq n; EqT P t (SRep.rep n)

theorem PTab.join_ok {P : Program} [PTab P] (n : Nat) (l : List Dyn) (x : SDen.den n) (h : PTab.join (P := P) n l = some x) : (SRep.rep n).cp x = l.map Dyn.rp := by
  rw [PTab.split_ok (P := P) n x, PTab.join_ok' n l x h]

variable [DrawMode] {R : Type} {P : Program} [PTab P] {E : Env} {N : Nat} {K : KT R} {m : Option R} {op : Op} {ty : TypeId} {n : Nat} {env : List (Nat × Ent)} {G : List (Nat × Sh)} {O : List MO}

/-! ### types -/
def aggT (P : Program) (t : TypeId) : Option Bool := match P.underlying t with
  | some (.struct _) => some true
  | some (.array _ _) => some true
  | some _ => some false
  | none => none
theorem aggT_ok {t : TypeId} {b : Bool} (h : aggT P t = some b) (w : World) : (isAgg t).run P w = .ok b w := by
  unfold aggT at h
  split at h
  · rename_i d hu; cases h; simp [isAgg, run_underlying hu]
  · rename_i d hu; cases h; simp [isAgg, run_underlying hu]
  · rename_i d h1 h2 hu
    cases h
    simp only [isAgg, Sem.run_bind, run_underlying hu]
    cases d <;> first | rfl | (exact absurd rfl (h1 _)) | (exact absurd rfl (h2 _ _))
  · cases h

def sizeT (P : Program) (t : TypeId) : Option Nat := (P.info? t).map (·.size)
theorem sizeT_ok {t : TypeId} {k : Nat} (h : sizeT P t = some k) (w : World) : (Go.sizeOf t).run P w = .ok k w := by
  unfold sizeT at h
  cases hi : P.info? t with
  | none => rw [hi] at h; cases h
  | some i => rw [hi] at h; cases h; simp [Go.sizeOf, typeInfo, hi]

def codeN (P : Program) [PTab P] : Nat → TypeId → Option Ty
  | 0, _ => none
  | k + 1, t => match P.underlying t with
    | some (.int kd) => some (.int kd)
    | some .bool => some .bool
    | some .string => some .str
    | some (.slice e) => (codeN P k e).map .sl
    | some (.pointer e) => (codeN P k e).map .op
    | some (.struct _) => (PTab.code P t).map .st
    | some (.array _ _) => (PTab.code P t).map .st
    | _ => none
def codeT (P : Program) [PTab P] (t : TypeId) : Option Ty := codeN P 5 t

/-- elements of type t: their code and how many bytes they take -/
def elT (P : Program) [PTab P] (e : TypeId) : Option (Ty × Nat) :=
  match codeT P e, P.info? e, aggT P e with
  | some c, some i, some g => match i.zero with
    | some z => bif Nat.beq i.size c.rep.size && Nat.beq z.cells.size c.rep.size && (g == c.rep.agg) && Nat.blt 0 c.rep.size && Nat.blt 0 i.bytes then some (c, i.bytes) else none
    | none => none
  | _, _, _ => none
theorem elT_ok {e : TypeId} {c : Ty} {b : Nat} (h : elT P e = some (c, b)) : ElT P e c.rep b := by
  unfold elT at h
  split at h
  · rename_i c' i g hc hi hg
    split at h
    · rename_i z hz
      generalize hb : (Nat.beq i.size c'.rep.size && Nat.beq z.cells.size c'.rep.size && (g == c'.rep.agg) && Nat.blt 0 c'.rep.size && Nat.blt 0 i.bytes) = q at h
      cases q with
      | false => cases h
      | true =>
        simp only [cond_true, Option.some.injEq, Prod.mk.injEq] at h
        obtain ⟨rfl, rfl⟩ := h
        simp only [Bool.and_eq_true, Nat.blt_eq, beq_iff_eq] at hb
        obtain ⟨⟨⟨⟨h1, h2⟩, h3⟩, h4⟩, h5⟩ := hb
        exact ⟨⟨i, hi, Nat.eq_of_beq_eq_true h1, rfl, z, hz, Nat.eq_of_beq_eq_true h2⟩, fun w => by rw [← h3]; exact aggT_ok hg w, h4, h5⟩
    · cases h
  · cases h

/-! ### data as_ values -/
theorem lkE_keyed_lt : ∀ {es : List Ent} {k i : Nat} {env : List (Nat × Ent)}, i < k → lkE (keyed k es env) i = lkE env i
  | [], _, _, _, _ => rfl
  | e :: es, k, i, env, h => by
    show lkE (keyed (k + 1) es ((k, e) :: env)) i = _
    rw [lkE_keyed_lt (by omega), lkE_cons, if_neg (by omega)]
theorem lkE_keyed {es : List Ent} : ∀ {k i : Nat} {env : List (Nat × Ent)} {e : Ent}, es[i]? = some e → lkE (keyed k es env) (k + i) = some e := by
  induction es with
  | nil => intro k i env e h; simp at h
  | cons x es ih =>
    intro k i env e h
    show lkE (keyed (k + 1) es ((k, x) :: env)) (k + i) = _
    cases i with
    | zero =>
      simp only [List.getElem?_cons_zero, Option.some.injEq] at h
      subst h
      rw [lkE_keyed_lt (by omega), lkE_cons, if_pos (by omega)]
    | succ i =>
      simp only [List.getElem?_cons_succ] at h
      rw [show k + (i + 1) = k + 1 + i from by omega]
      exact ih h

def vrs : Nat → List Dyn → List At
  | _, [] => []
  | n, _ :: l => .vr n :: vrs (n + 1) l
def ents (l : List Dyn) : List Ent := l.map fun D => ⟨D.t, D.d, none⟩

theorem vrs_rp {η : Nat → Hd} {n' : Nat} {es' : List (Nat × Ent)} : ∀ {l : List Dyn} {k : Nat}, (∀ D ∈ l, D.t.one = true) → (∀ i D, l[i]? = some D → lkE es' (k + i) = some (⟨D.t, D.d, none⟩ : Ent)) → (vrs k l).map (At.rp ⟨n', es', η⟩) = l.map Dyn.rp
  | [], _, _, _ => rfl
  | D :: l, k, h1, h2 => by
    simp only [vrs, List.map_cons]
    have h3 := h2 0 D rfl
    rw [Nat.add_zero] at h3
    have e1 : At.rp ⟨n', es', η⟩ (.vr k) = D.rp := by simp only [At.rp, h3, h1 D (by simp), cond_true, Dyn.rp]
    rw [e1, vrs_rp (l := l) (k := k + 1) (fun D hD => h1 D (by simp [hD])) (fun i D hD => by rw [show k + 1 + i = k + (i + 1) from by omega]; exact h2 (i + 1) D hD)]

/-- data as_ a value, with new entries -/
def valD (P : Program) [PTab P] (n : Nat) (D : Dyn) : Sh × List Ent := match D with
  | ⟨.st k, d⟩ => (.vl true (vrs n (PTab.split (P := P) k d)), ents (PTab.split (P := P) k d))
  | ⟨t, d⟩ => (.vl false [.vr n], [⟨t, d, none⟩])

theorem ents_src {l : List Dyn} : ∀ e ∈ ents l, SrcOk env e := fun e he => by
  obtain ⟨D, _, rfl⟩ := List.mem_map.1 he
  exact .none rfl

theorem valD_rp {D : Dyn} {v : Sh} {add : List Ent} (h : valD P n D = (v, add)) {η : Nat → Hd} {n' : Nat} : v.rp ⟨n', keyed n add env, η⟩ = D.rp ∧ ∀ e ∈ add, SrcOk env e := by
  obtain ⟨t, d⟩ := D
  cases t with
  | st k =>
    cases h
    refine ⟨?_, ents_src⟩
    have h1 := vrs_rp (es' := keyed n (ents (PTab.split (P := P) k d)) env) (η := η) (n' := n') (l := PTab.split (P := P) k d) (k := n) (PTab.split_one k d) (fun i D hD => lkE_keyed (by simp [ents, hD]))
    simp only [Sh.rp, vrp, cond_true]
    rw [h1]
    have h2 : (SRep.rep k).cp d = (PTab.split (P := P) k d).map Dyn.rp := PTab.split_ok k d
    show _ = sh (SRep.rep k) d
    unfold sh
    rw [SRep.agg, h2]; rfl
  | _ => cases h; exact ⟨vr_rp rfl, fun e he => by rw [List.mem_singleton.1 he]; exact .none rfl⟩

theorem OpOk.val (hw : WF n env) {D : Dyn} (h : ∀ η, Rd P E N op ty (gma ⟨n, env, η⟩ G) (oma ⟨n, env, η⟩ O) [] D.rp) :
    OpOk P E N op ty n env G O ⟨(valD P n D).1, (valD P n D).2, 0, [], []⟩ :=
  OpOk.rd' hw (valD_rp (η := fun _ => ⟨.bool true, [], 0, rfl⟩) (n' := 0) rfl).2 fun η => by
    rw [(valD_rp (v := (valD P n D).1) (add := (valD P n D).2) rfl).1]; exact h η

/-! ### cells as_ data -/
theorem RP.no_at : RP.no.At := fun h => h.elim
theorem Dyn.rp_at {D : Dyn} (ho : D.t.one = true) : D.rp.At := by
  have h1 := Ty.one_agg ho
  have e : D.rp = (D.t.rep.cp D.d).headD (pv Go.undef) := by unfold Dyn.rp sh; rw [h1]; rfl
  have hl := D.t.rep.len D.d
  rw [D.t.rep.one h1] at hl
  obtain ⟨φ, hφ⟩ := List.length_eq_one_iff.1 hl
  rw [e, hφ]
  exact (D.t.rep.at_ D.d φ (by rw [hφ]; simp) : φ.At)
theorem bif_at {b : Bool} {φ ψ : RP} (h1 : φ.At) (h2 : ψ.At) : (bif b then φ else ψ).At := by cases b; exact h2; exact h1
theorem elA_one {hv : Value} {s : Nat} {i : Int} : (elA hv s i).oneCell' = true := by unfold elA; split <;> rfl
theorem elF_one {hv : Value} {s : Nat} {i : Int} {fo : Nat} : (elF hv s i fo).oneCell' = true := by unfold elF; split <;> rfl
theorem ea_at {α : Type} {ρ : Rep α} {x : α} : (Dc.ea ρ x).At := fun ⟨_, _, _, _, _, _, e, _⟩ => by rw [e]; rfl
theorem At.rp_at {c : Cx} (a : At) : (a.rp c).At := by
  cases a with
  | vr i =>
    simp only [At.rp]
    split
    · rename_i e he
      cases ho : e.t.one with
      | false => exact RP.no_at
      | true => exact Dyn.rp_at (D := ⟨e.t, e.d⟩) ho
    · exact RP.no_at
  | ci k n => exact iv_at
  | cb b => exact bv_at
  | ck s => exact sv_at
  | nl => exact pv_at rfl
  | own o h => exact bif_at (pv_at (c.η h).one) RP.no_at
  | ptr o h off => exact bif_at (pv_at rfl) RP.no_at
  | mp o h => exact bif_at (pv_at rfl) RP.no_at
  | fn f l => exact bif_at (pv_at rfl) RP.no_at
  | nilf => exact pv_at rfl
  | nilp => exact pv_at rfl
  | ea i =>
    simp only [At.rp]
    split
    · exact ea_at
    · exact RP.no_at
  | fu i =>
    simp only [At.rp]
    split
    · exact fun h => by obtain ⟨a, e, _⟩ := h; rw [e]; rfl
    · exact RP.no_at
  | oea o h y =>
    simp only [At.rp]
    split
    · exact bif_at (pv_at elA_one) RP.no_at
    · exact bif_at (pv_at rfl) RP.no_at
    · exact bif_at (pv_at rfl) RP.no_at
    · exact RP.no_at
  | pj i j =>
    simp only [At.rp]
    split
    · split
      · exact iv_at
      · exact RP.no_at
    · exact RP.no_at
  | vs o h off i cp =>
    simp only [At.rp]
    split
    · exact bif_at (pv_at rfl) RP.no_at
    · exact RP.no_at
  | sb o h a b sz =>
    simp only [At.rp]
    split
    · exact bif_at (pv_at (by unfold subV; split; rfl; exact (c.η h).one)) RP.no_at
    · exact RP.no_at
  | oef o h z =>
    simp only [At.rp]
    split
    · split
      · exact bif_at (pv_at elF_one) RP.no_at
      · exact RP.no_at
    · exact RP.no_at
  | junk => exact anyc_at

/-- an operand's cells -/
def opC (G : List (Nat × Sh)) (x : Operand) : Option (List At) := match opd G x with
  | some (.vl true l) => some l
  | some (.vl false [a]) => some [a]
  | _ => none
theorem opC_part {c : Cx} {Ω : List OB} {x : Operand} {l : List At} (h : opC G x = some l) : PartOk E N (gma c G) Ω x (l.map (At.rp c)) := by
  unfold opC at h
  split at h
  · rename_i h1; cases h
    exact part_ag (opd_rp h1) fun φ hφ => by obtain ⟨a, _, rfl⟩ := List.mem_map.1 hφ; exact At.rp_at a
  · rename_i a h1; cases h
    exact part_at (opd_rp (c := c) h1) (At.rp_at a)
  · cases h

theorem PartOk.imp {Γ : List (Nat × RP)} {Ω : List OB} {x : Operand} {φs ψs : List RP} (h : PartOk E N Γ Ω x φs) (hi : ImpAll φs ψs) : PartOk E N Γ Ω x ψs := fun a w hs =>
  let ⟨h1, h2⟩ := h a w hs; ⟨hi.all h1, h2⟩

/-- an atom as_ data of type t -/
def atD (env : List (Nat × Ent)) (t : Ty) (a : At) : Option Dyn := match a, t with
  | .nl, .sl t => some ⟨.sl t, []⟩
  | a, _ => rdD env a
theorem atD_imp {c : Cx} {t : Ty} {a : At} {D : Dyn} (h : atD c.env t a = some D) {F : FP} {w : World} {v : Value} (hv : (a.rp c).h F w v) : D.rp.h F w v := by
  unfold atD at h
  split at h
  · cases h; exact nil_sl hv
  · rw [← (rdD_rp h).1]; exact hv
def atsD (env : List (Nat × Ent)) : List Ty → List At → Option (List Dyn)
  | [], [] => some []
  | t :: ts, a :: l => (atD env t a).bind fun D => (atsD env ts l).map (D :: ·)
  | _, _ => none
theorem atsD_imp {c : Cx} : ∀ {ts : List Ty} {l : List At} {Ds : List Dyn}, atsD c.env ts l = some Ds → ImpAll (l.map (At.rp c)) (Ds.map Dyn.rp)
  | [], [], _, h => by cases h; trivial
  | t :: ts, a :: l, Ds, h => by
    simp only [atsD] at h
    obtain ⟨D, h1, h2⟩ := Option.bind_eq_some_iff.1 h
    obtain ⟨Ds', h3, rfl⟩ := Option.map_eq_some_iff.1 h2
    exact ⟨fun hv => atD_imp h1 hv, atsD_imp h3⟩
  | [], _ :: _, _, h => by cases h
  | _ :: _, [], _, h => by cases h

/-- one cell as_ data of type t -/
def celD1 (env : List (Nat × Ent)) (t : Ty) : List At → Option t.den
  | [a] => (atD env t a).bind fun D => if h : D.t = t then some (h ▸ D.d) else none
  | _ => none
/-- cells as_ data of type t -/
def celD (P : Program) [PTab P] (env : List (Nat × Ent)) (t : Ty) (l : List At) : Option t.den := match t with
  | .st k => (atsD env (PTab.fts P k) l).bind (PTab.join (P := P) k)
  | t => celD1 env t l
theorem celD1_imp {c : Cx} {t : Ty} (ht : t.one = true) {l : List At} {d : t.den} (h : celD1 c.env t l = some d) : ImpAll (l.map (At.rp c)) (t.rep.cp d) := by
  unfold celD1 at h
  split at h
  · rename_i x
    obtain ⟨D, h1, h2⟩ := Option.bind_eq_some_iff.1 h
    split at h2
    · rename_i e
      subst e
      cases h2
      have hl := D.t.rep.len D.d
      rw [D.t.rep.one (Ty.one_agg ht)] at hl
      obtain ⟨φ, hφ⟩ := List.length_eq_one_iff.1 hl
      have e2 : D.rp = φ := by
        have e3 : D.rp = (D.t.rep.cp D.d).headD (pv Go.undef) := by unfold Dyn.rp sh; rw [Ty.one_agg ht]; rfl
        rw [e3, hφ]; rfl
      show ImpAll [x.rp c] (D.t.rep.cp D.d)
      rw [hφ]
      exact ⟨fun hv => by rw [← e2]; exact atD_imp h1 hv, trivial⟩
    · cases h2
  · cases h
theorem celD_imp {c : Cx} {t : Ty} {l : List At} {d : t.den} (h : celD P c.env t l = some d) : ImpAll (l.map (At.rp c)) (t.rep.cp d) := by
  cases t with
  | st k =>
    simp only [celD] at h
    obtain ⟨Ds, h1, h2⟩ := Option.bind_eq_some_iff.1 h
    have h3 : (SRep.rep k).cp d = Ds.map Dyn.rp := PTab.join_ok k Ds d h2
    show ImpAll _ ((SRep.rep k).cp d)
    rw [h3]
    exact atsD_imp h1
  | int k => exact celD1_imp rfl h
  | bool => exact celD1_imp rfl h
  | str => exact celD1_imp rfl h
  | sl t => exact celD1_imp rfl h
  | op t => exact celD1_imp rfl h
  | mp k v => exact celD1_imp rfl h
  | vec k => exact celD1_imp rfl h

def opT (P : Program) [PTab P] (env : List (Nat × Ent)) (G : List (Nat × Sh)) (t : Ty) (x : Operand) : Option t.den := (opC G x).bind (celD P env t)
theorem opT_part {η : Nat → Hd} {Ω : List OB} {x : Operand} {t : Ty} {d : t.den} (h : opT P env G t x = some d) : PartOk E N (gma ⟨n, env, η⟩ G) Ω x (t.rep.cp d) := by
  obtain ⟨l, h1, h2⟩ := Option.bind_eq_some_iff.1 h
  exact (opC_part h1).imp (celD_imp (c := ⟨n, env, η⟩) h2)
end Go.Dc

/-! More operations that only look. -/
namespace Go.Dc
variable [DrawMode] {R : Type} {P : Program} [PTab P] {E : Env} {N : Nat} {K : KT R} {m : Option R} {op : Op} {ty : TypeId} {n : Nat} {env : List (Nat × Ent)} {G : List (Nat × Sh)} {O : List MO}

/-- a value that is there -/
def resS (v : Sh) : OpR := ⟨v, [], 0, [], []⟩

def moveE (G : List (Nat × Sh)) (x : Operand) : Ask OpR := Ask.of (opd G x) fun v => .ret (resS v)
theorem moveE_ok (hw : WF n env) {x : Operand} : AskOk (OpOk P E N (.move x) ty n env G O) (moveE G x) :=
  AskOk.of fun v h => OpOk.same hw fun η => (r_move (opd_rp (c := ⟨n, env, η⟩) h))
theorem assignE_ok (hw : WF n env) {x : Operand} : AskOk (OpOk P E N (.assign x) ty n env G O) (moveE G x) :=
  AskOk.of fun v h => OpOk.same hw fun η => (r_assign (opd_rp (c := ⟨n, env, η⟩) h))

def pickE (env : List (Nat × Ent)) (G : List (Nat × Sh)) (c x y : Operand) : Ask OpR := Ask.of (opA G c) fun a => match a with
  | .cb true => Ask.of (opd G x) fun v => .ret (resS v)
  | .cb false => Ask.of (opd G y) fun v => .ret (resS v)
  | _ => .fail
theorem pickE_ok (hw : WF n env) {c x y : Operand} : AskOk (OpOk P E N (.pick c x y) ty n env G O) (pickE env G c x y) :=
  AskOk.of fun a h => by
    have hc := fun η => opA_rp (c := ⟨n, env, η⟩) h
    split
    · exact AskOk.of fun v h => OpOk.same hw fun η => (r_pickT (hc η) (opd_rp h))
    · exact AskOk.of fun v h => OpOk.same hw fun η => (r_pickF (hc η) (opd_rp h))
    · trivial

def extractE (G : List (Nat × Sh)) (x : Operand) (i : Nat) : Ask OpR := Ask.of (opd G x) fun v => match v with
  | .tup l => Ask.of l[i]? fun p => .ret (resS (.vl p.1 p.2))
  | _ => .fail
theorem extractE_ok (hw : WF n env) {x : Operand} {i : Nat} : AskOk (OpOk P E N (.extract x i) ty n env G O) (extractE G x i) :=
  AskOk.of fun v h => by
    split
    · rename_i l
      exact AskOk.of fun p hp => OpOk.same hw fun η => (r_extract (opd_rp (c := ⟨n, env, η⟩) h) (by rw [List.getElem?_map, hp]; rfl))
    · trivial

def fieldE (P : Program) (G : List (Nat × Sh)) (t : TypeId) (x : Operand) (f : Nat) : Ask OpR :=
  Ask.of (match P.underlying t with | some (.struct fs) => fs[f]? | _ => none) fun fd =>
  Ask.of (aggT P fd.type) fun g => Ask.of (sizeT P fd.type) fun k => Ask.of (opd G x) fun v => match v with
    | .vl true l => bif g then .ret (resS (.vl true ((l.drop fd.offset).take k))) else Ask.of l[fd.offset]? fun a => .ret (resS (.vl false [a]))
    | _ => .fail
theorem fieldE_ok (hw : WF n env) {t : TypeId} {x : Operand} {f : Nat} : AskOk (OpOk P E N (.field t x f) ty n env G O) (fieldE P G t x f) :=
  AskOk.of fun fd hf => AskOk.of fun g hg => AskOk.of fun k hk => AskOk.of fun v h => by
    obtain ⟨fs, hu, hf⟩ : ∃ fs, P.underlying t = some (.struct fs) ∧ fs[f]? = some fd := by
      split at hf
      · rename_i fs hu; exact ⟨fs, hu, hf⟩
      · cases hf
    split
    · rename_i l
      cases g with
      | true => exact OpOk.same hw fun η => (r_field hu hf rfl (aggT_ok hg) (sizeT_ok hk) (opd_rp (c := ⟨n, env, η⟩) h) (by simp only [List.map_drop, List.map_take]))
      | false => exact AskOk.of fun a ha => OpOk.same hw fun η => (r_field1 hu hf rfl (aggT_ok hg) (opd_rp (c := ⟨n, env, η⟩) h) (by rw [List.getElem?_map, ha]; rfl))
    · trivial

/-! ### comparisons and arithmetic -/
def isShift : BinOp → Bool
  | .shl => true
  | .shr => true
  | _ => false
def intE (n : Nat) (env : List (Nat × Ent)) (G : List (Nat × Sh)) (b : BinOp) (x y : Operand) : Ask OpR :=
  Ask.of (opI env G x) fun u => Ask.of (opI env G y) fun v => if v.1 = u.1 ∨ isShift b = true then binI n b u.1 u.2 v.2 (opLit G y) else .fail
theorem intE_ok (hw : WF n env) {b : BinOp} {t yt : TypeId} {x y : Operand} : AskOk (OpOk P E N (.binOp b t x y yt) ty n env G O) (intE n env G b x y) :=
  AskOk.of fun u hu => AskOk.of fun v hv => by
    split
    · rename_i h
      refine binI_ok hw (k' := v.1) hu hv (h.imp id fun h => ?_)
      cases b <;> first | exact .inl rfl | exact .inr rfl | cases h
    · trivial

def boolE (P : Program) (n : Nat) (env : List (Nat × Ent)) (G : List (Nat × Sh)) (b : BinOp) (t : TypeId) (x y : Operand) : Ask OpR :=
  Ask.of (opB env G x) fun u => Ask.of (opB env G y) fun v => match P.underlying t, b with
    | some .bool, .eql => .ret (resD n .bool (u == v : Bool))
    | some .bool, .neq => .ret (resD n .bool (!(u == v) : Bool))
    | _, _ => .fail
theorem boolE_ok (hw : WF n env) {b : BinOp} {t yt : TypeId} {x y : Operand} : AskOk (OpOk P E N (.binOp b t x y yt) ty n env G O) (boolE P n env G b t x y) :=
  AskOk.of fun u hu => AskOk.of fun v hv => by
    have hx := fun η => opB_rp (n := n) (η := η) hu
    have hy := fun η => opB_rp (n := n) (η := η) hv
    split
    · rename_i h; exact OpOk.dat hw rfl fun η => (r_beql h (hx η) (hy η))
    · rename_i h; exact OpOk.dat hw rfl fun η => (r_bneq h (hx η) (hy η))
    · trivial

def strE (n : Nat) (env : List (Nat × Ent)) (G : List (Nat × Sh)) (b : BinOp) (x y : Operand) : Ask OpR :=
  Ask.of (opS env G x) fun u => Ask.of (opS env G y) fun v => match b with
    | .eql => .ret (resD n .bool (u.toList == v.toList : Bool))
    | .neq => .ret (resD n .bool (!(u.toList == v.toList) : Bool))
    | .lss => .ret (resD n .bool (Go.Op.bytesLess u.toList v.toList))
    | .geq => .ret (resD n .bool (!Go.Op.bytesLess u.toList v.toList : Bool))
    | .gtr => .ret (resD n .bool (!(Go.Op.bytesLess u.toList v.toList || u.toList == v.toList) : Bool))
    | .add => .bind (sconM u v) fun r => .ret (resD n .str r)
    | _ => .fail
theorem strE_ok (hw : WF n env) {b : BinOp} {t yt : TypeId} {x y : Operand} : AskOk (OpOk P E N (.binOp b t x y yt) ty n env G O) (strE n env G b x y) :=
  AskOk.of fun u hu => AskOk.of fun v hv => by
    have hx := fun η => opS_rp (n := n) (η := η) hu
    have hy := fun η => opS_rp (n := n) (η := η) hv
    split
    · exact OpOk.dat hw rfl fun η => (r_seql (hx η) (hy η))
    · exact OpOk.dat hw rfl fun η => (r_sneq (hx η) (hy η))
    · exact OpOk.dat hw rfl fun η => (r_slss (hx η) (hy η))
    · exact OpOk.dat hw rfl fun η => (r_sgeq (hx η) (hy η))
    · exact OpOk.dat hw rfl fun η => (r_sgtr (hx η) (hy η))
    · exact fun r hr => OpOk.dat hw rfl fun η => (r_sadd hr (hx η) (hy η))
    · trivial

/-- cells as_ data, word by word -/
def rdAll (env : List (Nat × Ent)) : List At → Option (List Dyn)
  | [] => some []
  | a :: l => (rdD env a).bind fun D => (rdAll env l).map (D :: ·)
theorem rdAll_rp {c : Cx} : ∀ {l : List At} {Ds : List Dyn}, rdAll c.env l = some Ds → l.map (At.rp c) = Ds.map Dyn.rp
  | [], _, h => by cases h; rfl
  | a :: l, Ds, h => by
    simp only [rdAll] at h
    obtain ⟨D, h1, h2⟩ := Option.bind_eq_some_iff.1 h
    obtain ⟨Ds', h3, rfl⟩ := Option.map_eq_some_iff.1 h2
    rw [List.map_cons, List.map_cons, (rdD_rp h1).1, rdAll_rp h3]
def opG (P : Program) [PTab P] (env : List (Nat × Ent)) (G : List (Nat × Sh)) (k : Nat) (x : Operand) : Option (SDen.den k) := match opd G x with
  | some (.vl true l) => (rdAll env l).bind (PTab.join (P := P) k)
  | _ => none
theorem opG_rp {η : Nat → Hd} {k : Nat} {x : Operand} {d : SDen.den k} (h : opG P env G k x = some d) : lkO (gma ⟨n, env, η⟩ G) x = some (ag ((SRep.rep k).cp d)) := by
  unfold opG at h
  split at h
  · rename_i l h1
    obtain ⟨Ds, h2, h3⟩ := Option.bind_eq_some_iff.1 h
    rw [opd_rp h1, PTab.join_ok k Ds d h3, ← rdAll_rp (c := ⟨n, env, η⟩) h2]; rfl
  · cases h

def strctE (P : Program) [PTab P] (n : Nat) (env : List (Nat × Ent)) (G : List (Nat × Sh)) (b : BinOp) (t : TypeId) (x y : Operand) : Ask OpR :=
  Ask.of (PTab.code P t) fun k => Ask.when (PTab.eqs P t k) (Ask.of (opG P env G k x) fun u => Ask.of (opG P env G k y) fun v => letI := PTab.deq (P := P) k; match b with
    | .eql => .ret (resD n .bool (decide (u = v)))
    | .neq => .ret (resD n .bool (!decide (u = v) : Bool))
    | _ => .fail)
theorem strctE_ok (hw : WF n env) {b : BinOp} {t yt : TypeId} {x y : Operand} : AskOk (OpOk P E N (.binOp b t x y yt) ty n env G O) (strctE P n env G b t x y) :=
  AskOk.of fun k _ => AskOk.when fun he => AskOk.of fun u hu => AskOk.of fun v hv => by
    letI := PTab.deq (P := P) k
    have heq : EqT P t (SRep.rep k) := PTab.eqs_ok t k he
    split
    · exact OpOk.dat hw rfl fun η => (r_steql heq (opG_rp hu) (opG_rp hv) rfl rfl)
    · exact OpOk.dat hw rfl fun η => (r_stneq heq (opG_rp hu) (opG_rp hv) rfl rfl)
    · trivial

/-- pointers to shared data against nil -/
def optE (P : Program) (n : Nat) (env : List (Nat × Ent)) (G : List (Nat × Sh)) (b : BinOp) (t : TypeId) (x y : Operand) : Ask OpR :=
  match b, P.underlying t, opA G y with
  | .neq, some (.pointer _), some .nilp => Ask.of (opA G x) fun a => match a with
    | .nilp => .ret (resD n .bool false)
    | .vr i => Ask.of (rdD env (.vr i)) fun D => match D with
      | ⟨.op t, d⟩ => .ret (resD n .bool d.isSome)
      | _ => .fail
    | _ => .fail
  | _, _, _ => .fail
theorem optE_ok (hw : WF n env) {b : BinOp} {t yt : TypeId} {x y : Operand} : AskOk (OpOk P E N (.binOp b t x y yt) ty n env G O) (optE P n env G b t x y) := by
  unfold optE
  split
  · rename_i e hu hy
    refine AskOk.of fun a ha => ?_
    have hy' := fun η => opA_rp (c := ⟨n, env, η⟩) hy
    split
    · exact OpOk.dat hw rfl fun η => (r_optneq (ρ := rB) (o := none) hu (opA_rp (c := ⟨n, env, η⟩) ha) (hy' η))
    · refine AskOk.of fun D hD => ?_
      split
      · rename_i t' d
        refine OpOk.dat hw rfl fun η => (r_optneq (ρ := t'.rep) (o := d) hu ?_ (hy' η))
        rw [opA_rp (c := ⟨n, env, η⟩) ha, (rdD_rp (c := ⟨n, env, η⟩) hD).1]; rfl
      · trivial
    · trivial
  · trivial

/-! ### arrays of numbers within variables -/
/-- cells that are the elements j, j + 1 .. of entry i -/
def runFrom (i : Nat) : Nat → Nat → List At → Bool
  | _, 0, _ => true
  | j, m + 1, .pj i' j' :: l => Nat.beq i' i && Nat.beq j' j && runFrom i (j + 1) m l
  | _, _ + 1, _ => false
theorem runFrom_get {i : Nat} : ∀ {m j : Nat} {l : List At}, runFrom i j m l = true → ∀ q, q < m → l[q]? = some (.pj i (j + q))
  | 0, _, _, _, q, hq => by omega
  | m + 1, j, [], h, q, hq => by cases h
  | m + 1, j, a :: l, h, q, hq => by
    cases a with
    | pj i' j' =>
      simp only [runFrom, Bool.and_eq_true] at h
      obtain ⟨⟨h1, h2⟩, h3⟩ := h
      cases q with
      | zero => rw [Nat.eq_of_beq_eq_true h1, Nat.eq_of_beq_eq_true h2]; rfl
      | succ q =>
        have := runFrom_get h3 q (by omega)
        rw [List.getElem?_cons_succ, this, show j + (q + 1) = j + 1 + q from by omega]
    | _ => cases h
def runOf (env : List (Nat × Ent)) (len : Nat) (l : List At) : Option (Nat × IntKind × List Int) := match l with
  | .pj i _ :: _ => match lkE env i with
    | some ⟨.vec k, d, _⟩ => bif runFrom i 0 len l then some (i, k, d) else none
    | _ => none
  | _ => none
theorem runOf_ok {len : Nat} {l : List At} {i : Nat} {k : IntKind} {d : List Int} (h : runOf env len l = some (i, k, d)) : (∃ s, lkE env i = some ⟨.vec k, d, s⟩) ∧ ∀ q, q < len → l[q]? = some (.pj i q) := by
  unfold runOf at h
  split at h
  · rename_i i' j' l'
    split at h
    · rename_i k' d' s he
      cases hb : runFrom i' 0 len (.pj i' j' :: l') with
      | false => rw [hb] at h; cases h
      | true =>
        rw [hb] at h; cases h
        exact ⟨⟨s, he⟩, fun q hq => by have := runFrom_get hb q hq; rwa [Nat.zero_add] at this⟩
    · cases h
  · cases h
theorem pj_rp {c : Cx} {i j : Nat} {k : IntKind} {d : List Int} {s : Option Src} {x : Int} (he : lkE c.env i = some ⟨.vec k, d, s⟩) (hx : d[j]? = some x) : (At.pj i j).rp c = iv k x := by
  simp only [At.rp, he, pjG, hx]
theorem run_map {c : Cx} {len : Nat} {l : List At} {i : Nat} {k : IntKind} {d : List Int} (h : runOf c.env len l = some (i, k, d)) (hl : l.length = len) (hd : d.length = len) : l.map (At.rp c) = d.map (iv k) := by
  obtain ⟨⟨s, he⟩, hr⟩ := runOf_ok h
  refine List.ext_getElem? fun q => ?_
  rw [List.getElem?_map, List.getElem?_map]
  by_cases hq : q < len
  · rw [hr q hq, List.getElem?_eq_getElem (show q < d.length by omega), Option.map_some, Option.map_some, pj_rp he (List.getElem?_eq_getElem (by omega))]
  · rw [List.getElem?_eq_none (by omega), List.getElem?_eq_none (by omega)]; rfl
def iRep (k : IntKind) (n : Nat) : Rep { l : List Int // l.length = n } where
  size := n
  agg := true
  cp l := l.1.map (iv k)
  len l := by rw [List.length_map, l.2]
  at_ l φ hφ := by obtain ⟨x, _, rfl⟩ := List.mem_map.1 hφ; exact iv_at
  one h := by cases h
theorem eqs_ints {e : TypeId} {k : IntKind} (hu : P.underlying e = some (.int k)) {F : FP} {w : World} : ∀ {x y : List Int} {cs ds : List Value}, x.length = y.length → AllP F w (x.map (iv k)) cs → AllP F w (y.map (iv k)) ds → ∃ r, EqAs P e cs ds r ∧ r = decide (x = y)
  | [], [], [], [], _, _, _ => ⟨true, rfl, by simp⟩
  | a :: x, b :: y, c :: cs, d :: ds, hl, ⟨h1, h2⟩, ⟨h3, h4⟩ => by
    obtain ⟨r, h5, h6⟩ := eqs_ints hu (by simpa using hl) h2 h4
    obtain rfl : c = .int k a := h1
    obtain rfl : d = .int k b := h3
    refine ⟨_, ⟨_, r, .int hu, h5, rfl⟩, ?_⟩
    rw [h6]
    by_cases e1 : a = b
    · subst e1; simp
    · simp [e1]
  | [], _ :: _, _, _, h, _, _ => by simp at h
  | _ :: _, [], _, _, h, _, _ => by simp at h
  | [], [], _ :: _, _, _, h, _ => h.elim
  | [], [], [], _ :: _, _, _, h => h.elim
  | _ :: _, _ :: _, [], _, _, h, _ => h.elim
  | _ :: _, _ :: _, _ :: _, [], _, _, h => h.elim
theorem eqT_ints {t e : TypeId} {n : Nat} {k : IntKind} {i : TypeInfo} (hu : P.underlying t = some (.array n e)) (hi : P.info? e = some i) (h1 : i.size = 1) (he : P.underlying e = some (.int k)) (hg : P.eqGuardType P.depth t = false) : EqT P t (iRep k n) :=
  eqT_array hu hi h1 (fun w => by simp [isAgg, run_underlying he]) hg fun x y F w cs ds hc hd => by
    refine ⟨by rw [hc.length, (iRep k n).len]; rfl, ?_⟩
    obtain ⟨r, h2, h3⟩ := eqs_ints (x := x.1) (y := y.1) he (by rw [x.2, y.2]) hc hd
    exact ⟨r, h2, h3.trans (by rw [decide_eq_decide]; exact ⟨Subtype.ext, fun h => by rw [h]⟩)⟩
/-- two arrays of n numbers -/
def veqM (n : Nat) (x y : List Int) : Option Bool := if x.length = n ∧ y.length = n then some (decide (x = y)) else none
def arrE (P : Program) (n : Nat) (env : List (Nat × Ent)) (G : List (Nat × Sh)) (b : BinOp) (t : TypeId) (x y : Operand) : Ask OpR := match P.underlying t with
  | some (.array len e) => match P.underlying e, opd G x, opd G y with
    | some (.int k), some (.vl true l), some (.vl true l') => Ask.of (P.info? e) fun i => Ask.of (runOf env len l) fun u => Ask.of (runOf env len l') fun v =>
      Ask.when (Nat.beq l.length len && (Nat.beq l'.length len && ((u.2.1 == k) && ((v.2.1 == k) && (Nat.beq i.size 1 && !P.eqGuardType P.depth t))))) (match b with
        | .eql => .bind (veqM len u.2.2 v.2.2) fun r => .ret (resD n .bool r)
        | .neq => .bind (veqM len u.2.2 v.2.2) fun r => .ret (resD n .bool (!r : Bool))
        | _ => .fail)
    | _, _, _ => .fail
  | _ => .fail
theorem arrE_ok (hw : WF n env) {b : BinOp} {t yt : TypeId} {x y : Operand} : AskOk (OpOk P E N (.binOp b t x y yt) ty n env G O) (arrE P n env G b t x y) := by
  unfold arrE
  split
  · rename_i len e hu
    split
    · rename_i k l l' he hx hy
      refine AskOk.of fun i hi => AskOk.of fun u hu1 => AskOk.of fun v hv1 => AskOk.when fun hb => ?_
      simp only [Bool.and_eq_true, Bool.not_eq_true'] at hb
      obtain ⟨h1, h2, h3, h4, h5, h6⟩ := hb
      obtain ⟨ui, uk, ud⟩ := u
      obtain ⟨vi, vk, vd⟩ := v
      obtain rfl := eq_of_beq h3
      obtain rfl := eq_of_beq h4
      have hT := eqT_ints hu hi (Nat.eq_of_beq_eq_true h5) he h6
      have use : ∀ {r : Bool}, veqM len ud vd = some r → ∃ (hu : ud.length = len) (hv : vd.length = len), r = decide ((⟨ud, hu⟩ : { l : List Int // l.length = len }) = ⟨vd, hv⟩) ∧
          ∀ η, lkO (gma ⟨n, env, η⟩ G) x = some (ag ((iRep vk len).cp ⟨ud, hu⟩)) ∧ lkO (gma ⟨n, env, η⟩ G) y = some (ag ((iRep vk len).cp ⟨vd, hv⟩)) := fun {r} hr => by
        unfold veqM at hr
        split at hr
        · rename_i hlen
          refine ⟨hlen.1, hlen.2, ?_, fun η => ⟨?_, ?_⟩⟩
          · rw [← Option.some.inj hr, decide_eq_decide]; exact ⟨fun h => Subtype.ext h, fun h => congrArg Subtype.val h⟩
          · rw [opd_rp (c := ⟨n, env, η⟩) hx]; simp only [Sh.rp, vrp, cond_true]; rw [run_map (c := ⟨n, env, η⟩) hu1 (Nat.eq_of_beq_eq_true h1) hlen.1]; rfl
          · rw [opd_rp (c := ⟨n, env, η⟩) hy]; simp only [Sh.rp, vrp, cond_true]; rw [run_map (c := ⟨n, env, η⟩) hv1 (Nat.eq_of_beq_eq_true h2) hlen.2]; rfl
        · cases hr
      split
      · intro r hr
        obtain ⟨hu', hv', e1, h7⟩ := use hr
        subst e1
        exact OpOk.dat hw rfl fun η => r_steql hT (h7 η).1 (h7 η).2 rfl rfl
      · intro r hr
        obtain ⟨hu', hv', e1, h7⟩ := use hr
        subst e1
        exact OpOk.dat hw rfl fun η => r_stneq hT (h7 η).1 (h7 η).2 rfl rfl
      · trivial
    · trivial
  · trivial

def binE (P : Program) [PTab P] (n : Nat) (env : List (Nat × Ent)) (G : List (Nat × Sh)) (b : BinOp) (t : TypeId) (x y : Operand) : Ask OpR :=
  match opd G x with
  | some (.vl true _) => bif (PTab.code P t).isSome then strctE P n env G b t x y else arrE P n env G b t x y
  | _ => match (opD env G x).map (fun D => D.t) with
    | some (Ty.int _) => intE n env G b x y
    | some Ty.bool => boolE P n env G b t x y
    | some Ty.str => strE n env G b x y
    | _ => optE P n env G b t x y
theorem binE_ok (hw : WF n env) {b : BinOp} {t yt : TypeId} {x y : Operand} : AskOk (OpOk P E N (.binOp b t x y yt) ty n env G O) (binE P n env G b t x y) := by
  unfold binE
  split
  · cases (PTab.code P t).isSome with
    | true => exact strctE_ok hw
    | false => exact arrE_ok hw
  · split
    · exact intE_ok hw
    · exact boolE_ok hw
    · exact strE_ok hw
    · exact optE_ok hw

def unE (n : Nat) (env : List (Nat × Ent)) (G : List (Nat × Sh)) (b : UnOp) (x : Operand) : Ask OpR := match b with
  | .not => Ask.of (opB env G x) fun u => .ret (resD n .bool (!u : Bool))
  | .neg => Ask.of (opI env G x) fun u => .ret (resD n (.int u.1) (ineg u.1 u.2))
  | .xor => Ask.of (opI env G x) fun u => .ret (resD n (.int u.1) (icom u.1 u.2))
  | _ => .fail
theorem unE_ok (hw : WF n env) {b : UnOp} {t : TypeId} {x : Operand} : AskOk (OpOk P E N (.unOp b t x) ty n env G O) (unE n env G b x) := by
  cases b with
  | not => exact AskOk.of fun u hu => OpOk.dat hw rfl fun η => (r_not (opB_rp hu))
  | neg => exact AskOk.of fun u hu => OpOk.dat hw rfl fun η => (r_neg (opI_rp hu))
  | xor => exact AskOk.of fun u hu => OpOk.dat hw rfl fun η => (r_com (opI_rp hu))
  | plus => trivial

def convE (P : Program) (n : Nat) (env : List (Nat × Ent)) (G : List (Nat × Sh)) (s d : TypeId) (x : Operand) : Ask OpR := match P.underlying s, P.underlying d with
  | some (.int _), some (.int k') => Ask.of (opI env G x) fun u => .ret (resD n (.int k') (k'.wrap u.2))
  | some (.slice e), some .string => match P.underlying e with
    | some (.int .u8) => Ask.of (opL env G x) fun l => match l with
      | ⟨.int .u8, l⟩ => .ret (resD n .str (bstr l))
      | _ => .fail
    | _ => .fail
  | _, _ => .fail
theorem convE_ok (hw : WF n env) {s d : TypeId} {x : Operand} : AskOk (OpOk P E N (.convert s d x) ty n env G O) (convE P n env G s d x) := by
  unfold convE
  split
  · rename_i h1 h2
    exact AskOk.of fun u hu => OpOk.dat hw rfl fun η => (r_conv h2 (by rw [h1]; rfl) (opI_rp hu))
  · rename_i e h1 h2
    split
    · rename_i h3
      refine AskOk.of fun l hl => ?_
      split
      · exact OpOk.dat hw rfl fun η => (r_b2s h1 h2 h3 (opL_rp hl))
      · trivial
    · trivial
  · trivial

def nilcE (n : Nat) (env : List (Nat × Ent)) (G : List (Nat × Sh)) (x : Operand) : Ask OpR := Ask.of (opA G x) fun a => match a with
  | .ptr o h off => .ret (resS (.vl false [.ptr o h off]))
  | .vr i => Ask.of (rdD env (.vr i)) fun D => match D with
    | ⟨.op t, d⟩ => .bind d fun y => .ret ⟨.vl false [.ea n], [⟨t, y, none⟩], 0, [], []⟩
    | _ => .fail
  | _ => .fail
theorem nilcE_ok (hw : WF n env) {x : Operand} : AskOk (OpOk P E N (.nilCheck x) ty n env G O) (nilcE n env G x) :=
  AskOk.of fun a ha => by
    split
    · rename_i o h off
      refine OpOk.same hw fun η => ?_
      have h1 := opA_rp (c := ⟨n, env, η⟩) ha
      cases hb : Nat.blt h n with
      | true =>
        have e : (At.ptr o h off).rp ⟨n, env, η⟩ = pv (ptr (η h).b off) := by simp only [At.rp, hb, cond_true]
        show Rd _ _ _ _ _ _ _ _ ((At.ptr o h off).rp ⟨n, env, η⟩)
        rw [e] at h1 ⊢
        exact r_nilc h1
      | false =>
        have e : (At.ptr o h off).rp ⟨n, env, η⟩ = RP.no := by simp only [At.rp, hb, cond_false]
        rw [e] at h1
        exact fun a w hs => (hs.op h1).elim
    · refine AskOk.of fun D hD => ?_
      split
      · rename_i t' d
        intro y hy
        refine OpOk.rd' hw (fun e' he' => by rw [List.mem_singleton.1 he']; trivial) fun η => ?_
        have h1 := opA_rp (c := ⟨n, env, η⟩) ha
        rw [(rdD_rp (c := ⟨n, env, η⟩) hD).1] at h1
        have h2 := r_optc (P := P) (E := E) (N := N) (Ω := oma ⟨n, env, η⟩ O) (ty := ty) (ρ := t'.rep) hy h1
        simp only [Sh.rp, vrp, cond_false, List.map_cons, List.headD_cons, At.rp, keyed, lkE_cons, if_true]
        exact h2
      · trivial
    · trivial
end Go.Dc

/-! Operations on memory. -/
namespace Go.Dc
variable [DrawMode] {R : Type} {P : Program} [PTab P] {E : Env} {N : Nat} {K : KT R} {m : Option R} {op : Op} {ty : TypeId} {n : Nat} {env : List (Nat × Ent)} {G : List (Nat × Sh)} {O : List MO}

def updH (η : Nat → Hd) (k : Nat) (d : Hd) : Nat → Hd := fun i => bif Nat.beq i k then d else η i
theorem updH_at {η : Nat → Hd} {k : Nat} {d : Hd} : updH η k d k = d := by simp [updH]
theorem updH_lt {η : Nat → Hd} {k h : Nat} {d : Hd} (hh : h < k) : updH η k d h = η h := by simp only [updH]; rw [beq_ne (by omega)]; rfl

theorem oa_one {α : Type} {ρ : Rep α} {hv : Value} {S : List Nat} {d : List α} {F : FP} {w : World} (h : (oa ρ hv S d).h F w) : hv.oneCell' = true := by
  obtain ⟨a, c, e, _⟩ := h; rw [e]; rfl

theorem Sat.mem_ob {Γ : List (Nat × RP)} {Ω : List OB} {a : Act} {w : World} (hs : Sat E N Γ Ω a w) {o : OB} (ho : o ∈ Ω) : o.h (fr E Ω) w := hs.ob o ho

/-- a new slice of ours -/
theorem OpOk.newA (hw : WF n env) {t : Ty} {d : List t.den} (h : ∀ η, St P E N op ty (gma ⟨n, env, η⟩ G) (oma ⟨n, env, η⟩ O) [] (fun X : Value × List Nat => pv X.1) (fun X => oma ⟨n, env, η⟩ O ++ [oa t.rep X.1 X.2 d])) :
    OpOk P E N op ty n env G O ⟨.vl false [.own O.length (n + 1)], [⟨.sl t, d, none⟩], 1, [], [.oa (n + 1) n]⟩ := by
  have hsrc : ∀ e ∈ [(⟨.sl t, d, none⟩ : Ent)], SrcOk env e := fun e he => by rw [List.mem_singleton.1 he]; exact .none rfl
  refine ⟨hsrc, (fun _ _ h => by cases h), fun η => ?_⟩
  have h := h η
  refine h.to' fun X a w hs => ?_
  have h1 := oa_one (hs.mem_ob (o := oa t.rep X.1 X.2 d) (by simp))
  refine ⟨⟨updH η (n + 1) ⟨X.1, X.2, 0, h1⟩, fun k hk => updH_lt (by omega)⟩, ?_, ?_⟩
  · simp only [OpR.O', updO]
    refine oma_add (OpOk.ext hw (r := ⟨.vl false [.own O.length (n + 1)], [⟨.sl t, d, none⟩], 1, [], [.oa (n + 1) n]⟩) hsrc ⟨updH η (n + 1) ⟨X.1, X.2, 0, h1⟩, fun k hk => updH_lt (by omega)⟩) ?_ hs
    simp only [MO.ob, OpR.cx', OpR.env', OpR.n', keyed, lkE_cons, if_true, Option.bind_some, Dyn.ob, Ent.asSl, updH_at]
    rw [show Nat.blt (n + 1) (n + [(⟨.sl t, d, none⟩ : Ent)].length + 1) = true from by simp [Nat.blt_eq]]
    rfl
  · simp only [Sh.rp, vrp, cond_false, List.map_cons, List.headD_cons, At.rp, OpR.cx', OpR.n', updH_at]
    rw [show Nat.blt (n + 1) (n + [(⟨.sl t, d, none⟩ : Ent)].length + 1) = true from by simp [Nat.blt_eq]]
    rfl

/-- a slice of ours changes, its handle too -/
theorem OpOk.chgA (hw : WF n env) {t : Ty} {d : List t.den} {j : Nat} (h : ∀ η, St P E N op ty (gma ⟨n, env, η⟩ G) (oma ⟨n, env, η⟩ O) [j] (fun X : Value × List Nat => pv X.1) (fun X => (oma ⟨n, env, η⟩ O).set j (oa t.rep X.1 X.2 d))) (hj : j < O.length) :
    OpOk P E N op ty n env G O ⟨.vl false [.own j (n + 1)], [⟨.sl t, d, none⟩], 1, [(j, .oa (n + 1) n)], []⟩ := by
  have hsrc : ∀ e ∈ [(⟨.sl t, d, none⟩ : Ent)], SrcOk env e := fun e he => by rw [List.mem_singleton.1 he]; exact .none rfl
  refine ⟨hsrc, (fun _ h => by cases h), fun η => ?_⟩
  have h := h η
  refine h.to' fun X a w hs => ?_
  have h1 := oa_one (hs.mem_ob (o := oa t.rep X.1 X.2 d) (List.mem_iff_getElem?.2 ⟨j, by rw [List.getElem?_set_self (by simpa [oma] using hj)]⟩))
  refine ⟨⟨updH η (n + 1) ⟨X.1, X.2, 0, h1⟩, fun k hk => updH_lt (by omega)⟩, ?_, ?_⟩
  · simp only [OpR.O', updO, List.append_nil]
    refine oma_set (OpOk.ext hw (r := ⟨.vl false [.own j (n + 1)], [⟨.sl t, d, none⟩], 1, [(j, .oa (n + 1) n)], []⟩) hsrc ⟨updH η (n + 1) ⟨X.1, X.2, 0, h1⟩, fun k hk => updH_lt (by omega)⟩) ?_ hs
    simp only [MO.ob, OpR.cx', OpR.env', OpR.n', keyed, lkE_cons, if_true, Option.bind_some, Dyn.ob, Ent.asSl, updH_at]
    rw [show Nat.blt (n + 1) (n + [(⟨.sl t, d, none⟩ : Ent)].length + 1) = true from by simp [Nat.blt_eq]]
    rfl
  · simp only [Sh.rp, vrp, cond_false, List.map_cons, List.headD_cons, At.rp, OpR.cx', OpR.n', updH_at]
    rw [show Nat.blt (n + 1) (n + [(⟨.sl t, d, none⟩ : Ent)].length + 1) = true from by simp [Nat.blt_eq]]
    rfl

/-- a new variable -/
theorem OpOk.newC (hw : WF n env) {l : List At} (h : ∀ η, St P E N op ty (gma ⟨n, env, η⟩ G) (oma ⟨n, env, η⟩ O) [] (fun b : Nat => pv (ptr b 0)) (fun b => oma ⟨n, env, η⟩ O ++ [oc b (l.map (At.rp ⟨n, env, η⟩))])) :
    OpOk P E N op ty n env G O ⟨.vl false [.ptr O.length n 0], [], 1, [], [.oc n l]⟩ := by
  have hsrc : ∀ e ∈ ([] : List Ent), SrcOk env e := fun e he => by simp at he
  refine ⟨hsrc, (fun _ _ h => by cases h), fun η => ?_⟩
  have h := h η
  refine h.to' fun b a w hs => ?_
  have hx := OpOk.ext hw (r := ⟨.vl false [.ptr O.length n 0], [], 1, [], [.oc n l]⟩) hsrc ⟨updH η n ⟨.bool true, [], b, rfl⟩, fun k hk => updH_lt (by omega)⟩
  refine ⟨⟨updH η n ⟨.bool true, [], b, rfl⟩, fun k hk => updH_lt (by omega)⟩, ?_, ?_⟩
  · simp only [OpR.O', updO]
    refine oma_add hx ?_ hs
    obtain ⟨cells, ty', _, hl⟩ := hs.mem_ob (o := oc b (l.map (At.rp ⟨n, env, η⟩))) (by simp)
    simp only [MO.ob]
    rw [atl_eq hx hl]
    simp only [OpR.cx', OpR.n', updH_at]
    rw [show Nat.blt n (n + ([] : List Ent).length + 1) = true from by simp [Nat.blt_eq]]
    rfl
  · simp only [Sh.rp, vrp, cond_false, List.map_cons, List.headD_cons, At.rp, OpR.cx', OpR.n', updH_at]
    rw [show Nat.blt n (n + ([] : List Ent).length + 1) = true from by simp [Nat.blt_eq]]
    rfl

/-- a variable is written -/
theorem OpOk.setC (hw : WF n env) {l : List At} {j k : Nat} {X : Type} [Inhabited X] (hj : j < O.length) (hk : Nat.blt k n = true)
    (h : ∀ η, St P E N op ty (gma ⟨n, env, η⟩ G) (oma ⟨n, env, η⟩ O) [j] (fun _ : X => pv Go.undef) (fun _ => (oma ⟨n, env, η⟩ O).set j (oc (η k).b (l.map (At.rp ⟨n, env, η⟩))))) :
    OpOk P E N op ty n env G O ⟨.undef, [], 0, [(j, .oc k l)], []⟩ := by
  have hsrc : ∀ e ∈ ([] : List Ent), SrcOk env e := fun e he => by simp at he
  refine ⟨hsrc, (fun _ h => by cases h), fun η => ?_⟩
  have h := h η
  refine h.to' fun x a w hs => ?_
  refine ⟨⟨η, fun _ _ => rfl⟩, ?_, rfl⟩
  simp only [OpR.O', updO, List.append_nil]
  refine oma_set (OpOk.ext hw (r := ⟨.undef, [], 0, [(j, .oc k l)], []⟩) hsrc ⟨η, fun _ _ => rfl⟩) ?_ hs
  simp only [MO.ob, OpR.cx', OpR.n', OpR.env', keyed]
  rw [show Nat.blt k (n + ([] : List Ent).length + 0) = true from by simpa using hk]
  rfl

/-- the data of a slice of ours change -/
theorem OpOk.setD (hw : WF n env) {t : Ty} {d : List t.den} {j k : Nat} {X : Type} [Inhabited X] (hk : Nat.blt k n = true)
    (h : ∀ η, St P E N op ty (gma ⟨n, env, η⟩ G) (oma ⟨n, env, η⟩ O) [j] (fun _ : X => pv Go.undef) (fun _ => (oma ⟨n, env, η⟩ O).set j (oa t.rep (η k).hv (η k).S d))) :
    OpOk P E N op ty n env G O ⟨.undef, [⟨.sl t, d, none⟩], 0, [(j, .oa k n)], []⟩ := by
  have hsrc : ∀ e ∈ [(⟨.sl t, d, none⟩ : Ent)], SrcOk env e := fun e he => by rw [List.mem_singleton.1 he]; exact .none rfl
  refine ⟨hsrc, (fun _ h => by cases h), fun η => ?_⟩
  have h := h η
  refine h.to' fun x a w hs => ?_
  refine ⟨⟨η, fun _ _ => rfl⟩, ?_, rfl⟩
  simp only [OpR.O', updO, List.append_nil]
  refine oma_set (OpOk.ext hw (r := ⟨.undef, [⟨.sl t, d, none⟩], 0, [(j, .oa k n)], []⟩) hsrc ⟨η, fun _ _ => rfl⟩) ?_ hs
  simp only [MO.ob, OpR.cx', OpR.n', OpR.env', keyed, lkE_cons, if_true, Option.bind_some, Dyn.ob, Ent.asSl]
  rw [blt_mono hk (show n ≤ n + [(⟨.sl t, d, none⟩ : Ent)].length + 0 from by omega)]
  rfl

/-- a new array of numbers -/
theorem OpOk.newV (hw : WF n env) {k : IntKind} {d : List Int} (h : ∀ η, St P E N op ty (gma ⟨n, env, η⟩ G) (oma ⟨n, env, η⟩ O) [] (fun b : Nat => pv (Dc.ptr b 0)) (fun b => oma ⟨n, env, η⟩ O ++ [oc b (d.map (iv k))])) :
    OpOk P E N op ty n env G O ⟨.vl false [.ptr O.length (n + 1) 0], [⟨.vec k, d, none⟩], 1, [], [.oa (n + 1) n]⟩ := by
  have hsrc : ∀ e ∈ [(⟨.vec k, d, none⟩ : Ent)], SrcOk env e := fun e he => by rw [List.mem_singleton.1 he]; exact .none rfl
  refine ⟨hsrc, (fun _ _ h => by cases h), fun η => ?_⟩
  have h := h η
  refine h.to' fun b a w hs => ?_
  refine ⟨⟨updH η (n + 1) ⟨.bool true, [], b, rfl⟩, fun k hk => updH_lt (by omega)⟩, ?_, ?_⟩
  · simp only [OpR.O', updO]
    refine oma_add (OpOk.ext hw (r := ⟨.vl false [.ptr O.length (n + 1) 0], [⟨.vec k, d, none⟩], 1, [], [.oa (n + 1) n]⟩) hsrc ⟨updH η (n + 1) ⟨.bool true, [], b, rfl⟩, fun k hk => updH_lt (by omega)⟩) ?_ hs
    simp only [MO.ob, OpR.cx', OpR.env', OpR.n', keyed, lkE_cons, if_true, Dyn.ob, updH_at]
    rw [show Nat.blt (n + 1) (n + [(⟨.vec k, d, none⟩ : Ent)].length + 1) = true from by simp [Nat.blt_eq]]
    rfl
  · simp only [Sh.rp, vrp, cond_false, List.map_cons, List.headD_cons, At.rp, OpR.cx', OpR.n', updH_at]
    rw [show Nat.blt (n + 1) (n + [(⟨.vec k, d, none⟩ : Ent)].length + 1) = true from by simp [Nat.blt_eq]]
    rfl
/-- its numbers change -/
theorem OpOk.setV (hw : WF n env) {kd : IntKind} {d : List Int} {j k : Nat} {X : Type} [Inhabited X] (hk : Nat.blt k n = true)
    (h : ∀ η, St P E N op ty (gma ⟨n, env, η⟩ G) (oma ⟨n, env, η⟩ O) [j] (fun _ : X => pv Go.undef) (fun _ => (oma ⟨n, env, η⟩ O).set j (oc (η k).b (d.map (iv kd))))) :
    OpOk P E N op ty n env G O ⟨.undef, [⟨.vec kd, d, none⟩], 0, [(j, .oa k n)], []⟩ := by
  have hsrc : ∀ e ∈ [(⟨.vec kd, d, none⟩ : Ent)], SrcOk env e := fun e he => by rw [List.mem_singleton.1 he]; exact .none rfl
  refine ⟨hsrc, (fun _ h => by cases h), fun η => ?_⟩
  have h := h η
  refine h.to' fun x a w hs => ?_
  refine ⟨⟨η, fun _ _ => rfl⟩, ?_, rfl⟩
  simp only [OpR.O', updO, List.append_nil]
  refine oma_set (OpOk.ext hw (r := ⟨.undef, [⟨.vec kd, d, none⟩], 0, [(j, .oa k n)], []⟩) hsrc ⟨η, fun _ _ => rfl⟩) ?_ hs
  simp only [MO.ob, OpR.cx', OpR.n', OpR.env', keyed, lkE_cons, if_true, Dyn.ob]
  rw [blt_mono hk (show n ≤ n + [(⟨.vec kd, d, none⟩ : Ent)].length + 0 from by omega)]
  rfl

/-- data that the operation makes -/
theorem OpOk.newD (hw : WF n env) (hq : isQuiet op = false) {t : Ty} (ht : t.one = true) {d : t.den} {X : Type} (h : ∀ η, St P E N op ty (gma ⟨n, env, η⟩ G) (oma ⟨n, env, η⟩ O) [] (fun _ : X => sh t.rep d) (fun _ => oma ⟨n, env, η⟩ O)) :
    OpOk P E N op ty n env G O (resD n t d) := by
  have hsrc : ∀ e ∈ [(⟨t, d, none⟩ : Ent)], SrcOk env e := fun e he => by rw [List.mem_singleton.1 he]; exact .none rfl
  refine ⟨hsrc, (fun h => by rw [hq] at h; cases h), fun η => ?_⟩
  have h := h η
  refine h.to' fun x a w hs => ?_
  refine ⟨⟨η, fun _ _ => rfl⟩, ?_, ?_⟩
  · show oma _ (O ++ []) = _
    rw [List.append_nil]
    exact oma_good (OpOk.ext hw (r := resD n t d) hsrc ⟨η, fun _ _ => rfl⟩) hs
  · exact vr_rp ht

/-! ### facts about atoms -/
/-- slices of ours: where they stand, their data -/
def ownA (n : Nat) (env : List (Nat × Ent)) (O : List MO) (o h : Nat) : Option (Nat × (t : Ty) × List t.den) := match O[o]? with
  | some (.oa h' i) => bif Nat.beq h' h && Nat.blt h n then ((lkE env i).bind Ent.asSl).map fun p => (i, p) else none
  | _ => none
theorem ownA_ok {o h i : Nat} {t : Ty} {d : List t.den} (hh : ownA n env O o h = some (i, ⟨t, d⟩)) :
    Nat.blt h n = true ∧ o < O.length ∧ (∃ s, lkE env i = some ⟨.sl t, d, s⟩) ∧ ∀ η, (oma ⟨n, env, η⟩ O)[o]? = some (oa t.rep (η h).hv (η h).S d) := by
  unfold ownA at hh
  split at hh
  · rename_i h' i' ho
    cases hb : Nat.beq h' h && Nat.blt h n with
    | false => rw [hb] at hh; cases hh
    | true =>
      rw [hb] at hh
      simp only [cond_true, Option.map_eq_some_iff, Prod.mk.injEq] at hh
      obtain ⟨p, hp, rfl, rfl⟩ := hh
      obtain ⟨e, he, hs⟩ := Option.bind_eq_some_iff.1 hp
      obtain ⟨s, rfl⟩ := asSl_eq hs
      simp only [Bool.and_eq_true] at hb
      obtain ⟨h1, h2⟩ := hb
      obtain rfl := Nat.eq_of_beq_eq_true h1
      refine ⟨h2, (List.getElem?_eq_some_iff.1 ho).1, ⟨s, he⟩, fun η => ?_⟩
      simp only [oma, List.getElem?_map, ho, Option.map_some, MO.ob, he, Option.bind_some, Dyn.ob, Ent.asSl, h2, cond_true]
  · cases hh

/-- slices of ours and maps -/
def anyA (n : Nat) (env : List (Nat × Ent)) (O : List MO) (o h : Nat) : Option (Nat × Dyn) := match O[o]? with
  | some (.oa h' i) => bif Nat.beq h' h && Nat.blt h n then (lkE env i).map fun e => (i, ⟨e.t, e.d⟩) else none
  | _ => none
theorem anyA_ok {o h i : Nat} {D : Dyn} (hh : anyA n env O o h = some (i, D)) :
    Nat.blt h n = true ∧ o < O.length ∧ (∃ s, lkE env i = some ⟨D.t, D.d, s⟩) ∧ ∀ η, (oma ⟨n, env, η⟩ O)[o]? = some (D.ob (η h)) := by
  unfold anyA at hh
  split at hh
  · rename_i h' i' ho
    cases hb : Nat.beq h' h && Nat.blt h n with
    | false => rw [hb] at hh; cases hh
    | true =>
      rw [hb] at hh
      obtain ⟨e, he, hs⟩ := Option.map_eq_some_iff.1 hh
      cases hs
      simp only [Bool.and_eq_true] at hb
      obtain ⟨h1, h2⟩ := hb
      obtain rfl := Nat.eq_of_beq_eq_true h1
      refine ⟨h2, (List.getElem?_eq_some_iff.1 ho).1, ⟨e.src, he⟩, fun η => ?_⟩
      simp only [oma, List.getElem?_map, ho, Option.map_some, MO.ob, he, h2, cond_true]
  · cases hh

/-- variables: their cells -/
def varC (n : Nat) (O : List MO) (o h : Nat) : Option (List At) := match O[o]? with
  | some (.oc h' l) => bif Nat.beq h' h && Nat.blt h n then some l else none
  | _ => none
theorem varC_ok {o h : Nat} {l : List At} (hh : varC n O o h = some l) : Nat.blt h n = true ∧ o < O.length ∧ ∀ η, (oma ⟨n, env, η⟩ O)[o]? = some (oc (η h).b (l.map (At.rp ⟨n, env, η⟩))) := by
  unfold varC at hh
  split at hh
  · rename_i h' l' ho
    cases hb : Nat.beq h' h && Nat.blt h n with
    | false => rw [hb] at hh; cases hh
    | true =>
      rw [hb] at hh
      cases hh
      simp only [Bool.and_eq_true] at hb
      obtain ⟨h1, h2⟩ := hb
      obtain rfl := Nat.eq_of_beq_eq_true h1
      refine ⟨h2, (List.getElem?_eq_some_iff.1 ho).1, fun η => ?_⟩
      simp only [oma, List.getElem?_map, ho, Option.map_some]
      rw [oc_ob h2]
  · cases hh
end Go.Dc

/-! Loads, stores, addresses, new memory. -/
namespace Go.Dc
variable [DrawMode] {R : Type} {P : Program} [PTab P] {E : Env} {N : Nat} {K : KT R} {m : Option R} {op : Op} {ty : TypeId} {n : Nat} {env : List (Nat × Ent)} {G : List (Nat × Sh)} {O : List MO}

/-! ### addresses of fields -/
def strctF (P : Program) (t : TypeId) (f : Nat) : Option Go.Field := match P.underlying t with
  | some (.struct fs) => fs[f]?
  | _ => none
theorem strctF_ok {t : TypeId} {f : Nat} {fd : Go.Field} (h : strctF P t f = some fd) : ∃ fs, P.underlying t = some (.struct fs) ∧ fs[f]? = some fd := by
  unfold strctF at h
  split at h
  · rename_i fs hu; exact ⟨fs, hu, h⟩
  · cases h

/-- the part of an entry that a field is -/
def fldE (P : Program) [PTab P] (e : Ent) (f : Nat) : Option (Nat × Dyn) := match e with
  | ⟨.st k, d, _⟩ => PTab.fld (P := P) k f d
  | _ => none
theorem fldE_ok {e : Ent} {f fo : Nat} {D : Dyn} (h : fldE P e f = some (fo, D)) : ((e.t.rep.cp e.d).drop fo).take D.t.rep.size = D.t.rep.cp D.d ∧ fo + D.t.rep.size ≤ e.t.rep.size := by
  unfold fldE at h
  split at h
  · rename_i k d s; exact PTab.fld_ok k f d fo D h
  · cases h

def ownE (n : Nat) (env : List (Nat × Ent)) (O : List MO) (o h y : Nat) : Option (Ent × Int × (t : Ty) × List t.den) := match lkE env y with
  | some ⟨t, d, some (.el ds ix)⟩ => (ownA n env O o h).bind fun p => bif Nat.beq p.1 ds then some (⟨t, d, some (.el ds ix)⟩, ix, p.2) else none
  | _ => none
/-- an element of a slice of ours -/
theorem ownE_ok (hw : WF n env) {o h y : Nat} {e : Ent} {ix : Int} {p : (t : Ty) × List t.den} (hh : ownE n env O o h y = some (e, ix, p)) :
    lkE env y = some e ∧ (∃ ds, e.src = some (.el ds ix)) ∧ ∃ l : List e.t.den, p = ⟨e.t, l⟩ ∧ idxM l ix = some e.d ∧ Nat.blt h n = true ∧ o < O.length ∧ ∀ η, (oma ⟨n, env, η⟩ O)[o]? = some (oa e.t.rep (η h).hv (η h).S l) := by
  unfold ownE at hh
  split at hh
  · rename_i t d ds ix' he
    obtain ⟨q, hq, h2⟩ := Option.bind_eq_some_iff.1 hh
    cases hb : Nat.beq q.1 ds with
    | false => rw [hb] at h2; cases h2
    | true =>
      rw [hb] at h2
      simp only [cond_true, Option.some.injEq, Prod.mk.injEq] at h2
      obtain ⟨rfl, rfl, rfl⟩ := h2
      obtain ⟨i, t', l⟩ := q
      obtain ⟨h3, h4, ⟨s, h5⟩, h6⟩ := ownA_ok hq
      obtain rfl := Nat.eq_of_beq_eq_true hb
      have h7 := hw.src y _ he
      unfold SrcOk at h7
      obtain ⟨l', s', h8, h9⟩ := h7
      dsimp only at h8
      rw [h5] at h8
      cases h8
      exact ⟨he, ⟨_, rfl⟩, l, rfl, h9, h3, h4, h6⟩
  · cases hh

/-! ### arrays of numbers as_ variables -/
def vecA (n : Nat) (env : List (Nat × Ent)) (O : List MO) (o h : Nat) : Option (Nat × IntKind × List Int) := match anyA n env O o h with
  | some (i, ⟨.vec k, d⟩) => some (i, k, d)
  | _ => none
theorem vecA_ok {o h i : Nat} {k : IntKind} {d : List Int} (hh : vecA n env O o h = some (i, k, d)) :
    Nat.blt h n = true ∧ o < O.length ∧ (∃ s, lkE env i = some ⟨.vec k, d, s⟩) ∧ ∀ η, (oma ⟨n, env, η⟩ O)[o]? = some (oc (η h).b (d.map (iv k))) := by
  unfold vecA at hh
  split at hh
  · rename_i i' k' d' h1
    cases hh
    obtain ⟨h2, h3, h4, h5⟩ := anyA_ok h1
    exact ⟨h2, h3, h4, h5⟩
  · cases hh
/-- an element of such an array: where it stands, its number -/
def vecE (n : Nat) (env : List (Nat × Ent)) (O : List MO) (o h y : Nat) : Option (IntKind × Int × Int × List Int) := match lkE env y with
  | some ⟨.int k, z, some (.ve ds ix)⟩ => (vecA n env O o h).bind fun p => bif Nat.beq p.1 ds && (p.2.1 == k) then some (k, z, ix, p.2.2) else none
  | _ => none
theorem vecE_ok (hw : WF n env) {o h y : Nat} {k : IntKind} {z ix : Int} {d : List Int} (hh : vecE n env O o h y = some (k, z, ix, d)) :
    (∃ ds, lkE env y = some ⟨.int k, z, some (.ve ds ix)⟩) ∧ idxM d ix = some z ∧ Nat.blt h n = true ∧ o < O.length ∧ ∀ η, (oma ⟨n, env, η⟩ O)[o]? = some (oc (η h).b (d.map (iv k))) := by
  unfold vecE at hh
  split at hh
  · rename_i k' z' ds ix' he
    obtain ⟨⟨i, k2, d'⟩, hq, h2⟩ := Option.bind_eq_some_iff.1 hh
    cases hb : Nat.beq i ds && (k2 == k') with
    | false => rw [hb] at h2; cases h2
    | true =>
      rw [hb] at h2
      simp only [cond_true, Option.some.injEq, Prod.mk.injEq] at h2
      obtain ⟨rfl, rfl, rfl, rfl⟩ := h2
      simp only [Bool.and_eq_true] at hb
      obtain ⟨hb1, hb2⟩ := hb
      obtain rfl := Nat.eq_of_beq_eq_true hb1
      obtain rfl := eq_of_beq hb2
      obtain ⟨h3, h4, ⟨s, h5⟩, h6⟩ := vecA_ok hq
      have h7 := hw.src y _ he
      obtain ⟨k3, l3, s3, y3, h8, h9, h10⟩ := h7
      rw [h5] at h8
      cases h8
      cases h10
      exact ⟨⟨_, he⟩, h9, h3, h4, h6⟩
  · cases hh

/-- the run at a place of a variable -/
def runA (n : Nat) (env : List (Nat × Ent)) (O : List MO) (o h off len : Nat) : Option (Nat × IntKind × List Int) := (varC n O o h).bind fun l => runOf env len (l.drop off)
theorem runA_ok {o h off len i : Nat} {k : IntKind} {d : List Int} (hh : runA n env O o h off len = some (i, k, d)) :
    Nat.blt h n = true ∧ o < O.length ∧ (∃ s, lkE env i = some ⟨.vec k, d, s⟩) ∧ ∃ l, varC n O o h = some l ∧ (∀ q, q < len → l[off + q]? = some (.pj i q)) ∧ ∀ η, (oma ⟨n, env, η⟩ O)[o]? = some (oc (η h).b (l.map (At.rp ⟨n, env, η⟩))) := by
  obtain ⟨l, h1, h2⟩ := Option.bind_eq_some_iff.1 hh
  obtain ⟨h3, h4⟩ := runOf_ok h2
  obtain ⟨h5, h6, h7⟩ := varC_ok (env := env) h1
  refine ⟨h5, h6, h3, l, h1, fun q hq => ?_, h7⟩
  rw [← List.getElem?_drop]; exact h4 q hq
/-- an element of such a run -/
def runE (n : Nat) (env : List (Nat × Ent)) (O : List MO) (o h y : Nat) : Option (IntKind × Int × Int × Nat × Nat × List Int) := match lkE env y with
  | some ⟨.int k, z, some (.vf ds ix off len)⟩ => (runA n env O o h off len).bind fun p => bif Nat.beq p.1 ds && (p.2.1 == k) then some (k, z, ix, off, len, p.2.2) else none
  | _ => none
theorem runE_ok (hw : WF n env) {o h y off len : Nat} {k : IntKind} {z ix : Int} {d : List Int} (hh : runE n env O o h y = some (k, z, ix, off, len, d)) :
    ∃ ds, lkE env y = some ⟨.int k, z, some (.vf ds ix off len)⟩ ∧ idxM d ix = some z ∧ ix < (len : Int) ∧ Nat.blt h n = true ∧ o < O.length ∧ (∃ s, lkE env ds = some ⟨.vec k, d, s⟩) ∧
      ∃ l, varC n O o h = some l ∧ (∀ q, q < len → l[off + q]? = some (.pj ds q)) ∧ ∀ η, (oma ⟨n, env, η⟩ O)[o]? = some (oc (η h).b (l.map (At.rp ⟨n, env, η⟩))) := by
  unfold runE at hh
  split at hh
  · rename_i k' z' ds ix' off' len' he
    obtain ⟨⟨i, k2, d'⟩, hq, h2⟩ := Option.bind_eq_some_iff.1 hh
    cases hb : Nat.beq i ds && (k2 == k') with
    | false => rw [hb] at h2; cases h2
    | true =>
      rw [hb] at h2
      simp only [cond_true, Option.some.injEq, Prod.mk.injEq] at h2
      obtain ⟨rfl, rfl, rfl, rfl, rfl, rfl⟩ := h2
      simp only [Bool.and_eq_true] at hb
      obtain ⟨hb1, hb2⟩ := hb
      obtain rfl := Nat.eq_of_beq_eq_true hb1
      obtain rfl := eq_of_beq hb2
      obtain ⟨h3, h4, ⟨s, h5⟩, l, h6, h7, h8⟩ := runA_ok hq
      have h9 := hw.src y _ he
      obtain ⟨k3, l3, s3, y3, g1, g2, g3, g4⟩ := h9
      rw [h5] at g1
      cases g1
      cases g4
      exact ⟨i, he, g2, g3, h3, h4, ⟨s, h5⟩, l, h6, h7, h8⟩
  · cases hh
theorem idx_get {d : List Int} {ix z : Int} (h : idxM d ix = some z) : 0 ≤ ix ∧ d[ix.toNat]? = some z := by
  obtain ⟨h0, _, hl, hd⟩ := idxM_some h
  exact ⟨h0, by rw [List.getElem?_eq_getElem hl, hd]⟩
theorem runE_at {o h y off len : Nat} {k : IntKind} {z ix : Int} {d : List Int} {ds : Nat} {s : Option Src} {l : List At} (hi : idxM d ix = some z) (hlt : ix < (len : Int)) (he : lkE env ds = some ⟨.vec k, d, s⟩)
    (hl : ∀ q, q < len → l[off + q]? = some (.pj ds q)) (η : Nat → Hd) : (l.map (At.rp ⟨n, env, η⟩))[off + ix.toNat]? = some (iv k z) := by
  obtain ⟨h0, hd⟩ := idx_get hi
  rw [List.getElem?_map, hl ix.toNat (by omega), Option.map_some, pj_rp (c := ⟨n, env, η⟩) he hd]

def faddrE (P : Program) [PTab P] (n : Nat) (env : List (Nat × Ent)) (G : List (Nat × Sh)) (O : List MO) (t : TypeId) (x : Operand) (f : Nat) : Ask OpR :=
  Ask.of (strctF P t f) fun fd => Ask.of (sizeT P fd.type) fun k => Ask.when (Nat.blt 0 k) (Ask.of (opA G x) fun a => match a with
    | .ptr o h off => Ask.when (Nat.blt h n) (.ret (resS (.vl false [.ptr o h (off + fd.offset)])))
    | .ea i => Ask.of (lkE env i) fun e => Ask.of (fldE P e f) fun p => Ask.when (Nat.beq fd.offset p.1) (.ret ⟨.vl false [.ea n], [⟨p.2.t, p.2.d, none⟩], 0, [], []⟩)
    | .oea o h y => Ask.of (ownE n env O o h y) fun q => Ask.of (fldE P q.1 f) fun p => Ask.when (Nat.beq fd.offset p.1) (.ret ⟨.vl false [.oef o h n], [⟨p.2.t, p.2.d, some (.fl y p.1)⟩], 0, [], []⟩)
    | _ => .fail)
theorem faddrE_ok (hw : WF n env) {t : TypeId} {x : Operand} {f : Nat} : AskOk (OpOk P E N (.fieldAddr t x f) ty n env G O) (faddrE P n env G O t x f) :=
  AskOk.of fun fd hfd => AskOk.of fun k hk => AskOk.when fun hk0 => AskOk.of fun a ha => by
    obtain ⟨fs, hu, hf⟩ := strctF_ok hfd
    obtain ⟨k, rfl⟩ : ∃ k', k = k' + 1 := ⟨k - 1, by simp only [Nat.blt_eq] at hk0; omega⟩
    have hx := fun η => opA_rp (c := ⟨n, env, η⟩) ha
    split
    · rename_i o h off
      refine AskOk.when fun hb => OpOk.same hw fun η => ?_
      have h1 := hx η
      rw [ptr_rp (c := ⟨n, env, η⟩) hb] at h1
      have h2 := r_faddr (E := E) (N := N) (Ω := oma ⟨n, env, η⟩ O) (ty := ty) hu hf rfl (sizeT_ok hk) h1
      show Rd _ _ _ _ _ _ _ _ ((At.ptr o h (off + fd.offset)).rp ⟨n, env, η⟩)
      rw [ptr_rp (c := ⟨n, env, η⟩) hb]
      exact h2
    · rename_i i
      refine AskOk.of fun e he => AskOk.of fun p hp => AskOk.when fun hb => ?_
      obtain ⟨h1, h2⟩ := fldE_ok hp
      have hb := Nat.eq_of_beq_eq_true hb
      refine OpOk.rd' hw (fun e he => by rw [List.mem_singleton.1 he]; exact .none rfl) fun η => ?_
      have h3 := hx η
      simp only [At.rp, he] at h3
      have h4 := r_fea (E := E) (N := N) (Ω := oma ⟨n, env, η⟩ O) (ty := ty) (ρ' := p.2.t.rep) (z := p.2.d) hu hf hb (sizeT_ok hk) h3 h1 (Nat.ble_eq_true_of_le h2)
      simp only [Sh.rp, vrp, cond_false, List.map_cons, List.headD_cons, At.rp, keyed, lkE_cons, if_true]
      exact h4
    · rename_i o h y
      refine AskOk.of fun q hq => AskOk.of fun p hp => AskOk.when fun hb => ?_
      obtain ⟨e, ix, pl⟩ := q
      obtain ⟨he, ⟨ds, hsrc⟩, l, rfl, hi, hbl, hlt, hj⟩ := ownE_ok hw hq
      obtain ⟨h1, h2⟩ := fldE_ok hp
      have hb := Nat.eq_of_beq_eq_true hb
      have hy : y ≠ n := fun h => by have := hw.lt y e he; omega
      refine OpOk.rd' hw (fun e' he' => ?_) fun η => ?_
      · rw [List.mem_singleton.1 he']; exact ⟨e, he, h1, h2⟩
      · have h3 := hx η
        obtain ⟨t', d', s'⟩ := e
        simp only at hsrc
        subst hsrc
        simp only [At.rp, he, hbl, cond_true] at h3
        have h4 := r_foea (E := E) (N := N) (Ω := oma ⟨n, env, η⟩ O) (ty := ty) (ρ := t'.rep) (fo := p.1) hi hu hf hb (sizeT_ok hk) h3 (hj η)
        simp only [Sh.rp, vrp, cond_false, List.map_cons, List.headD_cons, At.rp, keyed, lkE_cons, if_true, if_neg hy, he]
        rw [blt_mono hbl (show n ≤ n + [(⟨p.2.t, p.2.d, some (.fl y p.1)⟩ : Ent)].length from by omega)]
        exact h4
    · trivial

/-! ### loads -/
def resE (P : Program) [PTab P] (n i : Nat) (e : Ent) : OpR := bif e.t.one then resS (.vl false [.vr i]) else ⟨(valD P n ⟨e.t, e.d⟩).1, (valD P n ⟨e.t, e.d⟩).2, 0, [], []⟩
theorem resE_ok (hw : WF n env) {i : Nat} {e : Ent} (he : lkE env i = some e) {J : List Nat} (hJ : ∀ j ∈ J, j ∈ readO G op) (h : ∀ η, Rd P E N op ty (gma ⟨n, env, η⟩ G) (oma ⟨n, env, η⟩ O) J (sh e.t.rep e.d)) : OpOk P E N op ty n env G O (resE P n i e) := by
  unfold resE
  cases ho : e.t.one with
  | true =>
    refine OpOk.rdJ hw (fun e he => by simp at he) hJ fun η => ?_
    show Rd _ _ _ _ _ _ _ _ ((At.vr i).rp ⟨n, env, η⟩)
    simp only [At.rp, he, ho, cond_true]
    exact h η
  | false =>
    refine OpOk.rdJ hw (valD_rp (D := ⟨e.t, e.d⟩) (η := fun _ => ⟨.bool true, [], 0, rfl⟩) (n' := 0) rfl).2 hJ fun η => ?_
    rw [(valD_rp (D := ⟨e.t, e.d⟩) (v := (valD P n ⟨e.t, e.d⟩).1) (add := (valD P n ⟨e.t, e.d⟩).2) rfl).1]; exact h η

theorem cst_no {v : Value} {a : At} {o : Nat} (hc : cst v = some (.vl false [a])) (h : (∃ h off, a = .ptr o h off) ∨ (∃ h y, a = .oea o h y) ∨ (∃ h z, a = .oef o h z)) : False := by
  unfold cst at hc
  split at hc <;> first
    | (cases hc; rcases h with ⟨_, _, e⟩ | ⟨_, _, e⟩ | ⟨_, _, e⟩ <;> cases e; done)
    | (cases hc; done)
theorem readO_load {G : List (Nat × Sh)} {t : TypeId} {x : Operand} {a : At} {o : Nat} (ha : opA G x = some a) (h : (∃ h off, a = .ptr o h off) ∨ (∃ h y, a = .oea o h y) ∨ (∃ h z, a = .oef o h z)) : ∀ j ∈ [o], j ∈ readO G (.load t x) := by
  intro j hj
  rw [List.mem_singleton.1 hj]
  cases x with
  | tmp s =>
    have h1 : lkG G s = some (.vl false [a]) := by
      unfold opA opd at ha
      split at ha
      · rename_i b hb; cases ha; exact hb
      · cases ha
    simp only [readO, h1]
    rcases h with ⟨_, _, rfl⟩ | ⟨_, _, rfl⟩ | ⟨_, _, rfl⟩ <;> simp [addrO]
  | const v =>
    unfold opA at ha
    split at ha
    · rename_i b hb
      cases ha
      exact (cst_no (show cst v = _ from hb) h).elim
    · cases ha
  | func f =>
    unfold opA opd at ha
    cases ha
    rcases h with ⟨_, _, h⟩ | ⟨_, _, h⟩ | ⟨_, _, h⟩ <;> cases h
  | global g => unfold opA opd at ha; cases ha

def loadE (P : Program) [PTab P] (n : Nat) (env : List (Nat × Ent)) (G : List (Nat × Sh)) (O : List MO) (t : TypeId) (x : Operand) : Ask OpR :=
  Ask.of (opA G x) fun a => match a with
    | .ptr o h off => Ask.of (varC n O o h) fun l => Ask.of (aggT P t) fun g => bif g
        then Ask.of (sizeT P t) fun k => Ask.when (Nat.beq ((l.drop off).take k).length k) (.ret (resS (.vl true ((l.drop off).take k))))
        else Ask.of l[off]? fun a => .ret (resS (.vl false [a]))
    | .ea i => Ask.of (lkE env i) fun e => Ask.of (elT P t) fun c => if c.1 = e.t then .ret (resE P n i e) else .fail
    | .oea o h y => match vecE n env O o h y with
      | some v => Ask.of (aggT P t) fun g => Ask.when (!g) (.ret (resS (.vl false [.vr y])))
      | none => match runE n env O o h y with
      | some v => Ask.of (aggT P t) fun g => Ask.when (!g) (.ret (resS (.vl false [.vr y])))
      | none => Ask.of (ownE n env O o h y) fun q => Ask.of (elT P t) fun c => if c.1 = q.1.t then .ret (resE P n y q.1) else .fail
    | .oef o h z => Ask.of (lkE env z) fun ez => match ez.src with
      | some (.fl y fo) => Ask.of (ownE n env O o h y) fun q => Ask.of (elT P t) fun c => if c.1 = ez.t then .ret (resE P n z ez) else .fail
      | _ => .fail
    | _ => .fail
theorem loadE_ok (hw : WF n env) {t : TypeId} {x : Operand} : AskOk (OpOk P E N (.load t x) ty n env G O) (loadE P n env G O t x) :=
  AskOk.of fun a ha => by
    have hx := fun η => opA_rp (c := ⟨n, env, η⟩) ha
    split
    · rename_i o h off
      refine AskOk.of fun l hl => AskOk.of fun g hg => ?_
      obtain ⟨hb, hlt, hj⟩ := varC_ok (env := env) hl
      cases g with
      | true =>
        refine AskOk.of fun k hk => AskOk.when fun hkl => OpOk.rdJ hw (fun e he => by simp at he) (readO_load ha (.inl ⟨_, _, rfl⟩)) fun η => ?_
        have h1 := hx η
        rw [ptr_rp (c := ⟨n, env, η⟩) hb] at h1
        have h2 := r_cloadS (E := E) (N := N) (ty := ty) (aggT_ok hg) (sizeT_ok hk) h1 (hj η) rfl (by simpa using hkl)
        simp only [Sh.rp, vrp, cond_true]
        rw [List.map_take, List.map_drop]
        exact h2
      | false =>
        refine AskOk.of fun b hb' => OpOk.rdJ hw (fun e he => by simp at he) (readO_load ha (.inl ⟨_, _, rfl⟩)) fun η => ?_
        have h1 := hx η
        rw [ptr_rp (c := ⟨n, env, η⟩) hb] at h1
        exact r_cload (E := E) (N := N) (ty := ty) (aggT_ok hg) h1 (hj η) (by rw [List.getElem?_map, hb']; rfl)
    · rename_i i
      refine AskOk.of fun e he => AskOk.of fun c hc => ?_
      split
      · rename_i h
        obtain ⟨c1, c2⟩ := c
        simp only at h
        subst h
        refine resE_ok hw he (J := []) (fun j hj => by simp at hj) fun η => (r_load (elT_ok hc) ?_)
        have h1 := hx η
        simp only [At.rp, he] at h1
        exact h1
      · trivial
    · rename_i o h y
      split
      · rename_i v hv
        obtain ⟨k, z, ix, d⟩ := v
        obtain ⟨⟨ds, he⟩, hi, hbl, hlt, hj⟩ := vecE_ok hw hv
        refine AskOk.of fun g hg => AskOk.when fun hgg => OpOk.rdJ hw (fun e he => by simp at he) (readO_load ha (.inr (.inl ⟨_, _, rfl⟩))) fun η => ?_
        have hg0 : g = false := by simpa using hgg
        subst hg0
        have h1 := hx η
        simp only [At.rp, he, hbl, cond_true] at h1
        simp only [Sh.rp, vrp, cond_false, List.map_cons, List.headD_cons, At.rp, keyed, he]
        exact r_vload (E := E) (N := N) (ty := ty) hi (aggT_ok hg) h1 (hj η)
      split
      · rename_i v hv
        obtain ⟨k, z, ix, off, len, d⟩ := v
        obtain ⟨ds, he, hi, hil, hbl, hlt, ⟨s, hs⟩, l, hvar, hrun, hj⟩ := runE_ok hw hv
        refine AskOk.of fun g hg => AskOk.when fun hgg => OpOk.rdJ hw (fun e he => by simp at he) (readO_load ha (.inr (.inl ⟨_, _, rfl⟩))) fun η => ?_
        have hg0 : g = false := by simpa using hgg
        subst hg0
        have h1 := hx η
        simp only [At.rp, he, hbl, cond_true] at h1
        simp only [Sh.rp, vrp, cond_false, List.map_cons, List.headD_cons, At.rp, keyed, he]
        exact r_cload (E := E) (N := N) (ty := ty) (aggT_ok hg) h1 (hj η) (runE_at (o := o) (h := h) (y := y) hi hil hs hrun η)
      refine AskOk.of fun q hq => AskOk.of fun c hc => ?_
      split
      · rename_i h0
        obtain ⟨e, ix, pl⟩ := q
        obtain ⟨he, ⟨ds, hsrc⟩, l, rfl, hi, hbl, hlt, hj⟩ := ownE_ok hw hq
        obtain ⟨c1, c2⟩ := c
        simp only at h0
        subst h0
        refine resE_ok hw he (readO_load ha (.inr (.inl ⟨_, _, rfl⟩))) fun η => (r_oload hi (elT_ok hc) ?_ (hj η))
        have h1 := hx η
        obtain ⟨t', d', s'⟩ := e
        simp only at hsrc
        subst hsrc
        simp only [At.rp, he, hbl, cond_true] at h1
        exact h1
      · trivial
    · rename_i o h z
      refine AskOk.of fun ez hez => ?_
      split
      · rename_i y fo hsz
        refine AskOk.of fun q hq => AskOk.of fun c hc => ?_
        split
        · rename_i h0
          obtain ⟨e, ix, pl⟩ := q
          obtain ⟨he, ⟨ds, hsrc⟩, l, rfl, hi, hbl, hlt, hj⟩ := ownE_ok hw hq
          obtain ⟨c1, c2⟩ := c
          simp only at h0
          subst h0
          have h7 := hw.src z _ hez
          unfold SrcOk at h7
          rw [hsz] at h7
          obtain ⟨ey, h8, h9, h10⟩ := h7
          rw [he] at h8
          cases h8
          refine resE_ok hw hez (readO_load ha (.inr (.inr ⟨_, _, rfl⟩))) fun η => (r_foload hi (elT_ok hc) ?_ (hj η) h9 (Nat.ble_eq_true_of_le h10))
          have h1 := hx η
          obtain ⟨t', d', s'⟩ := e
          simp only at hsrc
          subst hsrc
          obtain ⟨tz, dz, sz⟩ := ez
          simp only at hsz
          subst hsz
          simp only [At.rp, hez, he, hbl, cond_true] at h1
          exact h1
        · trivial
      · trivial
    · trivial
end Go.Dc

/-! Indices, stores, new variables, struct and slice literals. -/
namespace Go.Dc
variable [DrawMode] {R : Type} {P : Program} [PTab P] {E : Env} {N : Nat} {K : KT R} {m : Option R} {op : Op} {ty : TypeId} {n : Nat} {env : List (Nat × Ent)} {G : List (Nat × Sh)} {O : List MO}

/-! ### indices -/
/-- a slice that all share: its data, and where they stand -/
def slI (env : List (Nat × Ent)) (G : List (Nat × Sh)) (x : Operand) : Option ((t : Ty) × List t.den) := opL env G x

/-- an index that is one of i, i + 1 .. -/
def askIx {α : Type} (ix : Int) (k : Nat → Ask α) : Nat → Nat → Ask α
  | _, 0 => .fail
  | i, m + 1 => .cond (ix == (i : Int)) (k i) (askIx ix k (i + 1) m)
theorem askIx_ok {α : Type} {Q : α → Prop} {ix : Int} {k : Nat → Ask α} {len : Nat} (h : ∀ i, i < len → ix = (i : Int) → AskOk Q (k i)) : ∀ {m i : Nat}, i + m = len → AskOk Q (askIx ix k i m)
  | 0, _, _ => trivial
  | m + 1, i, e => ⟨fun hb => h i (by omega) (eq_of_beq hb), fun _ => askIx_ok h (m := m) (by omega)⟩

/-- an element of a slice of an array -/
def vsidxM (c : Nat) (d : List Int) (l ix : Int) : Option Int := if d.length = c then idxM (d.take l.toNat) ix else none
theorem vsidxM_some {c : Nat} {d : List Int} {l ix y : Int} (h : vsidxM c d l ix = some y) : d.length = c ∧ idxM d ix = some y ∧ 0 ≤ ix ∧ ix < (l.toNat : Int) ∧ ix < (c : Int) := by
  unfold vsidxM at h
  split at h
  · rename_i hl
    obtain ⟨h0, h1, hi, hd⟩ := idxM_some h
    rw [List.length_take] at h1 hi
    rw [List.getElem_take] at hd
    refine ⟨hl, ?_, h0, by omega, by omega⟩
    unfold idxM
    rw [if_pos h0, List.getElem?_eq_getElem (by omega), hd]
  · cases h
def entI : Ent → Option Int
  | ⟨.int .i64, l, _⟩ => some l
  | _ => none
theorem entI_eq {e : Ent} {l : Int} (h : entI e = some l) : ∃ s, e = ⟨.int .i64, l, s⟩ := by
  unfold entI at h
  split at h
  · cases h; exact ⟨_, rfl⟩
  · cases h
theorem r_vsindex {t e : TypeId} {α : Type} {ρ : Rep α} {bytes : Nat} {x i : Operand} {Γ : List (Nat × RP)} {Ω : List OB} {b off l c : Nat} {k : IntKind} {m : Int} (h0 : 0 ≤ m) (h1 : m < (l : Int)) (hu : P.underlying t = some (.slice e)) (h : ElT P e ρ bytes) (hs : ρ.size = 1)
    (hx : lkO Γ x = some (pv (.slice (some ⟨b, off, none⟩) l c))) (hi : lkO Γ i = some (iv k m)) : Rd P E N (.indexAddr t x i) ty Γ Ω [] (pv (Dc.ptr b (off + m.toNat))) := .mk fun a w hs' => by
  have hv' : a.eval x = .slice (some ⟨b, off, none⟩) l c := hs'.op hx
  have h2 : a.eval i = .int k m := hs'.op hi
  refine ⟨_, rfl, fun w' o ho _ => ?_⟩
  simp [execOp, ho, hv', h2, run_index hu h h0 h1, hs, Dc.ptr]

def idxE (P : Program) [PTab P] (n : Nat) (env : List (Nat × Ent)) (G : List (Nat × Sh)) (O : List MO) (t : TypeId) (x i : Operand) : Ask OpR :=
  Ask.of (opI env G i) fun ix => match P.underlying t with
  | some (.slice e) => Ask.of (elT P e) fun c => Ask.of (opA G x) fun a => match a with
    | .own o h => Ask.of (ownA n env O o h) fun q => if hc : c.1 = q.2.1 then .bind (idxM q.2.2 ix.2) fun y => .ret ⟨.vl false [.oea o h n], [⟨q.2.1, y, some (.el q.1 ix.2)⟩], 0, [], []⟩ else .fail
    | .vs o h off i cp => Ask.of (runA n env O o h off cp) fun v => Ask.of ((lkE env i).bind entI) fun l => Ask.when (Nat.beq c.1.rep.size 1) (.bind (vsidxM cp v.2.2 l ix.2) fun y => .ret ⟨.vl false [.oea o h n], [⟨.int v.2.1, y, some (.vf v.1 ix.2 off cp)⟩], 0, [], []⟩)
    | _ => Ask.of (opL env G x) fun l => if hc : c.1 = l.1 then .bind (idxM l.2 ix.2) fun y => .ret ⟨.vl false [.ea n], [⟨l.1, y, none⟩], 0, [], []⟩ else .fail
  | some (.array len e) => Ask.of (sizeT P e) fun sz => Ask.of (opA G x) fun a => match a with
    | .ptr o h off => match vecA n env O o h with
      | some v => Ask.when (Nat.beq off 0 && Nat.beq sz 1) (.bind (vidxM len v.2.2 ix.2) fun y => .ret ⟨.vl false [.oea o h n], [⟨.int v.2.1, y, some (.ve v.1 ix.2)⟩], 0, [], []⟩)
      | none => match runA n env O o h off len with
      | some v => Ask.when (Nat.beq sz 1) (.bind (vidxM len v.2.2 ix.2) fun y => .ret ⟨.vl false [.oea o h n], [⟨.int v.2.1, y, some (.vf v.1 ix.2 off len)⟩], 0, [], []⟩)
      | none => Ask.when (Nat.blt h n) (bif opLit G i then (if 0 ≤ ix.2 ∧ ix.2 < len then .ret (resS (.vl false [.ptr o h (off + ix.2.toNat * sz)])) else .fail)
      else Ask.when (Nat.ble len 8) (askIx ix.2 (fun j => .ret (resS (.vl false [.ptr o h (off + j * sz)]))) 0 len))
    | _ => .fail
  | _ => .fail
theorem idxE_ok (hw : WF n env) {t : TypeId} {x i : Operand} : AskOk (OpOk P E N (.indexAddr t x i) ty n env G O) (idxE P n env G O t x i) :=
  AskOk.of fun ix hix => by
    have hi := fun η => opI_rp (n := n) (η := η) hix
    split
    · rename_i e hu
      refine AskOk.of fun c hc => AskOk.of fun a ha => ?_
      have hx := fun η => opA_rp (c := ⟨n, env, η⟩) ha
      split
      · rename_i o h
        refine AskOk.of fun q hq => ?_
        split
        · rename_i hct
          obtain ⟨i0, t', l⟩ := q
          obtain ⟨c1, c2⟩ := c
          simp only at hct
          subst hct
          obtain ⟨hb, hlt, ⟨s, he⟩, hj⟩ := ownA_ok hq
          intro y hy
          refine OpOk.rd' hw (fun e' he' => ?_) fun η => ?_
          · rw [List.mem_singleton.1 he']; exact ⟨l, s, he, hy⟩
          · have h1 := hx η
            rw [own_rp (c := ⟨n, env, η⟩) hb] at h1
            have h2 := r_oindex (E := E) (N := N) (ty := ty) hy hu (elT_ok hc) h1 (hj η) (hi η)
            simp only [Sh.rp, vrp, cond_false, List.map_cons, List.headD_cons, At.rp, keyed, lkE_cons, if_true]
            rw [blt_mono hb (show n ≤ n + [(⟨c1, y, some (.el i0 ix.2)⟩ : Ent)].length from by omega)]
            exact h2
        · trivial
      · rename_i o h off j cp
        refine AskOk.of fun v hv => AskOk.of fun l hl => AskOk.when fun hsz => ?_
        obtain ⟨ds, k, d⟩ := v
        obtain ⟨hb, hlt, ⟨s, he⟩, lc, hvar, hrun, hj⟩ := runA_ok hv
        obtain ⟨ej, hej, hl⟩ := Option.bind_eq_some_iff.1 hl
        obtain ⟨sj, rfl⟩ := entI_eq hl
        intro y hy
        obtain ⟨q1, q2, q3, q4, q5⟩ := vsidxM_some hy
        refine OpOk.rd' hw (fun e' he' => ?_) fun η => ?_
        · rw [List.mem_singleton.1 he']; exact ⟨k, d, s, y, he, q2, q5, rfl⟩
        · have h1 := hx η
          simp only [At.rp, hej, hb, cond_true] at h1
          have h2 := r_vsindex (E := E) (N := N) (Ω := oma ⟨n, env, η⟩ O) (ty := ty) q3 q4 hu (elT_ok hc) (Nat.eq_of_beq_eq_true hsz) h1 (hi η)
          simp only [Sh.rp, vrp, cond_false, List.map_cons, List.headD_cons, At.rp, keyed, lkE_cons, if_true]
          rw [blt_mono hb (show n ≤ n + [(⟨.int k, y, some (.vf ds ix.2 off cp)⟩ : Ent)].length from by omega)]
          exact h2
      · refine AskOk.of fun l hl => ?_
        split
        · rename_i hct
          obtain ⟨t', l⟩ := l
          obtain ⟨c1, c2⟩ := c
          simp only at hct
          subst hct
          intro y hy
          refine OpOk.rd' hw (fun e' he' => by rw [List.mem_singleton.1 he']; exact .none rfl) fun η => ?_
          have h2 := r_index (E := E) (N := N) (Ω := oma ⟨n, env, η⟩ O) (ty := ty) hy hu (elT_ok hc) (opL_rp (n := n) (η := η) hl) (hi η)
          simp only [Sh.rp, vrp, cond_false, List.map_cons, List.headD_cons, At.rp, keyed, lkE_cons, if_true]
          exact h2
        · trivial
    · rename_i len e hu
      refine AskOk.of fun sz hsz => AskOk.of fun a ha => ?_
      have hx := fun η => opA_rp (c := ⟨n, env, η⟩) ha
      split
      · rename_i o h off
        split
        · rename_i v hv
          obtain ⟨di, k, d⟩ := v
          obtain ⟨hb, hlt, ⟨s, he⟩, hj⟩ := vecA_ok hv
          refine AskOk.when fun h0 => ?_
          simp only [Bool.and_eq_true] at h0
          obtain rfl := Nat.eq_of_beq_eq_true h0.1
          obtain rfl := Nat.eq_of_beq_eq_true h0.2
          intro y hy
          have hid := vidx_idx hy
          have hdl := vidx_len hy
          obtain ⟨q1, q2, _, _⟩ := idxM_some hid
          refine OpOk.rd' hw (fun e' he' => ?_) fun η => ?_
          · rw [List.mem_singleton.1 he']; exact ⟨k, d, s, y, he, hid, rfl⟩
          · have h1 := hx η
            rw [ptr_rp (c := ⟨n, env, η⟩) hb] at h1
            have h2 := r_aaddr (E := E) (N := N) (Ω := oma ⟨n, env, η⟩ O) (ty := ty) (show 0 ≤ ix.2 ∧ ix.2 < (len : Int) by omega) hu (sizeT_ok hsz) h1 (hi η)
            simp only [Sh.rp, vrp, cond_false, List.map_cons, List.headD_cons, At.rp, keyed, lkE_cons, if_true]
            rw [blt_mono hb (show n ≤ n + [(⟨.int k, y, some (.ve di ix.2)⟩ : Ent)].length from by omega)]
            rw [Nat.mul_one] at h2
            exact h2
        split
        · rename_i v hv
          obtain ⟨di, k, d⟩ := v
          obtain ⟨hb, hlt, ⟨s, he⟩, lc, hvar, hrun, hj⟩ := runA_ok hv
          refine AskOk.when fun h0 => ?_
          obtain rfl := Nat.eq_of_beq_eq_true h0
          intro y hy
          have hid := vidx_idx hy
          have hdl := vidx_len hy
          obtain ⟨q1, q2, _, _⟩ := idxM_some hid
          refine OpOk.rd' hw (fun e' he' => ?_) fun η => ?_
          · rw [List.mem_singleton.1 he']; exact ⟨k, d, s, y, he, hid, by omega, rfl⟩
          · have h1 := hx η
            rw [ptr_rp (c := ⟨n, env, η⟩) hb] at h1
            have h2 := r_aaddr (E := E) (N := N) (Ω := oma ⟨n, env, η⟩ O) (ty := ty) (show 0 ≤ ix.2 ∧ ix.2 < (len : Int) by omega) hu (sizeT_ok hsz) h1 (hi η)
            simp only [Sh.rp, vrp, cond_false, List.map_cons, List.headD_cons, At.rp, keyed, lkE_cons, if_true]
            rw [blt_mono hb (show n ≤ n + [(⟨.int k, y, some (.vf di ix.2 off len)⟩ : Ent)].length from by omega)]
            rw [Nat.mul_one] at h2
            exact h2
        refine AskOk.when fun hb => ?_
        cases hlit : opLit G i with
        | true =>
          simp only [cond_true]
          split
          · rename_i hr
            refine OpOk.same hw fun η => ?_
            have h1 := hx η
            rw [ptr_rp (c := ⟨n, env, η⟩) hb] at h1
            have h2 := r_aaddr (E := E) (N := N) (Ω := oma ⟨n, env, η⟩ O) (ty := ty) hr hu (sizeT_ok hsz) h1 (hi η)
            show Rd _ _ _ _ _ _ _ _ ((At.ptr o h (off + ix.2.toNat * sz)).rp ⟨n, env, η⟩)
            rw [ptr_rp (c := ⟨n, env, η⟩) hb]
            exact h2
          · trivial
        | false =>
          simp only [cond_false]
          refine AskOk.when fun _ => askIx_ok (len := len) (fun j hj hij => ?_) (by omega)
          refine OpOk.same hw fun η => ?_
          have h1 := hx η
          rw [ptr_rp (c := ⟨n, env, η⟩) hb] at h1
          have h2 := r_aaddr (E := E) (N := N) (Ω := oma ⟨n, env, η⟩ O) (ty := ty) (show 0 ≤ ix.2 ∧ ix.2 < (len : Int) by omega) hu (sizeT_ok hsz) h1 (hi η)
          show Rd _ _ _ _ _ _ _ _ ((At.ptr o h (off + j * sz)).rp ⟨n, env, η⟩)
          rw [ptr_rp (c := ⟨n, env, η⟩) hb]
          have e : ix.2.toNat = j := by omega
          rw [e] at h2
          exact h2
      · trivial
    · trivial

/-! ### stores -/
def pjs (i : Nat) : Nat → Nat → List At
  | _, 0 => []
  | j, m + 1 => .pj i j :: pjs i (j + 1) m
theorem pjs_len {i : Nat} : ∀ {m j : Nat}, (pjs i j m).length = m
  | 0, _ => rfl
  | m + 1, j => by simp [pjs, pjs_len]
theorem pjs_get {i : Nat} : ∀ {m j q : Nat}, q < m → (pjs i j m)[q]? = some (.pj i (j + q))
  | 0, _, q, h => by omega
  | m + 1, j, 0, h => rfl
  | m + 1, j, q + 1, h => by
    simp only [pjs, List.getElem?_cons_succ]
    rw [pjs_get (by omega), show j + 1 + q = j + (q + 1) from by omega]
/-- a number of a run is written -/
theorem OpOk.setR (hw : WF n env) {kd : IntKind} {d : List Int} {s : Option Src} {l : List At} {j k off len ds ix : Nat} {u : Int} {X : Type} [Inhabited X] (hk : Nat.blt k n = true) (he : lkE env ds = some ⟨.vec kd, d, s⟩)
    (hrun : ∀ q, q < len → l[off + q]? = some (.pj ds q)) (hil : ix < len) (hid : ix < d.length)
    (h : ∀ η, St P E N op ty (gma ⟨n, env, η⟩ G) (oma ⟨n, env, η⟩ O) [j] (fun _ : X => pv Go.undef) (fun _ => (oma ⟨n, env, η⟩ O).set j (oc (η k).b ((l.map (At.rp ⟨n, env, η⟩)).take (off + ix) ++ [iv kd u] ++ (l.map (At.rp ⟨n, env, η⟩)).drop (off + ix + 1))))) :
    OpOk P E N op ty n env G O ⟨.undef, [⟨.vec kd, d.set ix u, none⟩], 0, [(j, .oc k (l.take off ++ pjs n 0 len ++ l.drop (off + len)))], []⟩ := by
  have hsrc : ∀ e ∈ [(⟨.vec kd, d.set ix u, none⟩ : Ent)], SrcOk env e := fun e he => by rw [List.mem_singleton.1 he]; exact .none rfl
  refine ⟨hsrc, (fun _ h => by cases h), fun η => ?_⟩
  have h := h η
  refine h.to' fun x a w hs => ?_
  have hx := OpOk.ext hw (r := ⟨.undef, [⟨.vec kd, d.set ix u, none⟩], 0, [(j, .oc k (l.take off ++ pjs n 0 len ++ l.drop (off + len)))], []⟩) hsrc ⟨η, fun _ _ => rfl⟩
  refine ⟨⟨η, fun _ _ => rfl⟩, ?_, rfl⟩
  simp only [OpR.O', updO, List.append_nil]
  by_cases hjl : j < O.length
  · refine oma_set hx ?_ hs
    obtain ⟨cells, ty', _, hl⟩ := hs.mem_ob (o := oc (η k).b ((l.map (At.rp ⟨n, env, η⟩)).take (off + ix) ++ [iv kd u] ++ (l.map (At.rp ⟨n, env, η⟩)).drop (off + ix + 1))) (List.mem_iff_getElem?.2 ⟨j, by rw [List.getElem?_set_self (by simpa [oma] using hjl)]⟩)
    have hb' := blt_mono hk (show n ≤ n + [(⟨.vec kd, d.set ix u, none⟩ : Ent)].length + 0 from by omega)
    simp only [MO.ob, OpR.cx', OpR.n', OpR.env', hb', cond_true]
    congr 1
    have hlen := (List.getElem?_eq_some_iff.1 (hrun (len - 1) (by omega))).1
    have hnew : ∀ q, (l.take off ++ pjs n 0 len ++ l.drop (off + len))[q]? = if q < off then l[q]? else if q < off + len then some (.pj n (q - off)) else l[q]? := fun q => by
      rw [List.append_assoc, List.getElem?_append]
      rw [List.length_take, Nat.min_eq_left (by omega)]
      split
      · rename_i h1; rw [List.getElem?_take_of_lt h1]
      · rename_i h1
        rw [List.getElem?_append, pjs_len]
        split
        · rename_i h2; rw [if_pos (by omega), pjs_get h2, Nat.zero_add]
        · rename_i h2; rw [if_neg (by omega), List.getElem?_drop]; congr 1; omega
    have hold : ∀ q, ((l.map (At.rp ⟨n, env, η⟩)).take (off + ix) ++ [iv kd u] ++ (l.map (At.rp ⟨n, env, η⟩)).drop (off + ix + 1))[q]? = if q = off + ix then some (iv kd u) else (l[q]?).map (At.rp ⟨n, env, η⟩) := fun q => by
      rw [List.append_assoc, List.getElem?_append, List.length_take, List.length_map, Nat.min_eq_left (by omega)]
      split
      · rename_i h1; rw [List.getElem?_take_of_lt h1, List.getElem?_map, if_neg (by omega)]
      · rename_i h1
        rw [List.getElem?_append]
        split
        · rename_i h2; simp only [List.length_singleton] at h2; rw [if_pos (by omega), show q - (off + ix) = 0 from by omega]; rfl
        · rename_i h2; simp only [List.length_singleton] at h2 ⊢; rw [if_neg (by omega), List.getElem?_drop, List.getElem?_map]; congr 2; omega
    refine List.ext_getElem? fun q => ?_
    rw [List.getElem?_map, hnew, hold]
    have keep : ∀ b : At, q ≠ off + ix → l[q]? = some b → (l[q]?).map (At.rp ⟨n + [(⟨.vec kd, d.set ix u, none⟩ : Ent)].length + 0, keyed n [⟨.vec kd, d.set ix u, none⟩] env, η⟩) = (l[q]?).map (At.rp ⟨n, env, η⟩) := fun b hq hb => by
      rw [hb]
      obtain ⟨v, _, hv⟩ := hl.get (i := q) (φ := At.rp ⟨n, env, η⟩ b) (by rw [hold, if_neg hq, hb]; rfl)
      rw [Option.map_some, Option.map_some]
      exact congrArg some (At.rp_eq hx hv)
    by_cases h1 : q < off
    · rw [if_pos h1, if_neg (by omega)]
      cases hb : l[q]? with
      | none => rfl
      | some b => rw [← hb]; exact keep b (by omega) hb
    · rw [if_neg h1]
      by_cases h2 : q < off + len
      · rw [if_pos h2, Option.map_some]
        have henew : lkE (keyed n [(⟨.vec kd, d.set ix u, none⟩ : Ent)] env) n = some ⟨.vec kd, d.set ix u, none⟩ := by simp only [keyed, lkE_cons, if_true]
        by_cases h3 : q = off + ix
        · rw [if_pos h3]
          refine congrArg some (pj_rp henew ?_)
          rw [h3, show off + ix - off = ix from by omega, List.getElem?_set_self hid]
        · rw [if_neg h3]
          have h4 := hrun (q - off) (by omega)
          rw [show off + (q - off) = q from by omega] at h4
          obtain ⟨v, _, hv⟩ := hl.get (i := q) (φ := At.rp ⟨n, env, η⟩ (.pj ds (q - off))) (by rw [hold, if_neg h3, h4]; rfl)
          rw [h4, Option.map_some]
          cases hd : d[q - off]? with
          | none => simp only [At.rp, he, pjG, hd] at hv; exact hv.elim
          | some y =>
            rw [pj_rp (c := ⟨n, env, η⟩) he hd]
            refine congrArg some (pj_rp henew ?_)
            rw [List.getElem?_set_ne (by omega), hd]
      · rw [if_neg h2, if_neg (by omega)]
        cases hb : l[q]? with
        | none => rfl
        | some b => rw [← hb]; exact keep b (by omega) hb
  · have e : ∀ mo : MO, O.set j mo = O := fun mo => List.set_eq_of_length_le (by omega)
    have e2 : ∀ ob : OB, (oma ⟨n, env, η⟩ O).set j ob = oma ⟨n, env, η⟩ O := fun ob => List.set_eq_of_length_le (by simp [oma]; omega)
    rw [e, e2]
    rw [e2] at hs
    exact oma_good hx hs

/-- the cells from fo on are written anew -/
def putD (P : Program) [PTab P] (k : Nat) (d : SDen.den k) (fo : Nat) (Ds : List Dyn) : Option (SDen.den k) :=
  PTab.join (P := P) k ((PTab.split (P := P) k d).take fo ++ Ds ++ (PTab.split (P := P) k d).drop (fo + Ds.length))

def storeE (P : Program) [PTab P] (n : Nat) (env : List (Nat × Ent)) (G : List (Nat × Sh)) (O : List MO) (t : TypeId) (x y : Operand) : Ask OpR :=
  Ask.of (sizeT P t) fun k => Ask.of (opA G x) fun a => match a with
    | .ptr o h off => Ask.of (varC n O o h) fun l => Ask.of (opC G y) fun cs => Ask.when (Nat.beq cs.length k && Nat.ble (off + k) l.length)
        (.ret ⟨.undef, [], 0, [(o, .oc h (l.take off ++ cs ++ l.drop (off + k)))], []⟩)
    | .oea o h z => match vecE n env O o h z with
      | some v => Ask.when (Nat.beq k 1) (Ask.of (opT P env G (.int v.1) y) fun u => .ret ⟨.undef, [⟨.vec v.1, List.set v.2.2.2 v.2.2.1.toNat u, none⟩], 0, [(o, .oa h n)], []⟩)
      | none => match runE n env O o h z with
      | some v => Ask.when (Nat.beq k 1) (Ask.of (opT P env G (.int v.1) y) fun u => Ask.of (varC n O o h) fun l =>
        .ret ⟨.undef, [⟨.vec v.1, List.set v.2.2.2.2.2 v.2.2.1.toNat u, none⟩], 0, [(o, .oc h (l.take v.2.2.2.1 ++ pjs n 0 v.2.2.2.2.1 ++ l.drop (v.2.2.2.1 + v.2.2.2.2.1)))], []⟩)
      | none => Ask.of (ownE n env O o h z) fun q => Ask.of (elT P t) fun c => if c.1 = q.1.t ∧ q.2.2.1 = q.1.t then
        Ask.of (opT P env G q.2.2.1 y) fun u => .ret ⟨.undef, [⟨.sl q.2.2.1, q.2.2.2.set q.2.1.toNat u, none⟩], 0, [(o, .oa h n)], []⟩ else .fail
    | .oef o h z => Ask.of (lkE env z) fun ez => match ez.src with
      | some (.fl ye fo) => Ask.of (ownE n env O o h ye) fun q => Ask.of (opC G y) fun cs => match q with
        | ⟨⟨.st k', d, s⟩, ix, ⟨.st k2, l⟩⟩ => if hk : k2 = k' then
          Ask.of (atsD env (((PTab.split (P := P) k' d).drop fo).map (·.t) |>.take cs.length) cs) fun Ds => Ask.when (Nat.beq Ds.length k && Nat.ble (fo + Ds.length) (SRep.rep k').size)
            (Ask.of (putD P k' d fo Ds) fun u => .ret ⟨.undef, [⟨.sl (.st k2), l.set ix.toNat (hk ▸ u), none⟩], 0, [(o, .oa h n)], []⟩) else .fail
        | _ => .fail
      | _ => .fail
    | _ => .fail
theorem storeE_ok (hw : WF n env) {t : TypeId} {x y : Operand} : AskOk (OpOk P E N (.store t x y) ty n env G O) (storeE P n env G O t x y) :=
  AskOk.of fun k hk => AskOk.of fun a ha => by
    have hx := fun η => opA_rp (c := ⟨n, env, η⟩) ha
    split
    · rename_i o h off
      refine AskOk.of fun l hl => AskOk.of fun cs hcs => AskOk.when fun hb => ?_
      obtain ⟨hbl, hlt, hj⟩ := varC_ok (env := env) hl
      simp only [Bool.and_eq_true] at hb
      refine OpOk.setC hw (X := Unit) hlt hbl fun η => ?_
      have h1 := hx η
      rw [ptr_rp (c := ⟨n, env, η⟩) hbl] at h1
      exact s_cstore (E := E) (N := N) (ty := ty) (sizeT_ok hk) h1 (hj η) (opC_part hcs) (by simpa using hb.1) (by simpa using hb.2) (by simp)
    · rename_i o h z
      split
      · rename_i v hv
        obtain ⟨ki, zz, ix, d⟩ := v
        obtain ⟨⟨ds, he⟩, hi, hbl, hlt, hj⟩ := vecE_ok hw hv
        refine AskOk.when fun hk1 => AskOk.of fun u hu => ?_
        obtain rfl := Nat.eq_of_beq_eq_true hk1
        refine OpOk.setV hw (X := Unit) hbl fun η => ?_
        have h1 := hx η
        simp only [At.rp, he, hbl, cond_true] at h1
        exact s_vstore (E := E) (N := N) (ty := ty) hi (sizeT_ok hk) h1 (hj η) (opT_part hu)
      split
      · rename_i v hv
        obtain ⟨ki, zz, ix, off, len, d⟩ := v
        obtain ⟨ds, he, hi, hil, hbl, hlt, ⟨s, hs⟩, l, hvar, hrun, hj⟩ := runE_ok hw hv
        refine AskOk.when fun hk1 => AskOk.of fun u hu => AskOk.of fun l' hl' => ?_
        obtain rfl : l = l' := by rw [hvar] at hl'; exact Option.some.inj hl'
        obtain rfl := Nat.eq_of_beq_eq_true hk1
        obtain ⟨h0, hd⟩ := idx_get hi
        have hil2 : ix.toNat < len := by have h3 : ix < (len : Int) := hil; have h4 : 0 ≤ ix := h0; omega
        refine OpOk.setR hw (X := Unit) (ix := ix.toNat) hbl hs hrun hil2 (List.getElem?_eq_some_iff.1 hd).1 fun η => ?_
        have h1 := hx η
        simp only [At.rp, he, hbl, cond_true] at h1
        refine s_cstore (E := E) (N := N) (ty := ty) (sizeT_ok hk) h1 (hj η) (opT_part hu) rfl ?_ rfl
        have h2 := (List.getElem?_eq_some_iff.1 (hrun ix.toNat (by omega))).1
        exact Nat.ble_eq_true_of_le (by rw [List.length_map]; omega)
      refine AskOk.of fun q hq => AskOk.of fun c hc => ?_
      split
      · rename_i hct
        refine AskOk.of fun u hu => ?_
        obtain ⟨e, ix, pl⟩ := q
        obtain ⟨he, ⟨ds, hsrc⟩, l, rfl, hi, hbl, hlt, hj⟩ := ownE_ok hw hq
        obtain ⟨c1, c2⟩ := c
        simp only at hct
        obtain ⟨rfl, _⟩ := hct
        refine OpOk.setD hw (X := Unit) hbl fun η => ?_
        have h1 := hx η
        obtain ⟨t', d', s'⟩ := e
        simp only at hsrc
        subst hsrc
        simp only [At.rp, he, hbl, cond_true] at h1
        exact s_ostore (E := E) (N := N) (ty := ty) hi (elT_ok hc) h1 (hj η) (opT_part hu)
      · trivial
    · rename_i o h z
      refine AskOk.of fun ez hez => ?_
      split
      · rename_i ye fo hsz
        refine AskOk.of fun q hq => AskOk.of fun cs hcs => ?_
        split
        · rename_i k' d s ix k2 l
          split
          · rename_i hkk
            subst hkk
            refine AskOk.of fun Ds hDs => AskOk.when fun hb => AskOk.of fun u hu => ?_
            obtain ⟨he, ⟨ds, hsrc⟩, l', hl', hi, hbl, hlt, hj⟩ := ownE_ok hw hq
            cases hl'
            simp only [Bool.and_eq_true] at hb
            have hDl : Ds.length = k := Nat.eq_of_beq_eq_true hb.1
            refine OpOk.setD hw (X := Unit) hbl fun η => ?_
            have h1 := hx η
            obtain ⟨tz, dz, sz⟩ := ez
            simp only at hsz hsrc
            subst hsz; subst hsrc
            simp only [At.rp, hez, he, hbl, cond_true] at h1
            have hsp : (SRep.rep k2).cp d = (PTab.split (P := P) k2 d).map Dyn.rp := PTab.split_ok k2 d
            have hju : (SRep.rep k2).cp u = ((PTab.split (P := P) k2 d).take fo ++ Ds ++ (PTab.split (P := P) k2 d).drop (fo + Ds.length)).map Dyn.rp := PTab.join_ok k2 _ u hu
            exact s_fostore (E := E) (N := N) (ty := ty) (ρ := (Ty.st k2).rep) (u := u) (φs := Ds.map Dyn.rp) hi (by rw [List.length_map, hDl]; exact sizeT_ok hk) h1 (hj η)
              ((opC_part hcs).imp (atsD_imp (c := ⟨n, env, η⟩) hDs))
              (by show (SRep.rep k2).cp u = List.take fo ((SRep.rep k2).cp d) ++ _ ++ List.drop _ ((SRep.rep k2).cp d)
                  rw [hju, hsp]; simp [List.map_take, List.map_drop])
              (by rw [List.length_map]; exact hb.2)
          · trivial
        · trivial
      · trivial
    · trivial
end Go.Dc

/-! Long runs of zeros as_ arrays of numbers. -/
namespace Go.Dc
variable [SRep]

def zerA (k : IntKind) : At → Bool
  | .ci k' x => k' == k && x == 0
  | _ => false
theorem zerA_ok {k : IntKind} {c : Cx} : ∀ {l : List At}, l.all (zerA k) = true → l.map (At.rp c) = (List.replicate l.length (0 : Int)).map (iv k)
  | [], _ => rfl
  | a :: l, h => by
    simp only [List.all_cons, Bool.and_eq_true] at h
    rw [List.map_cons, zerA_ok h.2, List.length_cons, List.replicate_succ, List.map_cons]
    congr 1
    have h1 := h.1
    unfold zerA at h1
    split at h1
    · rename_i k' x
      simp only [Bool.and_eq_true] at h1
      obtain rfl := eq_of_beq h1.1
      have := h1.2
      obtain rfl : x = 0 := by simpa using this
      rfl
    · cases h1
/-- how many zeros of a kind lead -/
def zeroRun (k : IntKind) : List At → Nat
  | a :: l => bif zerA k a then zeroRun k l + 1 else 0
  | [] => 0
theorem zeroRun_le {k : IntKind} : ∀ {l : List At}, zeroRun k l ≤ l.length
  | [] => Nat.le_refl _
  | a :: l => by
    simp only [zeroRun]
    cases zerA k a with
    | true => simp only [cond_true, List.length_cons]; have := zeroRun_le (k := k) (l := l); omega
    | false => simp
theorem zeroRun_all {k : IntKind} : ∀ {l : List At}, (l.take (zeroRun k l)).all (zerA k) = true
  | [] => rfl
  | a :: l => by
    simp only [zeroRun]
    cases h : zerA k a with
    | true => simp only [cond_true, List.take_succ_cons, List.all_cons, h, Bool.true_and]; exact zeroRun_all
    | false => rfl
/-- cells in which a long run of zeros is an array of numbers -/
def packZ (n : Nat) : Nat → List At → List At × List Ent
  | 0, l => (l, [])
  | _, [] => ([], [])
  | f + 1, .ci k x :: l => bif Nat.blt 8 (zeroRun k (.ci k x :: l))
      then (pjs n 0 (zeroRun k (.ci k x :: l)) ++ (packZ (n + 1) f ((At.ci k x :: l).drop (zeroRun k (.ci k x :: l)))).1, ⟨.vec k, List.replicate (zeroRun k (.ci k x :: l)) (0 : Int), none⟩ :: (packZ (n + 1) f ((At.ci k x :: l).drop (zeroRun k (.ci k x :: l)))).2)
      else (.ci k x :: (packZ n f l).1, (packZ n f l).2)
  | f + 1, a :: l => (a :: (packZ n f l).1, (packZ n f l).2)
theorem pj_rpS {c : Cx} {i j : Nat} {k : IntKind} {d : List Int} {s : Option Src} {x : Int} (he : lkE c.env i = some ⟨.vec k, d, s⟩) (hx : d[j]? = some x) : (At.pj i j).rp c = iv k x := by
  simp only [At.rp, he, pjG, hx]
theorem pjs_rp {c : Cx} {i : Nat} {k : IntKind} {d : List Int} {s : Option Src} (he : lkE c.env i = some ⟨.vec k, d, s⟩) : (pjs i 0 d.length).map (At.rp c) = d.map (iv k) := by
  refine List.ext_getElem? fun q => ?_
  rw [List.getElem?_map, List.getElem?_map]
  by_cases hq : q < d.length
  · rw [pjs_get hq, Nat.zero_add, List.getElem?_eq_getElem hq, Option.map_some, Option.map_some, pj_rpS he (List.getElem?_eq_getElem hq)]
  · rw [List.getElem?_eq_none (by rw [pjs_len]; omega), List.getElem?_eq_none (by omega)]; rfl
theorem packZ_ok {c c' : Cx} (hx : Ext c c') {F : FP} {w : World} : ∀ {f n : Nat} {l : List At} {vs : List Value}, (∀ i e, (packZ n f l).2[i]? = some e → lkE c'.env (n + i) = some e) → AllP F w (l.map (At.rp c)) vs → ((packZ n f l).1).map (At.rp c') = l.map (At.rp c)
  | 0, n, l, vs, _, h => atl_eq hx h
  | f + 1, n, [], vs, _, h => rfl
  | f + 1, n, a :: l, v :: vs, hE, ⟨h1, h2⟩ => by
    have plain : (packZ n (f + 1) (a :: l)) = (a :: (packZ n f l).1, (packZ n f l).2) → ((packZ n (f + 1) (a :: l)).1).map (At.rp c') = (a :: l).map (At.rp c) := fun e => by
      rw [e] at hE ⊢
      rw [List.map_cons, List.map_cons, At.rp_eq hx h1, packZ_ok hx (fun i e' he' => hE i e' he') h2]
    cases a with
    | ci k x =>
      cases hb : Nat.blt 8 (zeroRun k (.ci k x :: l)) with
      | false => exact plain (by simp only [packZ, hb, cond_false])
      | true =>
        simp only [packZ, hb, cond_true] at hE ⊢
        generalize hm : zeroRun k (.ci k x :: l) = m at hE ⊢
        have hall : AllP F w (((At.ci k x :: l).map (At.rp c)).drop m) ((v :: vs).drop m) := AllP.drop m ⟨h1, h2⟩
        rw [← List.map_drop] at hall
        have he0 := hE 0 _ rfl
        rw [Nat.add_zero] at he0
        have hz : ((At.ci k x :: l).take m).map (At.rp c) = (List.replicate m (0 : Int)).map (iv k) := by
          have e1 := zerA_ok (k := k) (c := c) (l := (At.ci k x :: l).take m) (by rw [← hm]; exact zeroRun_all)
          rw [e1, List.length_take, Nat.min_eq_left (by rw [← hm]; exact zeroRun_le)]
        have hp : (pjs n 0 m).map (At.rp c') = (List.replicate m (0 : Int)).map (iv k) := by
          have := pjs_rp (c := c') he0
          rwa [List.length_replicate] at this
        rw [List.map_append, hp, ← hz, packZ_ok hx (fun i e' he' => by have := hE (i + 1) e' he'; rwa [show n + (i + 1) = n + 1 + i from by omega] at this) hall, ← List.map_append, List.take_append_drop]
    | _ => exact plain rfl
  | f + 1, n, _ :: _, [], _, h => h.elim
theorem packZ_src : ∀ {f n : Nat} {l : List At}, noSrc (packZ n f l).2
  | 0, _, _ => fun e he => by simp [packZ] at he
  | f + 1, n, [] => fun e he => by simp [packZ] at he
  | f + 1, n, a :: l => by
    have plain : (packZ n (f + 1) (a :: l)) = (a :: (packZ n f l).1, (packZ n f l).2) → noSrc (packZ n (f + 1) (a :: l)).2 := fun e => by rw [e]; exact packZ_src
    cases a with
    | ci k x =>
      cases hb : Nat.blt 8 (zeroRun k (.ci k x :: l)) with
      | false => exact plain (by simp only [packZ, hb, cond_false])
      | true =>
        simp only [packZ, hb, cond_true]
        intro e he
        rcases List.mem_cons.1 he with h | h
        · rw [h]
        · exact packZ_src e h
    | _ => exact plain rfl
end Go.Dc

/-! New variables, struct and slice literals. -/
namespace Go.Dc
variable [DrawMode] {R : Type} {P : Program} [PTab P] {E : Env} {N : Nat} {K : KT R} {m : Option R} {op : Op} {ty : TypeId} {n : Nat} {env : List (Nat × Ent)} {G : List (Nat × Sh)} {O : List MO}

/-! ### zero values -/
def zAt : Value → Option At
  | .int k n => some (.ci k n)
  | .bool b => some (.cb b)
  | .string s => some (.ck s)
  | .slice none 0 0 => some .nl
  | .pointer none => some .nilp
  | .nilFunc => some .nilf
  | .map none => some .junk
  | _ => none
theorem zAt_rp {v : Value} {a : At} (h : zAt v = some a) {c : Cx} {F : FP} {w : World} : (a.rp c).h F w v := by
  unfold zAt at h
  split at h <;> first | (cases h; rfl) | cases h
def zAts : List Value → Option (List At)
  | [] => some []
  | v :: vs => (zAt v).bind fun a => (zAts vs).map (a :: ·)
theorem zAts_rp {c : Cx} {F : FP} {w : World} : ∀ {vs : List Value} {l : List At}, zAts vs = some l → AllP F w (l.map (At.rp c)) vs
  | [], _, h => by cases h; trivial
  | v :: vs, l, h => by
    simp only [zAts] at h
    obtain ⟨a, h1, h2⟩ := Option.bind_eq_some_iff.1 h
    obtain ⟨l', h3, rfl⟩ := Option.map_eq_some_iff.1 h2
    exact ⟨zAt_rp h1, zAts_rp h3⟩
/-- the cells of a type's zero value -/
def zeroT (P : Program) (t : TypeId) : Option (List At) := (P.info? t).bind fun i => i.zero.bind fun z => zAts z.cells.toList
theorem zeroT_ok {t : TypeId} {l : List At} (h : zeroT P t = some l) : ∃ i z, P.info? t = some i ∧ i.zero = some z ∧ ∀ c F w, AllP F w (l.map (At.rp c)) z.cells.toList := by
  obtain ⟨i, hi, h⟩ := Option.bind_eq_some_iff.1 h
  obtain ⟨z, hz, h⟩ := Option.bind_eq_some_iff.1 h
  exact ⟨i, z, hi, hz, fun c F w => zAts_rp h⟩

/-- arrays of more numbers than eight are data -/
def vecT (P : Program) (t : TypeId) : Option IntKind := match P.underlying t with
  | some (.array len e) => bif Nat.blt 8 len then (match P.underlying e with
    | some (.int k) => some k
    | _ => none) else none
  | _ => none
/-- a new variable whose arrays are entries -/
theorem OpOk.newP (hw : WF n env) {l : List At} (h : ∀ η, St P E N op ty (gma ⟨n, env, η⟩ G) (oma ⟨n, env, η⟩ O) [] (fun b : Nat => pv (ptr b 0)) (fun b => oma ⟨n, env, η⟩ O ++ [oc b (l.map (At.rp ⟨n, env, η⟩))])) :
    OpOk P E N op ty n env G O ⟨.vl false [.ptr O.length (n + (packZ n l.length l).2.length) 0], (packZ n l.length l).2, 1, [], [.oc (n + (packZ n l.length l).2.length) (packZ n l.length l).1]⟩ := by
  have hsrc : ∀ e ∈ (packZ n l.length l).2, SrcOk env e := packZ_src.ok
  refine ⟨hsrc, (fun _ _ h => by cases h), fun η => ?_⟩
  have h := h η
  generalize hes : (packZ n l.length l).2 = es at hsrc ⊢
  generalize hls : (packZ n l.length l).1 = ls
  refine h.to' fun b a w hs => ?_
  have hx := OpOk.ext hw (r := ⟨.vl false [.ptr O.length (n + es.length) 0], es, 1, [], [.oc (n + es.length) ls]⟩) hsrc ⟨updH η (n + es.length) ⟨.bool true, [], b, rfl⟩, fun k hk => updH_lt (by omega)⟩
  refine ⟨⟨updH η (n + es.length) ⟨.bool true, [], b, rfl⟩, fun k hk => updH_lt (by omega)⟩, ?_, ?_⟩
  · simp only [OpR.O', updO]
    refine oma_add hx ?_ hs
    obtain ⟨cells, ty', _, hl⟩ := hs.mem_ob (o := oc b (l.map (At.rp ⟨n, env, η⟩))) (by simp)
    have h1 := packZ_ok (n := n) (f := l.length) hx (fun i e he => by rw [hes] at he; exact lkE_keyed he) hl
    rw [hls] at h1
    simp only [MO.ob]
    rw [h1]
    simp only [OpR.cx', OpR.n', updH_at]
    rw [show Nat.blt (n + es.length) (n + es.length + 1) = true from by simp [Nat.blt_eq]]
    rfl
  · simp only [Sh.rp, vrp, cond_false, List.map_cons, List.headD_cons, At.rp, OpR.cx', OpR.n', updH_at]
    rw [show Nat.blt (n + es.length) (n + es.length + 1) = true from by simp [Nat.blt_eq]]
    rfl
def newC (n : Nat) (O : List MO) (l : List At) : OpR := ⟨.vl false [.ptr O.length (n + (packZ n l.length l).2.length) 0], (packZ n l.length l).2, 1, [], [.oc (n + (packZ n l.length l).2.length) (packZ n l.length l).1]⟩

def allocE (P : Program) (own : Bool) (n : Nat) (O : List MO) (t : TypeId) : Ask OpR := Ask.of (zeroT P t) fun l => match (bif own then none else vecT P t) with
  | some k => Ask.when (l.all (zerA k)) (.ret ⟨.vl false [.ptr O.length (n + 1) 0], [⟨.vec k, List.replicate l.length (0 : Int), none⟩], 1, [], [.oa (n + 1) n]⟩)
  | none => .ret (newC n O l)
theorem allocE_ok (hw : WF n env) {own : Bool} {t : TypeId} : AskOk (OpOk P E N (.alloc t) ty n env G O) (allocE P own n O t) :=
  AskOk.of fun l hl => by
    obtain ⟨i, z, hi, hz, h⟩ := zeroT_ok hl
    split
    · rename_i k hk
      refine AskOk.when fun hz0 => OpOk.newV hw fun η => ?_
      rw [← zerA_ok (c := ⟨n, env, η⟩) hz0]
      exact s_alloc ⟨i, z, hi, hz, fun F w => h _ F w⟩
    · exact OpOk.newP hw fun η => s_alloc ⟨i, z, hi, hz, fun F w => h _ F w⟩

def boxE (n : Nat) (G : List (Nat × Sh)) (O : List MO) (x : Operand) : Ask OpR := Ask.of (opC G x) fun l => .ret (newC n O l)
theorem boxE_ok (hw : WF n env) {t : TypeId} {x : Operand} : AskOk (OpOk P E N (.box t x) ty n env G O) (boxE n G O x) :=
  AskOk.of fun l hl => OpOk.newP hw fun η => (s_box (opC_part hl))

/-! ### struct literals -/
def placesT (P : Program) (fs : List Go.Field) : Option (List (Nat × Nat)) := match fs with
  | [] => some []
  | f :: fs => (sizeT P f.type).bind fun k => (placesT P fs).map ((f.offset, k) :: ·)
theorem placesT_ok : ∀ {fs : List Go.Field} {l : List (Nat × Nat)}, placesT P fs = some l → ∀ w, (fs.mapM (fun (f : Go.Field) => do pure (f.offset, ← Go.sizeOf f.type)) : Sem (List (Nat × Nat))).run P w = .ok l w
  | [], _, h, w => by cases h; rfl
  | f :: fs, l, h, w => by
    simp only [placesT] at h
    obtain ⟨k, h1, h2⟩ := Option.bind_eq_some_iff.1 h
    obtain ⟨l', h3, rfl⟩ := Option.map_eq_some_iff.1 h2
    have h4 := placesT_ok h3 w
    rw [List.mapM_cons]
    simp [sizeT_ok h1] at h4 ⊢
    rw [h4]; rfl

def fillA (places : List (Nat × Nat)) (l : List At) : List (Nat × List At) → Option (List At)
  | [] => some l
  | (i, cs) :: r => match places[i]? with
    | some (off, size) => bif Nat.beq cs.length size && Nat.ble (off + size) l.length then fillA places (l.take off ++ cs ++ l.drop (off + size)) r else none
    | none => none
theorem fillA_ok {f : At → RP} {places : List (Nat × Nat)} : ∀ {rs : List (Nat × List At)} {l out : List At}, fillA places l rs = some out →
    fitRP (fun i => places[i]?) l.length (rs.map fun p => (p.1, p.2.map f)) = true ∧ fillRP (fun i => places[i]?) (l.map f) (rs.map fun p => (p.1, p.2.map f)) = out.map f
  | [], l, out, h => by cases h; exact ⟨rfl, rfl⟩
  | (i, cs) :: r, l, out, h => by
    simp only [fillA] at h
    split at h
    · rename_i off size hp
      cases hb : Nat.beq cs.length size && Nat.ble (off + size) l.length with
      | false => rw [hb] at h; cases h
      | true =>
        rw [hb] at h
        obtain ⟨h1, h2⟩ := fillA_ok (f := f) h
        simp only [Bool.and_eq_true] at hb
        have hs := Nat.eq_of_beq_eq_true hb.1
        have hle : off + size ≤ l.length := Nat.le_of_ble_eq_true hb.2
        have hlen : (l.take off ++ cs ++ l.drop (off + size)).length = l.length := by simp; omega
        rw [hlen] at h1
        refine ⟨?_, ?_⟩
        · simp only [List.map_cons, fitRP, hp, List.length_map]
          rw [hb.1, hb.2, h1]; rfl
        · simp only [List.map_cons, fillRP, hp]
          rw [← h2]; simp [List.map_take, List.map_drop]
    · cases h

def partsC (G : List (Nat × Sh)) : List (Nat × Operand) → Option (List (Nat × List At))
  | [] => some []
  | (i, x) :: r => (opC G x).bind fun l => (partsC G r).map ((i, l) :: ·)
theorem partsC_ok {c : Cx} {Ω : List OB} : ∀ {ps : List (Nat × Operand)} {rs : List (Nat × List At)}, partsC G ps = some rs → PartsOk E N (gma c G) Ω ps (rs.map fun p => (p.1, p.2.map (At.rp c)))
  | [], _, h => by cases h; trivial
  | (i, x) :: r, rs, h => by
    simp only [partsC] at h
    obtain ⟨l, h1, h2⟩ := Option.bind_eq_some_iff.1 h
    obtain ⟨rs', h3, rfl⟩ := Option.map_eq_some_iff.1 h2
    exact ⟨rfl, opC_part h1, partsC_ok h3⟩

def buildE (P : Program) (G : List (Nat × Sh)) (t : TypeId) (ps : List (Nat × Operand)) : Ask OpR := match P.underlying t with
  | some (.struct fs) => Ask.of (zeroT P t) fun zs => Ask.of (placesT P fs.toList) fun pl => Ask.of (partsC G ps) fun rs => Ask.of (fillA pl zs rs) fun out => .ret (resS (.vl true out))
  | _ => .fail
theorem buildE_ok (hw : WF n env) {t : TypeId} {ps : List (Nat × Operand)} : AskOk (OpOk P E N (.build t ps.toArray) ty n env G O) (buildE P G t ps) := by
  unfold buildE
  split
  · rename_i fs hu
    refine AskOk.of fun zs hz => AskOk.of fun pl hpl => AskOk.of fun rs hrs => AskOk.of fun out hout => OpOk.same hw fun η => ?_
    obtain ⟨i, z, hi, hz', hall⟩ := zeroT_ok hz
    have hzl : z.cells.size = zs.length := by
      have := (hall ⟨0, [], fun _ => ⟨.bool true, [], 0, rfl⟩⟩ (fun _ => True) default).length
      simpa using this
    obtain ⟨h1, h2⟩ := fillA_ok (f := At.rp ⟨n, env, η⟩) hout
    refine r_build (E := E) (N := N) (Ω := oma ⟨n, env, η⟩ O) (ty := ty) (n := zs.length) (places := pl) (zs := zs.map (At.rp ⟨n, env, η⟩)) (rs := rs.map fun p => (p.1, p.2.map (At.rp ⟨n, env, η⟩))) ⟨fs, hu, ⟨i, z, hi, hz', hzl⟩, fun w => ?_⟩ (fun i' z' hi' hz'' F w => ?_) (partsC_ok hrs) (by rw [List.length_map]; exact h1) ?_
    · have := placesT_ok hpl w
      rw [Array.mapM_eq_mapM_toList]
      simp at this ⊢
      rw [this]; rfl
    · rw [hi] at hi'; cases hi'; rw [hz'] at hz''; cases hz''; exact hall _ F w
    · rw [h2]
  · trivial
end Go.Dc
