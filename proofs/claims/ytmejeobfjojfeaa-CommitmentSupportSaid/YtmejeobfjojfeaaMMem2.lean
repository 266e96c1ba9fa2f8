/- Part M.Mem2 of a proof: lemmas. -/
import Derived.Test.YtmejeobfjojfeaaDcDrawI
import Derived.Test.YtmejeobfjojfeaaDcMap
import Derived.Test.YtmejeobfjojfeaaDcMem4
import Derived.Laws.IdiomRangeMap
set_option linter.unusedSectionVars false
namespace Go.Dc
variable [DrawMode]
variable {P : Program} {E : Env} {N : Nat} {Γ : List (Nat × RP)} {Ω : List OB} {ty : TypeId}

def vidxM (n : Nat) (d : List Int) (i : Int) : Option Int := if d.length = n then idxM d i else none
theorem vidx_len {n : Nat} {d : List Int} {i y : Int} (h : vidxM n d i = some y) : d.length = n := by
 unfold vidxM at h; split at h
 ·assumption
 ·cases h
theorem vidx_idx {n : Nat} {d : List Int} {i y : Int} (h : vidxM n d i = some y) : idxM d i = some y := by
 have hl := vidx_len h
 unfold vidxM at h; rwa [if_pos hl] at h
theorem map_iv (k : IntKind) (d : List Int) : d.map (iv k) = d.flatMap (rI k).cp := by
 induction d with
 | nil => rfl
 | cons x d ih => rw [List.map_cons, List.flatMap_cons, ih]; rfl
theorem r_vload {e : TypeId} {x : Operand} {b j : Nat} {k : IntKind} {d : List Int} {n : Int} {y : Int} (hy : idxM d n = some y) (hg : ∀ w, (isAgg e).run P w = .ok false w)
  (hx : lkO Γ x = some (pv (ptr b (0 + n.toNat)))) (hj : Ω[j]? = some (oc b (d.map (iv k)))) : Rd P E N (.load e x) ty Γ Ω [j] (iv k y) :=
 r_acload (ρ := rI k) (off := 0) hy hg hx hj (by rw [← map_iv, List.drop_zero, List.take_of_length_le (by simp)]) rfl rfl
theorem s_vstore {e : TypeId} {x v : Operand} {b j : Nat} {k : IntKind} {d : List Int} {n : Int} {y u : Int} (hy : idxM d n = some y) (hn : ∀ w, (Go.sizeOf e).run P w = .ok 1 w)
  (hx : lkO Γ x = some (pv (ptr b (0 + n.toNat)))) (hj : Ω[j]? = some (oc b (d.map (iv k)))) (hv : PartOk E N Γ Ω v [iv k u]) : St P E N (.store e x v) ty Γ Ω [j] (fun _ : Unit => pv undef) (fun _ => Ω.set j (oc b ((d.set n.toNat u).map (iv k)))) :=
 s_acstore (off := 0) hy hn hx hj hv (Nat.ble_eq_true_of_le (by simp)) fun i hi e => by
  subst e
  simp only [Int.toNat_natCast, Nat.zero_add]
  rw [List.map_set]
  have hlt : i < (d.map (iv k)).length := by simpa using hi
  rw [List.set_eq_take_append_cons_drop, if_pos hlt]
  simp

end Go.Dc

set_option linter.unusedVariables false
set_option linter.unusedSimpArgs false
namespace Go.Dc

inductive Ty where
 | int (k : IntKind)
 | bool
 | str
 | sl (t : Ty)
 | op (t : Ty)
 | st (n : Nat)
 | mp (k v : Ty)
 | vec (k : IntKind)
 | dp (t : Ty)
 | dh (t : Ty)
 deriving DecidableEq

class SDen where
 den : Nat → Type

section
variable [SDen]
def Ty.den : Ty → Type
 | .int _ => Int
 | .bool => Bool
 | .str => ByteArray
 | .sl t => List t.den
 | .op t => Option t.den
 | .st n => SDen.den n
 | .mp k v => List (k.den × v.den)
 | .vec _ => List Int
 | .dp t => List (List t.den)
 | .dh t => Int × List (List t.den)

structure Dyn where
 t : Ty
 d : t.den
end

theorem oea_at {α : Type} {ρ : Rep α} {o : Option α} : (oea ρ o).At := by
 intro F w v h
 cases o with
 | none => rw [show v = _ from h]; rfl
 | some x => obtain ⟨_, _, _, _, _, _, e, _⟩ := h; rw [e]; rfl
def rOp {α : Type} (ρ : Rep α) : Rep (Option α) := one (oea ρ) fun _ => oea_at

class SRep extends SDen where
 rep : (n : Nat) → Rep (SDen.den n)
 agg : ∀ n, (rep n).agg = true

variable [SRep]
def Ty.rep : (t : Ty) → Rep t.den
 | .int k => rI k
 | .bool => rB
 | .str => rS
 | .sl t => rSl t.rep
 | .op t => rOp t.rep
 | .st n => SRep.rep n
 | .mp k v => Dc.one (fun _ : List (k.den × v.den) => anyc) fun _ => fun h => h
 | .vec _ => Dc.one (fun _ : List Int => anyc) fun _ => fun h => h
 | .dp t => rSl (rSl t.rep)
 | .dh t => Dc.one (fun _ : Int × List (List t.den) => anyc) fun _ => fun h => h

def Ty.one : Ty → Bool
 | .st _ => false
 | _ => true

theorem Ty.one_agg {t : Ty} (h : t.one = true) : t.rep.agg = false := by
 cases t <;> first | rfl | cases h

inductive Src where
 | el (ds : Nat) (ix : Int)
 | fl (y fo : Nat)
 | ve (ds : Nat) (ix : Int)
 | vf (ds : Nat) (ix : Int) (off len : Nat)
 | dl (ds k : Nat) (ix : Int)
 | hl (i0 k y : Nat)
 | ie (y0 ds : Nat) (ix : Int)
structure Ent where
 t : Ty
 d : t.den
 src : Option Src

inductive Cap where
 | ptr (o h : Nat)
 | fn (f : Nat)
 | nilp
 deriving DecidableEq

def pjG (d : List Int) (j : Nat) : Option Int := d[j]?
inductive At where
 | vr (i : Nat)
 | ci (k : IntKind) (n : Int)
 | cb (b : Bool)
 | ck (s : ByteArray)
 | nl
 | own (o h : Nat)
 | ptr (o h off : Nat)
 | mp (o h : Nat)
 | fn (f : Nat) (cs : List Cap)
 | nilf
 | nilp
 | ea (i : Nat)
 | fu (i : Nat)
 | oea (o h y : Nat)
 | oef (o h z : Nat)
 | pj (i j : Nat)
 | vs (o h off i c : Nat)
 | sb (o h a b sz : Nat)
 | inn (o h y : Nat)
 | junk

inductive Sh where
 | undef
 | vl (g : Bool) (l : List At)
 | tup (l : List (Bool × List At))

inductive MO where
 | dead
 | oa (h i : Nat)
 | oc (h : Nat) (l : List At)
 | pin (h h' e0 : Nat)
 | eqv (h h' : Nat)
 | fm (h : Nat) (l : List (Int × At))

structure Hd where
 hv : Value
 S : List Nat
 b : Nat
 one : hv.oneCell' = true
 subs : Nat → Sb

def lkE : List (Nat × Ent) → Nat → Option Ent
 | [], _ => none
 | (k, e) :: r, i => bif Nat.beq k i then some e else lkE r i

def RP.no : RP := ⟨fun _ _ _ => False, fun _ h => h⟩
def OB.no : OB := ⟨[], fun _ _ => False, fun _ _ h => h⟩

structure Cx where
 n : Nat
 env : List (Nat × Ent)
 η : Nat → Hd

def Cap.ok (n : Nat) : Cap → Bool
 | .ptr _ h => Nat.blt h n
 | .fn f => Nat.blt f 2000
 | .nilp => true
def Cap.val (η : Nat → Hd) : Cap → Value
 | .ptr _ h => Dc.ptr (η h).b 0
 | .fn f => .func (.func f) #[] #[]
 | .nilp => .pointer none

def innV (c : Cx) (h y : Nat) : Option Value := match lkE c.env y with
 | some ⟨_, _, some (.dl _ _ jx)⟩ => bif Nat.blt h c.n then some ((c.η h).subs jx.toNat).v else none
 | _ => none
def fnB : Nat := 2000
def fnV (f : Nat) (vs : List Value) : Value := bif Nat.blt f fnB then .func (.func f) #[] vs.toArray else .func (.func (f - fnB)) vs.toArray #[]

theorem fnV_un {f : Nat} {vs : List Value} (h : Nat.blt f fnB = true) : fnV f vs = .func (.func f) #[] vs.toArray := by unfold fnV; rw [h]; rfl
def At.rp (c : Cx) : At → RP
 | .vr i => match lkE c.env i with
  | some e => bif e.t.one then sh e.t.rep e.d else RP.no
  | none => RP.no
 | .ci k n => iv k n
 | .cb b => bv b
 | .ck s => sv s
 | .nl => pv (.slice none 0 0)
 | .own _ h => bif Nat.blt h c.n then pv (c.η h).hv else RP.no
 | .ptr _ h off => bif Nat.blt h c.n then pv (Dc.ptr (c.η h).b off) else RP.no
 | .mp _ h => bif Nat.blt h c.n then pv (.map (some (c.η h).b)) else RP.no
 | .fn f cs => bif cs.all (Cap.ok c.n) then pv (fnV f (cs.map (Cap.val c.η))) else RP.no
 | .nilf => pv .nilFunc
 | .nilp => pv (.pointer none)
 | .ea i => match lkE c.env i with
  | some e => Dc.ea e.t.rep e.d
  | none => RP.no
 | .fu i => match lkE c.env i with
  | some ⟨.sl t, d, _⟩ => slf t.rep d
  | _ => RP.no
 | .oea _ h y => match lkE c.env y with
  | some ⟨t, _, some (.el _ ix)⟩ => bif Nat.blt h c.n then pv (elA (c.η h).hv t.rep.size ix) else RP.no
  | some ⟨_, _, some (.ve _ ix)⟩ => bif Nat.blt h c.n then pv (Dc.ptr (c.η h).b (0 + ix.toNat)) else RP.no
  | some ⟨_, _, some (.vf _ ix off _)⟩ => bif Nat.blt h c.n then pv (Dc.ptr (c.η h).b (off + ix.toNat)) else RP.no
  | some ⟨_, _, some (.dl _ _ ix)⟩ => bif Nat.blt h c.n then pv (elA (c.η h).hv rH.size ix) else RP.no
  | some ⟨t, _, some (.ie y0 _ ix)⟩ => (match innV c h y0 with
   | some v => pv (elA v t.rep.size ix)
   | none => RP.no)
  | _ => RP.no
 | .oef _ h z => match lkE c.env z with
  | some ⟨_, _, some (.fl y fo)⟩ => (match lkE c.env y with
   | some ⟨t, _, some (.el _ ix)⟩ => bif Nat.blt h c.n then pv (elF (c.η h).hv t.rep.size ix fo) else RP.no
   | some ⟨t, _, some (.ie y0 _ ix)⟩ => (match innV c h y0 with
    | some v => pv (elF v t.rep.size ix fo)
    | none => RP.no)
   | _ => RP.no)
  | _ => RP.no
 | .pj i j => match lkE c.env i with
  | some ⟨.vec k, d, _⟩ => (match pjG d j with
   | some x => iv k x
   | none => RP.no)
  | _ => RP.no
 | .vs _ h off i cp => match lkE c.env i with
  | some ⟨.int _, l, _⟩ => bif Nat.blt h c.n then pv (.slice (some ⟨(c.η h).b, off, none⟩) (Int.toNat l) cp) else RP.no
  | _ => RP.no
 | .sb _ h a b sz => match lkE c.env a, lkE c.env b with
  | some ⟨.int _, l, _⟩, some ⟨.int _, m, _⟩ => bif Nat.blt h c.n then pv (subV (c.η h).hv sz (Int.toNat l) (Int.toNat m)) else RP.no
  | _, _ => RP.no
 | .inn _ h y => (match innV c h y with
  | some v => pv v
  | none => RP.no)
 | .junk => anyc

def vrp (c : Cx) (g : Bool) (l : List At) : RP := bif g then ag (l.map (At.rp c)) else (l.map (At.rp c)).headD RP.no

def Sh.rp (c : Cx) : Sh → RP
 | .undef => pv Go.undef
 | .vl g l => vrp c g l
 | .tup l => Dc.tup (l.map (fun x => vrp c x.1 x.2))

def Ent.asSl (e : Ent) : Option ((t : Ty) × List t.den) :=
 match e with
 | ⟨.sl t, d, _⟩ => some ⟨t, d⟩
 | _ => none

def Dyn.ob (D : Dyn) (h : Hd) : OB := match D with
 | ⟨.sl t, d⟩ => Dc.oa t.rep h.hv h.S d
 | ⟨.mp k v, d⟩ => Dc.om k.rep v.rep h.b d
 | ⟨.vec k, d⟩ => Dc.oc h.b (List.map (iv k) d)
 | ⟨.dp t, d⟩ => Dc.od t.rep h.hv h.S h.subs d
 | ⟨.dh t, d⟩ => Dc.oh t.rep h.hv h.S h.subs d.1.toNat d.2
 | _ => OB.no

def pinOB (a b : Hd) (ix : Nat) : OB := ⟨[], fun _ _ => b.hv = (a.subs ix).v ∧ b.S = (a.subs ix).S, fun _ _ h => h⟩
def eqvOB (a b : Hd) : OB := ⟨[], fun _ _ => a.hv = b.hv, fun _ _ h => h⟩
def Ent.asHole (e : Ent) : Option Nat := match e with
 | ⟨.dh _, d, _⟩ => some d.1.toNat
 | _ => none
abbrev Fv := { v : Value // v.oneCell' = true }
def rFv : Rep Fv := one (fun v => pv v.1) fun v => pv_at v.2
theorem fnV_one {f : Nat} {vs : List Value} : (fnV f vs).oneCell' = true := by unfold fnV; cases Nat.blt f fnB <;> rfl
def At.fv (c : Cx) : At → Fv
 | .fn f cs => ⟨fnV f (cs.map (Cap.val c.η)), fnV_one⟩
 | _ => ⟨.nilFunc, rfl⟩
def At.isFn (n : Nat) : At → Bool
 | .fn _ cs => cs.all (Cap.ok n)
 | _ => false
def MO.ob (c : Cx) : MO → OB
 | .dead => Dc.dead
 | .oa h i => match lkE c.env i with
  | some e => bif Nat.blt h c.n then Dyn.ob ⟨e.t, e.d⟩ (c.η h) else OB.no
  | none => OB.no
 | .oc h l => bif Nat.blt h c.n then Dc.oc (c.η h).b (l.map (At.rp c)) else OB.no
 | .pin h h' e0 => match (lkE c.env e0).bind Ent.asHole with
  | some k => bif Nat.blt h c.n && Nat.blt h' c.n then pinOB (c.η h) (c.η h') k else OB.no
  | none => OB.no
 | .eqv h h' => bif Nat.blt h c.n && Nat.blt h' c.n then eqvOB (c.η h) (c.η h') else OB.no
 | .fm h l => bif Nat.blt h c.n && l.all (fun x => x.2.isFn c.n) then Dc.om (rI .i64) rFv (c.η h).b (l.map fun x => (x.1, x.2.fv c)) else OB.no

structure Ext (c c' : Cx) : Prop where
 n : c.n ≤ c'.n
 env : ∀ i e, lkE c.env i = some e → lkE c'.env i = some e
 η : ∀ h, h < c.n → c'.η h = c.η h

theorem Ext.refl (c : Cx) : Ext c c := ⟨Nat.le_refl _, fun _ _ h => h, fun _ _ => rfl⟩
theorem Ext.trans {a b c : Cx} (h : Ext a b) (k : Ext b c) : Ext a c :=
 ⟨Nat.le_trans h.n k.n, fun i e he => k.env i e (h.env i e he), fun x hx => (k.η x (Nat.lt_of_lt_of_le hx h.n)).trans (h.η x hx)⟩

theorem blt_mono {h n m : Nat} (hb : Nat.blt h n = true) (hm : n ≤ m) : Nat.blt h m = true := by
 simp only [Nat.blt_eq] at hb ⊢; omega

theorem innV_ext {c c' : Cx} (hx : Ext c c') {h y : Nat} {v : Value} (hv : innV c h y = some v) : innV c' h y = some v := by
 unfold innV at hv ⊢
 split at hv
 ·rename_i e t d i k jx he
  rw [hx.env y _ he]
  simp only
  cases hb : Nat.blt h c.n with
  | false => rw [hb] at hv; cases hv
  | true =>
   rw [hb] at hv
   rw [blt_mono hb hx.n, hx.η h (by simpa [Nat.blt_eq] using hb)]
   exact hv
 ·cases hv
theorem capsEq {c c' : Cx} (hx : Ext c c') {cs : List Cap} (hb : cs.all (Cap.ok c.n) = true) : cs.all (Cap.ok c'.n) = true ∧ cs.map (Cap.val c'.η) = cs.map (Cap.val c.η) := by
 have h1 : ∀ x ∈ cs, Cap.ok c.n x = true := List.all_eq_true.1 hb
 refine ⟨List.all_eq_true.2 fun x hx' => ?_, List.map_congr_left fun x hx' => ?_⟩
 ·have := h1 x hx'
  cases x with
  | ptr o k => exact blt_mono this hx.n
  | _ => exact this
 ·have := h1 x hx'
  cases x with
  | ptr o k => simp only [Cap.val]; rw [hx.η k (by simpa [Cap.ok, Nat.blt_eq] using this)]
  | _ => rfl
theorem At.rp_eq {c c' : Cx} (hx : Ext c c') {a : At} {F : FP} {w : World} {v : Value} (h : (a.rp c).h F w v) : a.rp c' = a.rp c := by
 have hno : ∀ {F : FP} {w : World} {v : Value}, RP.no.h F w v → False := fun h => h
 cases a with
 | vr i =>
  simp only [At.rp] at h ⊢
  cases he : lkE c.env i with
  | none => rw [he] at h; exact h.elim
  | some e => rw [hx.env i e he]
 | ea i =>
  simp only [At.rp] at h ⊢
  cases he : lkE c.env i with
  | none => rw [he] at h; exact h.elim
  | some e => rw [hx.env i e he]
 | fu i =>
  simp only [At.rp] at h ⊢
  cases he : lkE c.env i with
  | none => rw [he] at h; exact h.elim
  | some e => rw [hx.env i e he]
 | own o k =>
  simp only [At.rp] at h ⊢
  cases hb : Nat.blt k c.n with
  | false => rw [hb] at h; exact h.elim
  | true => rw [blt_mono hb hx.n, hx.η k (by simpa [Nat.blt_eq] using hb)]
 | ptr o k off =>
  simp only [At.rp] at h ⊢
  cases hb : Nat.blt k c.n with
  | false => rw [hb] at h; exact h.elim
  | true => rw [blt_mono hb hx.n, hx.η k (by simpa [Nat.blt_eq] using hb)]
 | mp o k =>
  simp only [At.rp] at h ⊢
  cases hb : Nat.blt k c.n with
  | false => rw [hb] at h; exact h.elim
  | true => rw [blt_mono hb hx.n, hx.η k (by simpa [Nat.blt_eq] using hb)]
 | fn f cs =>
  simp only [At.rp] at h ⊢
  cases hb : cs.all (Cap.ok c.n) with
  | false => rw [hb] at h; exact h.elim
  | true =>
   have h1 : ∀ x ∈ cs, Cap.ok c.n x = true := List.all_eq_true.1 hb
   have h2 : cs.all (Cap.ok c'.n) = true := List.all_eq_true.2 fun x hx' => by
    have := h1 x hx'
    cases x with
    | ptr o k => exact blt_mono this hx.n
    | _ => exact this
   have h3 : cs.map (Cap.val c'.η) = cs.map (Cap.val c.η) := List.map_congr_left fun x hx' => by
    have := h1 x hx'
    cases x with
    | ptr o k => simp only [Cap.val]; rw [hx.η k (by simpa [Cap.ok, Nat.blt_eq] using this)]
    | _ => rfl
   rw [h2, h3]
 | oea o k y =>
  simp only [At.rp] at h ⊢
  split at h
  ·rename_i t d ds ix he
   rw [hx.env y _ he]
   simp only
   cases hb : Nat.blt k c.n with
   | false => rw [hb] at h; exact h.elim
   | true => rw [blt_mono hb hx.n, hx.η k (by simpa [Nat.blt_eq] using hb)]
  ·rename_i t d ds ix he
   rw [hx.env y _ he]
   simp only
   cases hb : Nat.blt k c.n with
   | false => rw [hb] at h; exact h.elim
   | true => rw [blt_mono hb hx.n, hx.η k (by simpa [Nat.blt_eq] using hb)]
  ·rename_i t d ds ix off ln he
   rw [hx.env y _ he]
   simp only
   cases hb : Nat.blt k c.n with
   | false => rw [hb] at h; exact h.elim
   | true => rw [blt_mono hb hx.n, hx.η k (by simpa [Nat.blt_eq] using hb)]
  ·rename_i t d ds kx ix he
   rw [hx.env y _ he]
   simp only
   cases hb : Nat.blt k c.n with
   | false => rw [hb] at h; exact h.elim
   | true => rw [blt_mono hb hx.n, hx.η k (by simpa [Nat.blt_eq] using hb)]
  ·rename_i t d y0 ds ix he
   rw [hx.env y _ he]
   simp only
   split at h
   ·rename_i v hv
    rw [innV_ext hx hv]
   ·exact h.elim
  ·exact h.elim
 | inn o k y =>
  simp only [At.rp] at h ⊢
  split at h
  ·rename_i v hv
   rw [innV_ext hx hv]
  ·exact h.elim
 | pj i j =>
  simp only [At.rp] at h ⊢
  cases he : lkE c.env i with
  | none => rw [he] at h; exact h.elim
  | some e => rw [hx.env i e he]
 | vs o k off i cp =>
  simp only [At.rp] at h ⊢
  split at h
  ·rename_i kd l s he
   rw [hx.env i _ he]
   simp only
   cases hb : Nat.blt k c.n with
   | false => rw [hb] at h; exact h.elim
   | true => rw [blt_mono hb hx.n, hx.η k (by simpa [Nat.blt_eq] using hb)]
  ·exact h.elim
 | sb o k a b sz =>
  simp only [At.rp] at h ⊢
  split at h
  ·rename_i k1 l1 s1 k2 l2 s2 he1 he2
   rw [hx.env a _ he1, hx.env b _ he2]
   simp only
   cases hb : Nat.blt k c.n with
   | false => rw [hb] at h; exact h.elim
   | true => rw [blt_mono hb hx.n, hx.η k (by simpa [Nat.blt_eq] using hb)]
  ·exact h.elim
 | oef o k z =>
  simp only [At.rp] at h ⊢
  split at h
  ·rename_i t d y fo he
   rw [hx.env z _ he]
   simp only
   split at h
   ·rename_i t2 d2 ds ix he2
    rw [hx.env y _ he2]
    simp only
    cases hb : Nat.blt k c.n with
    | false => rw [hb] at h; exact h.elim
    | true => rw [blt_mono hb hx.n, hx.η k (by simpa [Nat.blt_eq] using hb)]
   ·rename_i t2 d2 y0 ds ix he2
    rw [hx.env y _ he2]
    simp only
    split at h
    ·rename_i v hv
     rw [innV_ext hx hv]
    ·exact h.elim
   ·exact h.elim
  ·exact h.elim
 | _ => rfl

theorem atl_eq {c c' : Cx} (hx : Ext c c') {F : FP} {w : World} : ∀ {l : List At} {vs : List Value}, AllP F w (l.map (At.rp c)) vs → l.map (At.rp c') = l.map (At.rp c)
 | [], _, _ => rfl
 | a :: l, v :: vs, ⟨h1, h2⟩ => by rw [List.map_cons, List.map_cons, At.rp_eq hx h1, atl_eq hx h2]
 | _ :: _, [], h => h.elim

theorem vrp_eq {c c' : Cx} (hx : Ext c c') {g : Bool} {l : List At} {F : FP} {w : World} {v : Value} (h : (vrp c g l).h F w v) : vrp c' g l = vrp c g l := by
 unfold vrp at h ⊢
 cases g with
 | true => obtain ⟨cs, _, h⟩ := h; simp only [cond_true]; rw [atl_eq hx h]
 | false =>
  cases l with
  | nil => rfl
  | cons a l => exact At.rp_eq hx h

theorem vrpl_eq {c c' : Cx} (hx : Ext c c') {F : FP} {w : World} : ∀ {l : List (Bool × List At)} {vs : List Value}, AllP F w (l.map (fun x => vrp c x.1 x.2)) vs → (l.map fun x => vrp c' x.1 x.2) = l.map fun x => vrp c x.1 x.2
 | [], _, _ => rfl
 | a :: l, v :: vs, ⟨h1, h2⟩ => by rw [List.map_cons, List.map_cons, vrp_eq hx h1, vrpl_eq hx h2]
 | _ :: _, [], h => h.elim

theorem Sh.rp_eq {c c' : Cx} (hx : Ext c c') {s : Sh} {F : FP} {w : World} {v : Value} (h : (s.rp c).h F w v) : s.rp c' = s.rp c := by
 cases s with
 | undef => rfl
 | vl g l => exact vrp_eq hx h
 | tup l => obtain ⟨cs, _, h⟩ := h; simp only [Sh.rp]; rw [vrpl_eq hx h]

theorem At.fv_ext {c c' : Cx} (hx : Ext c c') {a : At} (h : a.isFn c.n = true) : a.isFn c'.n = true ∧ a.fv c' = a.fv c := by
 cases a with
 | fn f cs =>
  obtain ⟨h1, h2⟩ := capsEq hx (cs := cs) h
  exact ⟨h1, Subtype.ext (by simp only [At.fv, h2])⟩
 | _ => cases h
theorem fm_ext {c c' : Cx} (hx : Ext c c') {l : List (Int × At)} (h : l.all (fun x => x.2.isFn c.n) = true) : l.all (fun x => x.2.isFn c'.n) = true ∧ (l.map fun x => (x.1, x.2.fv c')) = l.map fun x => (x.1, x.2.fv c) := by
 have h1 := List.all_eq_true.1 h
 exact ⟨List.all_eq_true.2 fun x hx' => (At.fv_ext hx (h1 x hx')).1, List.map_congr_left fun x hx' => by rw [(At.fv_ext hx (h1 x hx')).2]⟩
theorem MO.ob_eq {c c' : Cx} (hx : Ext c c') {o : MO} {F : FP} {w : World} (h : (o.ob c).h F w) : o.ob c' = o.ob c := by
 cases o with
 | dead => rfl
 | oa k i =>
  simp only [MO.ob] at h ⊢
  cases he : lkE c.env i with
  | none => rw [he] at h; exact h.elim
  | some e =>
   rw [hx.env i e he]; rw [he] at h
   simp only at h ⊢
   cases hb : Nat.blt k c.n with
   | false => rw [hb] at h; exact h.elim
   | true => rw [blt_mono hb hx.n, hx.η k (by simpa [Nat.blt_eq] using hb)]
 | oc k l =>
  simp only [MO.ob] at h ⊢
  cases hb : Nat.blt k c.n with
  | false => rw [hb] at h; exact h.elim
  | true =>
   rw [hb] at h
   rw [blt_mono hb hx.n, hx.η k (by simpa [Nat.blt_eq] using hb)]
   obtain ⟨cells, ty, _, hl⟩ := h
   rw [atl_eq hx hl]
 | pin k k' e0 =>
  simp only [MO.ob] at h ⊢
  cases he : lkE c.env e0 with
  | none => rw [he] at h; exact h.elim
  | some e =>
   rw [hx.env e0 e he]; rw [he] at h
   simp only [Option.bind_some] at h ⊢
   cases h1 : e.asHole with
   | none => rw [h1] at h <;> exact h.elim
   | some q =>
    rw [h1] at h
    simp only at h ⊢
    cases hb : Nat.blt k c.n with
    | false => rw [hb] at h; exact h.elim
    | true =>
     cases hb' : Nat.blt k' c.n with
     | false => rw [hb, hb'] at h; exact h.elim
     | true => rw [blt_mono hb hx.n, blt_mono hb' hx.n, hx.η k (by simpa [Nat.blt_eq] using hb), hx.η k' (by simpa [Nat.blt_eq] using hb')]
 | eqv k k' =>
  simp only [MO.ob] at h ⊢
  cases hb : Nat.blt k c.n with
  | false => rw [hb] at h; exact h.elim
  | true =>
   cases hb' : Nat.blt k' c.n with
   | false => rw [hb, hb'] at h; exact h.elim
   | true => rw [blt_mono hb hx.n, blt_mono hb' hx.n, hx.η k (by simpa [Nat.blt_eq] using hb), hx.η k' (by simpa [Nat.blt_eq] using hb')]
 | fm k l =>
  simp only [MO.ob] at h ⊢
  cases hb : Nat.blt k c.n && l.all (fun x => x.2.isFn c.n) with
  | false => rw [hb] at h; exact h.elim
  | true =>
   have hb' := hb
   simp only [Bool.and_eq_true] at hb'
   have h2 := fm_ext hx hb'.2
   rw [blt_mono hb'.1 hx.n, h2.1, h2.2, hx.η k (by simpa [Nat.blt_eq] using hb'.1)]; rfl

structure MSt where
 n : Nat
 env : List (Nat × Ent)
 G : List (Nat × Sh)
 O : List MO

def gma (c : Cx) (G : List (Nat × Sh)) : List (Nat × RP) := G.map fun x => (x.1, x.2.rp c)
def oma (c : Cx) (O : List MO) : List OB := O.map (MO.ob c)

def lkG : List (Nat × Sh) → Nat → Option Sh
 | [], _ => none
 | (t, s) :: r, i => bif Nat.beq t i then some s else lkG r i

theorem lk_gma {c : Cx} {G : List (Nat × Sh)} {t : Nat} : lk (gma c G) t = (lkG G t).map (Sh.rp c) := by
 induction G with
 | nil => rfl
 | cons x r ih =>
  obtain ⟨s, v⟩ := x
  simp only [gma, List.map_cons, lk, lkG]
  cases Nat.beq s t with
  | true => rfl
  | false => exact ih

def SrcOk (env : List (Nat × Ent)) (e : Ent) : Prop := match e.src with
 | none => True
 | some (.el ds ix) => ∃ (l : List e.t.den) (s : Option Src), lkE env ds = some ⟨.sl e.t, l, s⟩ ∧ idxM l ix = some e.d
 | some (.fl y fo) => ∃ ey : Ent, lkE env y = some ey ∧ ((ey.t.rep.cp ey.d).drop fo).take e.t.rep.size = e.t.rep.cp e.d ∧ fo + e.t.rep.size ≤ ey.t.rep.size
 | some (.ve ds ix) => ∃ (k : IntKind) (l : List Int) (s : Option Src) (y : Int), lkE env ds = some ⟨.vec k, l, s⟩ ∧ idxM l ix = some y ∧ e = ⟨.int k, y, some (.ve ds ix)⟩
 | some (.vf ds ix off len) => ∃ (k : IntKind) (l : List Int) (s : Option Src) (y : Int), lkE env ds = some ⟨.vec k, l, s⟩ ∧ idxM l ix = some y ∧ ix < (len : Int) ∧ e = ⟨.int k, y, some (.vf ds ix off len)⟩
 | some (.dl ds k ix) => ∃ (t : Ty) (l : List (List t.den)) (s : Option Src) (y : List t.den), (lkE env ds = some ⟨.dp t, l, s⟩ ∨ ∃ q, lkE env ds = some ⟨.dh t, (q, l), s⟩) ∧ idxM l ix = some y ∧ e = ⟨.sl t, y, some (.dl ds k ix)⟩ ∧ ∃ kd s', lkE env k = some ⟨.int kd, ix, s'⟩
 | some (.hl i0 k y) => ∃ (t : Ty) (ix : Int) (l : List (List t.den)) (s1 : Option Src) (yd : List t.den), e = ⟨.dh t, (ix, l), some (.hl i0 k y)⟩ ∧ (∃ kd s', lkE env k = some ⟨.int kd, ix, s'⟩) ∧
   lkE env i0 = some ⟨.dp t, l, s1⟩ ∧ lkE env y = some ⟨.sl t, yd, some (.dl i0 k ix)⟩ ∧ idxM l ix = some yd
 | some (.ie y0 ds ix) => ∃ (t : Ty) (yd : List t.den) (i k : Nat) (jx : Int), lkE env y0 = some ⟨.sl t, yd, some (.dl i k jx)⟩ ∧ ∃ (l : List (List t.den)) (s : Option Src) (yl : List t.den), lkE env ds = some ⟨.dp t, l, s⟩ ∧ idxM l jx = some yl ∧
   ∃ z : t.den, idxM yl ix = some z ∧ e = ⟨t, z, some (.ie y0 ds ix)⟩

structure WF (n : Nat) (env : List (Nat × Ent)) : Prop where
 lt : ∀ i e, lkE env i = some e → i < n
 src : ∀ i e, lkE env i = some e → SrcOk env e

variable [DrawMode] {R : Type} {P : Program} {E : Env} {N : Nat} {K : KT R} {m : Option R}

theorem Sat.mext {c c' : Cx} {G : List (Nat × Sh)} {O : List MO} {a : Act} {w : World} (hs : Sat E N (gma c G) (oma c O) a w) (hx : Ext c c') : Sat E N (gma c' G) (oma c' O) a w := by
 have hO : oma c' O = oma c O := List.map_congr_left fun o ho => MO.ob_eq hx (hs.ob _ (List.mem_map_of_mem ho))
 rw [hO]
 refine hs.weak fun t φ h => ?_
 rw [lk_gma] at h ⊢
 cases hg : lkG G t with
 | none => rw [hg] at h; cases h
 | some s =>
  rw [hg] at h; cases h
  have h1 := hs.sl t (s.rp c) (by rw [lk_gma, hg]; rfl)
  rw [Sh.rp_eq hx h1]; rfl

end Go.Dc

namespace Go.Dc
variable [SRep] [DrawMode] {R : Type} {P : Program} {E : Env} {N : Nat} {K : KT R} {m : Option R} {op : Op} {ty : TypeId} {n : Nat} {env : List (Nat × Ent)} {G : List (Nat × Sh)} {O : List MO}

inductive Ask (α : Type) : Type 1 where
 | ret (a : α)
 | bind {β : Type} (m : Option β) (k : β → Ask α)
 | cond (b : Bool) (x y : Ask α)
 | fail

def Ask.run {α : Type} : Ask α → (α → Option R) → Option R
 | .ret a, c => c a
 | .bind m k, c => Option.bind m fun b => (k b).run c
 | .cond b x y, c => bif b then x.run c else y.run c
 | .fail, _ => none

def AskOk {α : Type} (Q : α → Prop) : Ask α → Prop
 | .ret a => Q a
 | .bind m k => ∀ b, m = some b → AskOk Q (k b)
 | .cond b x y => (b = true → AskOk Q x) ∧ (b = false → AskOk Q y)
 | .fail => True

theorem ref_ask {α : Type} {Q : α → Prop} {Φ : R → Prop} {c : α → Option R} : ∀ {r : Ask α}, AskOk Q r → (∀ a, Q a → RefG (c a) Φ) → RefG (r.run c) Φ
 | .ret a, h, hc => hc a h
 | .bind m k, h, hc => pull fun b hb => ref_ask (h b hb) hc
 | .cond true x y, h, hc => ref_ask (r := x) (h.1 rfl) hc
 | .cond false x y, h, hc => ref_ask (r := y) (h.2 rfl) hc
 | .fail, _, _ => fun r hr => by cases hr

theorem AskOk.mono {α : Type} {Q Q' : α → Prop} (hq : ∀ a, Q a → Q' a) : ∀ {r : Ask α}, AskOk Q r → AskOk Q' r
 | .ret a, h => hq a h
 | .bind m k, h => fun b hb => (h b hb).mono hq
 | .cond _ _ _, h => ⟨fun e => (h.1 e).mono hq, fun e => (h.2 e).mono hq⟩
 | .fail, _ => trivial

def Ask.of {α β : Type} (x : Option β) (k : β → Ask α) : Ask α := match x with
 | some b => k b
 | none => .fail
theorem AskOk.of {α β : Type} {Q : α → Prop} {x : Option β} {k : β → Ask α} (h : ∀ b, x = some b → AskOk Q (k b)) : AskOk Q (Ask.of x k) := by
 cases x with
 | none => trivial
 | some b => exact h b rfl
def Ask.when {α : Type} (b : Bool) (k : Ask α) : Ask α := bif b then k else .fail
theorem AskOk.when {α : Type} {Q : α → Prop} {b : Bool} {k : Ask α} (h : b = true → AskOk Q k) : AskOk Q (Ask.when b k) := by
 cases b with
 | false => trivial
 | true => exact h rfl

structure OpR where
 val : Sh
 add : List Ent
 nh : Nat
 upd : List (Nat × MO)
 new : List MO

def keyed : Nat → List Ent → List (Nat × Ent) → List (Nat × Ent)
 | _, [], env => env
 | n, e :: es, env => keyed (n + 1) es ((n, e) :: env)
def updO : List (Nat × MO) → List MO → List MO
 | [], O => O
 | (j, o) :: r, O => updO r (O.set j o)

def OpR.n' (r : OpR) (n : Nat) : Nat := n + r.add.length + r.nh
def OpR.env' (r : OpR) (n : Nat) (env : List (Nat × Ent)) : List (Nat × Ent) := keyed n r.add env
def OpR.O' (r : OpR) (O : List MO) : List MO := updO r.upd O ++ r.new
def OpR.cx' (r : OpR) (n : Nat) (env : List (Nat × Ent)) (η : Nat → Hd) : Cx := ⟨r.n' n, r.env' n env, η⟩

theorem lkE_cons {n i : Nat} {e : Ent} {env : List (Nat × Ent)} : lkE ((n, e) :: env) i = if i = n then some e else lkE env i := by
 simp only [lkE]
 by_cases h : i = n
 ·subst h; simp
 ·rw [beq_ne (Ne.symm h), if_neg h]; rfl

theorem SrcOk.mono {env env' : List (Nat × Ent)} (h : ∀ i e, lkE env i = some e → lkE env' i = some e) {x : Ent} (hx : SrcOk env x) : SrcOk env' x := by
 unfold SrcOk at hx ⊢
 split
 ·trivial
 ·rename_i ds ix he
  rw [he] at hx
  obtain ⟨l, s, h1, h2⟩ := hx
  exact ⟨l, s, h _ _ h1, h2⟩
 ·rename_i y fo he
  rw [he] at hx
  obtain ⟨ey, h1, h2⟩ := hx
  exact ⟨ey, h _ _ h1, h2⟩
 ·rename_i ds ix he
  rw [he] at hx
  obtain ⟨k, l, s, y, h1, h2, h3⟩ := hx
  exact ⟨k, l, s, y, h _ _ h1, h2, h3⟩
 ·rename_i ds ix off ln he
  rw [he] at hx
  obtain ⟨k, l, s, y, h1, h2, h3, h4⟩ := hx
  exact ⟨k, l, s, y, h _ _ h1, h2, h3, h4⟩
 ·rename_i ds k ix he
  rw [he] at hx
  obtain ⟨t, l, s, y, h1, h2, h3, kd, s', h4⟩ := hx
  exact ⟨t, l, s, y, h1.imp (h _ _) (fun ⟨q, hq⟩ => ⟨q, h _ _ hq⟩), h2, h3, kd, s', h _ _ h4⟩
 ·rename_i i0 k y he
  rw [he] at hx
  obtain ⟨t, ix, l, s1, yd, h1, ⟨kd, s', h2⟩, h3, h4, h5⟩ := hx
  exact ⟨t, ix, l, s1, yd, h1, ⟨kd, s', h _ _ h2⟩, h _ _ h3, h _ _ h4, h5⟩
 ·rename_i y0 ds ix he
  rw [he] at hx
  obtain ⟨t, yd, i, k, jx, h1, l, s, yl, h2, h3⟩ := hx
  exact ⟨t, yd, i, k, jx, h _ _ h1, l, s, yl, h _ _ h2, h3⟩
theorem SrcOk.none {env : List (Nat × Ent)} {e : Ent} (h : e.src = Option.none) : SrcOk env e := by unfold SrcOk; rw [h]; trivial

theorem WF.cons (h : WF n env) {e : Ent} (he : SrcOk env e) : WF (n + 1) ((n, e) :: env) := by
 have hold : ∀ i x, lkE env i = some x → lkE ((n, e) :: env) i = some x := fun i x hx => by
  have := h.lt i x hx
  rw [lkE_cons, if_neg (by omega)]; exact hx
 have hup : ∀ {x : Ent}, SrcOk env x → SrcOk ((n, e) :: env) x := fun {x} hx => hx.mono hold
 refine ⟨fun i x hi => ?_, fun i x hi => ?_⟩
 ·rw [lkE_cons] at hi
  by_cases e1 : i = n
  ·omega
  ·rw [if_neg e1] at hi; have := h.lt i x hi; omega
 ·rw [lkE_cons] at hi
  by_cases e1 : i = n
  ·rw [if_pos e1] at hi; cases hi; exact hup he
  ·rw [if_neg e1] at hi; exact hup (h.src i x hi)

theorem WF.le (h : WF n env) {n' : Nat} (hn : n ≤ n') : WF n' env := ⟨fun i e he => Nat.lt_of_lt_of_le (h.lt i e he) hn, h.src⟩

theorem keyed_ok : ∀ {es : List Ent} {n : Nat} {env : List (Nat × Ent)}, WF n env → (∀ e ∈ es, SrcOk env e) → WF (n + es.length) (keyed n es env) ∧ ∀ i x, lkE env i = some x → lkE (keyed n es env) i = some x
 | [], n, env, h, _ => ⟨h, fun _ _ h => h⟩
 | e :: es, n, env, h, he => by
  have hold : ∀ i x, lkE env i = some x → lkE ((n, e) :: env) i = some x := fun i x hx => by
   have := h.lt i x hx
   rw [lkE_cons, if_neg (by omega)]; exact hx
  obtain ⟨h1, h2⟩ := keyed_ok (es := es) (h.cons (he e (by simp))) (fun x hx => (he x (by simp [hx])).mono hold)
  refine ⟨?_, fun i x hx => h2 i x (hold i x hx)⟩
  rw [show n + (e :: es).length = n + 1 + es.length from by simp; omega]
  exact h1

def noSrc (es : List Ent) : Prop := ∀ e ∈ es, e.src = none
theorem noSrc.ok {es : List Ent} (h : noSrc es) : ∀ e ∈ es, SrcOk env e := fun e he => .none (h e he)

abbrev Agr (n : Nat) (η : Nat → Hd) := { η' : Nat → Hd // ∀ h, h < n → η' h = η h }

def isQuiet : Op → Bool
 | .move _ => true
 | .pick _ _ _ => true
 | .build _ _ => true
 | .load _ _ => true
 | .nilCheck _ => true
 | .binOp _ _ _ _ _ => true
 | .unOp _ _ _ => true
 | .convert _ _ _ => true
 | .makeFunc _ _ _ => true
 | .slice _ _ _ _ _ => true
 | .fieldAddr _ _ _ => true
 | .field _ _ _ => true
 | .indexAddr _ _ _ => true
 | .index _ _ _ => true
 | .extract _ _ => true
 | .lookup _ _ _ _ => true
 | .call ⟨.builtin .len, _, _⟩ => true
 | .call ⟨.builtin .min, _, _⟩ => true
 | .call ⟨.builtin .max, _, _⟩ => true
 | _ => false
def addrO : Option Sh → List Nat
 | some (.vl false [.ptr o _ _]) => [o]
 | some (.vl false [.oea o _ _]) => [o]
 | some (.vl false [.oef o _ _]) => [o]
 | some (.vl false [.mp o _]) => [o]
 | _ => []
def readO (G : List (Nat × Sh)) : Op → List Nat
 | .load _ (.tmp t) => addrO (lkG G t)
 | .lookup _ (.tmp t) _ _ => addrO (lkG G t)
 | _ => []

theorem Rd.mono {Γ : List (Nat × RP)} {Ω : List OB} {J J' : List Nat} {φ : RP} (h : Rd P E N op ty Γ Ω J φ) (hJ : ∀ j ∈ J, j ∈ J') : Rd P E N op ty Γ Ω J' φ := fun a w hs => by
 obtain ⟨v, B, h1, h2, h3⟩ := h a w hs
 exact ⟨v, B, h1, fun b hb => ⟨(h2 b hb).1, (h2 b hb).2.imp id fun ⟨j, hj, h⟩ => ⟨j, hJ j hj, h⟩⟩, h3⟩

structure OpOk (P : Program) (E : Env) (N : Nat) (op : Op) (ty : TypeId) (n : Nat) (env : List (Nat × Ent)) (G : List (Nat × Sh)) (O : List MO) (r : OpR) : Prop where
 src : ∀ e ∈ r.add, SrcOk env e
 rd : isQuiet op = true → r.upd = [] → r.new = [] → r.nh = 0 → ∀ η, Rd P E N op ty (gma ⟨n, env, η⟩ G) (oma ⟨n, env, η⟩ O) (readO G op) (r.val.rp (r.cx' n env η))
 st : ∀ η, St P E N op ty (gma ⟨n, env, η⟩ G) (oma ⟨n, env, η⟩ O) (r.upd.map (·.1)) (fun x : Agr n η => r.val.rp (r.cx' n env x.1)) (fun x => oma (r.cx' n env x.1) (r.O' O))

theorem OpOk.ext {r : OpR} (hw : WF n env) (h : ∀ e ∈ r.add, SrcOk env e) {η : Nat → Hd} (x : Agr n η) : Ext ⟨n, env, η⟩ (r.cx' n env x.1) :=
 ⟨by simp only [OpR.cx', OpR.n']; omega, fun i e he => (keyed_ok hw h).2 i e he, x.2⟩
theorem OpR.wf {r : OpR} (hw : WF n env) (h : ∀ e ∈ r.add, SrcOk env e) : WF (r.n' n) (r.env' n env) :=
 (keyed_ok hw h).1.le (by simp only [OpR.n']; omega)

theorem oma_good {c c' : Cx} (hx : Ext c c') {O : List MO} {Γ : List (Nat × RP)} {a : Act} {w : World} (hs : Sat E N Γ (oma c O) a w) : oma c' O = oma c O :=
 List.map_congr_left fun o ho => MO.ob_eq hx (hs.ob _ (List.mem_map_of_mem ho))

theorem oma_set {c c' : Cx} (hx : Ext c c') {O : List MO} {Γ : List (Nat × RP)} {a : Act} {w : World} {j : Nat} {mo : MO} {o : OB} (hmo : mo.ob c' = o) (hs : Sat E N Γ ((oma c O).set j o) a w) :
  oma c' (O.set j mo) = (oma c O).set j o := by
 refine List.ext_getElem? fun i => ?_
 unfold oma
 by_cases e : j = i
 ·subst e
  by_cases hlt : j < O.length
  ·rw [List.getElem?_map, List.getElem?_set_self hlt, List.getElem?_set_self (by simpa using hlt), Option.map_some, hmo]
  ·rw [List.getElem?_eq_none (by simp; omega), List.getElem?_eq_none (by simp; omega)]
 ·rw [List.getElem?_map, List.getElem?_set_ne e, List.getElem?_set_ne e, List.getElem?_map]
  cases ho : O[i]? with
  | none => rfl
  | some q =>
   simp only [Option.map_some]
   have hq : (((oma c O).set j o))[i]? = some (q.ob c) := by rw [List.getElem?_set_ne e]; simp [oma, ho]
   rw [MO.ob_eq hx (hs.ob _ (List.mem_of_getElem? hq))]

theorem oma_add {c c' : Cx} (hx : Ext c c') {O : List MO} {Γ : List (Nat × RP)} {a : Act} {w : World} {mo : MO} {o : OB} (hmo : mo.ob c' = o) (hs : Sat E N Γ (oma c O ++ [o]) a w) :
  oma c' (O ++ [mo]) = oma c O ++ [o] := by
 have h1 : oma c' O = oma c O := List.map_congr_left fun q hq => MO.ob_eq hx (hs.ob _ (List.mem_append_left _ (List.mem_map_of_mem hq)))
 unfold oma at h1 ⊢
 rw [List.map_append, h1]; simp [hmo]

theorem St.to' {X Y : Type} {Γ : List (Nat × RP)} {Ω : List OB} {js : List Nat} {φ : X → RP} {Ω' : X → List OB} {ψ : Y → RP} {Ω2 : Y → List OB} (h : St P E N op ty Γ Ω js φ Ω')
  (hy : ∀ x a w, Sat E N Γ (Ω' x) a w → ∃ y, Ω2 y = Ω' x ∧ ψ y = φ x) : St P E N op ty Γ Ω js ψ Ω2 := by
 intro a w hs o ho ht
 refine (h a w hs o ho ht).mono ?_
 rintro v w' ⟨x, h1, h2, h3⟩
 obtain ⟨y, e1, e2⟩ := hy x a w' h1
 exact ⟨y, by rw [e1]; exact h1, by rw [e1, e2]; exact h2, by rw [e1]; exact h3⟩

theorem OpOk.rdJ (hw : WF n env) {val : Sh} {add : List Ent} (hs : ∀ e ∈ add, SrcOk env e) {J : List Nat} (hJ : ∀ j ∈ J, j ∈ readO G op) (h : ∀ η, Rd P E N op ty (gma ⟨n, env, η⟩ G) (oma ⟨n, env, η⟩ O) J (val.rp ⟨n + add.length, keyed n add env, η⟩)) :
  OpOk P E N op ty n env G O ⟨val, add, 0, [], []⟩ := by
 refine ⟨hs, fun _ _ _ _ η => (h η).mono hJ, fun η => (St.ofRd (h η)).to' fun _ a w hsat => ⟨⟨η, fun _ _ => rfl⟩, ?_, rfl⟩⟩
 simp only [OpR.O', updO, List.append_nil]
 exact oma_good (OpOk.ext hw (r := ⟨val, add, 0, [], []⟩) hs ⟨η, fun _ _ => rfl⟩) hsat
theorem OpOk.rd' (hw : WF n env) {val : Sh} {add : List Ent} (hs : ∀ e ∈ add, SrcOk env e) (h : ∀ η, Rd P E N op ty (gma ⟨n, env, η⟩ G) (oma ⟨n, env, η⟩ O) [] (val.rp ⟨n + add.length, keyed n add env, η⟩)) :
  OpOk P E N op ty n env G O ⟨val, add, 0, [], []⟩ := OpOk.rdJ hw hs (fun j hj => by simp at hj) h

theorem Sat.mextΓ {c c' : Cx} {G : List (Nat × Sh)} {Ω : List OB} {a : Act} {w : World} (hx : Ext c c') {d : Nat} {φ : RP} (hs : Sat E N ((d, φ) :: gma c G) Ω a w) {s : Sh} (he : s.rp c' = φ) : Sat E N (gma c' ((d, s) :: G)) Ω a w := by
 refine hs.weak fun t ψ h => ?_
 have h' : lk ((d, s.rp c') :: gma c' G) t = some ψ := h
 by_cases e : d = t
 ·subst e; rw [lk_cons_eq] at h' ⊢; rw [← he]; exact h'
 ·rw [lk_cons_ne e] at h' ⊢
  rw [lk_gma] at h' ⊢
  cases hg : lkG G t with
  | none => rw [hg] at h'; cases h'
  | some q =>
   rw [hg] at h'
   have h1 := hs.sl t (q.rp c) (by rw [lk_cons_ne e, lk_gma, hg]; rfl)
   simp only [Option.map_some] at h' ⊢
   rw [← Sh.rp_eq hx h1]; exact h'
theorem Sat.mextΓ0 {c c' : Cx} {G : List (Nat × Sh)} {Ω : List OB} {a : Act} {w : World} (hx : Ext c c') (hs : Sat E N (gma c G) Ω a w) : Sat E N (gma c' G) Ω a w := by
 refine hs.weak fun t ψ h' => ?_
 rw [lk_gma] at h' ⊢
 cases hg : lkG G t with
 | none => rw [hg] at h'; cases h'
 | some q =>
  rw [hg] at h'
  have h1 := hs.sl t (q.rp c) (by rw [lk_gma, hg]; rfl)
  simp only [Option.map_some] at h' ⊢
  rw [← Sh.rp_eq hx h1]; exact h'

variable {ops : Array Oper} {rest : List Oper}
theorem OpOk.step (hw : WF n env) {r : OpR} (h : OpOk P E N op ty n env G O r) {η : Nat → Hd} {d : Nat} {pos : String} {aft : Array Edge} (hd : Nat.blt d N = true)
  (hk : ∀ x : Agr n η, RefL P E N m ops rest (gma (r.cx' n env x.1) ((d, r.val) :: G)) (oma (r.cx' n env x.1) (r.O' O)) K) :
  RefL P E N m ops (⟨some d, op, ty, pos, aft, none⟩ :: rest) (gma ⟨n, env, η⟩ G) (oma ⟨n, env, η⟩ O) K := by
 have hst := h.st η
 exact s_st hst hd fun x => b_of (fun a w hs => Sat.mextΓ (OpOk.ext hw h.src x) hs rfl) (hk x)
theorem OpOk.step0 (hw : WF n env) {r : OpR} (h : OpOk P E N op ty n env G O r) {η : Nat → Hd} {pos : String} {aft : Array Edge}
  (hk : ∀ x : Agr n η, RefL P E N m ops rest (gma (r.cx' n env x.1) G) (oma (r.cx' n env x.1) (r.O' O)) K) :
  RefL P E N m ops (⟨none, op, ty, pos, aft, none⟩ :: rest) (gma ⟨n, env, η⟩ G) (oma ⟨n, env, η⟩ O) K := by
 have hst := h.st η
 exact s_st0 hst fun x => b_of (fun a w hs => Sat.mextΓ0 (OpOk.ext hw h.src x) hs) (hk x)
end Go.Dc

namespace Go.Dc
variable [SRep] [DrawMode] {R : Type} {P : Program} {E : Env} {N : Nat} {K : KT R} {m : Option R} {op : Op} {ty : TypeId} {n : Nat} {env : List (Nat × Ent)} {G : List (Nat × Sh)} {O : List MO}

def cst : Value → Option Sh
 | .int k n => some (.vl false [.ci k n])
 | .bool b => some (.vl false [.cb b])
 | .string s => some (.vl false [.ck s])
 | .slice none 0 0 => some (.vl false [.nl])
 | .pointer none => some (.vl false [.nilp])
 | .nilFunc => some (.vl false [.nilf])
 | .func (.func f) ⟨[]⟩ ⟨[]⟩ => bif Nat.blt f fnB then some (.vl false [.fn f []]) else none
 | _ => none

def opd (G : List (Nat × Sh)) : Operand → Option Sh
 | .tmp t => lkG G t
 | .const v => cst v
 | .func f => bif Nat.blt f fnB then some (.vl false [.fn f []]) else none
 | .global _ => none

theorem opd_rp {c : Cx} {x : Operand} {s : Sh} (h : opd G x = some s) : lkO (gma c G) x = some (s.rp c) := by
 cases x with
 | tmp t => simp only [opd] at h; simp only [lkO, lk_gma, h]; rfl
 | func f =>
  simp only [opd] at h
  cases hb : Nat.blt f fnB with
  | false => rw [hb] at h; cases h
  | true =>
   rw [hb] at h; cases h
   show some (pv _) = some (pv (fnV f []))
   rw [fnV_un hb]
 | global g => cases h
 | const v =>
  simp only [opd] at h
  simp only [lkO]
  unfold cst at h
  split at h <;> first | (cases h; rfl) | cases h | skip
  rename_i f
  cases hb : Nat.blt f fnB with
  | false => rw [hb] at h; cases h
  | true =>
   rw [hb] at h; cases h
   show some (RPof _) = some (pv (fnV f []))
   rw [fnV_un hb]; rfl

def Dyn.nrm (D : Dyn) : Dyn := match D with
 | ⟨.dp t, d⟩ => ⟨.sl (.sl t), d⟩
 | D => D
def rdD (env : List (Nat × Ent)) : At → Option Dyn
 | .vr i => (lkE env i).bind fun e => bif e.t.one then some (Dyn.nrm ⟨e.t, e.d⟩) else none
 | .ci k n => some ⟨.int k, n⟩
 | .cb b => some ⟨.bool, b⟩
 | .ck s => some ⟨.str, s⟩
 | _ => none

def Dyn.rp (D : Dyn) : RP := sh D.t.rep D.d
theorem Dyn.nrm_rp {D : Dyn} : D.nrm.rp = D.rp := by
 unfold Dyn.nrm; split <;> rfl
theorem Dyn.nrm_one {D : Dyn} (h : D.t.one = true) : D.nrm.t.one = true := by
 unfold Dyn.nrm; split
 ·rfl
 ·exact h

theorem rdD_rp {c : Cx} {a : At} {D : Dyn} (h : rdD c.env a = some D) : a.rp c = D.rp ∧ D.t.one = true := by
 cases a <;> simp only [rdD] at h
 case vr i =>
  simp only [At.rp]
  cases he : lkE c.env i with
  | none => rw [he] at h; cases h
  | some e =>
   rw [he] at h
   simp only [Option.bind_some] at h ⊢
   cases ho : e.t.one with
   | false => rw [ho] at h; cases h
   | true => rw [ho] at h; cases h; exact ⟨(Dyn.nrm_rp (D := ⟨e.t, e.d⟩)).symm, Dyn.nrm_one (D := ⟨e.t, e.d⟩) ho⟩
 all_goals first | (cases h; exact ⟨rfl, rfl⟩) | cases h

def opA (G : List (Nat × Sh)) (x : Operand) : Option At := match opd G x with
 | some (.vl false [a]) => some a
 | _ => none
theorem opA_rp {c : Cx} {x : Operand} {a : At} (h : opA G x = some a) : lkO (gma c G) x = some (a.rp c) := by
 unfold opA at h
 split at h
 ·rename_i h1; cases h; rw [opd_rp h1]; rfl
 ·cases h

def opD (env : List (Nat × Ent)) (G : List (Nat × Sh)) (x : Operand) : Option Dyn := (opA G x).bind (rdD env)
theorem opD_rp {η : Nat → Hd} {x : Operand} {D : Dyn} (h : opD env G x = some D) : lkO (gma ⟨n, env, η⟩ G) x = some D.rp := by
 unfold opD at h
 cases ha : opA G x with
 | none => rw [ha] at h; cases h
 | some a => rw [ha] at h; rw [opA_rp ha, (rdD_rp (c := ⟨n, env, η⟩) h).1]

def Dyn.int : Dyn → Option (IntKind × Int)
 | ⟨.int k, n⟩ => some (k, n)
 | _ => none
def Dyn.bool : Dyn → Option Bool
 | ⟨.bool, b⟩ => some b
 | _ => none
def Dyn.str : Dyn → Option ByteArray
 | ⟨.str, s⟩ => some s
 | _ => none
def Dyn.sl : Dyn → Option ((t : Ty) × List t.den)
 | ⟨.sl t, d⟩ => some ⟨t, d⟩
 | _ => none
theorem Dyn.int_rp {D : Dyn} {k : IntKind} {m : Int} (h : D.int = some (k, m)) : D.rp = iv k m := by
 unfold Dyn.int at h; split at h
 ·cases h; rfl
 ·cases h
theorem Dyn.bool_rp {D : Dyn} {b : Bool} (h : D.bool = some b) : D.rp = bv b := by
 unfold Dyn.bool at h; split at h
 ·cases h; rfl
 ·cases h
theorem Dyn.str_rp {D : Dyn} {b : ByteArray} (h : D.str = some b) : D.rp = sv b := by
 unfold Dyn.str at h; split at h
 ·cases h; rfl
 ·cases h
theorem Dyn.sl_rp {D : Dyn} {t : Ty} {d : List t.den} (h : D.sl = some ⟨t, d⟩) : D.rp = slv t.rep d := by
 unfold Dyn.sl at h; split at h
 ·cases h; rfl
 ·cases h

def opI (env : List (Nat × Ent)) (G : List (Nat × Sh)) (x : Operand) : Option (IntKind × Int) := (opD env G x).bind Dyn.int
def opB (env : List (Nat × Ent)) (G : List (Nat × Sh)) (x : Operand) : Option Bool := (opD env G x).bind Dyn.bool
def opS (env : List (Nat × Ent)) (G : List (Nat × Sh)) (x : Operand) : Option ByteArray := (opD env G x).bind Dyn.str
def opL (env : List (Nat × Ent)) (G : List (Nat × Sh)) (x : Operand) : Option ((t : Ty) × List t.den) := (opD env G x).bind Dyn.sl
section
variable {η : Nat → Hd} {x : Operand}
theorem opI_rp {k : IntKind} {i : Int} (h : opI env G x = some (k, i)) : lkO (gma ⟨n, env, η⟩ G) x = some (iv k i) := by
 obtain ⟨D, h1, h2⟩ := Option.bind_eq_some_iff.1 h
 rw [opD_rp h1, Dyn.int_rp h2]
theorem opB_rp {b : Bool} (h : opB env G x = some b) : lkO (gma ⟨n, env, η⟩ G) x = some (bv b) := by
 obtain ⟨D, h1, h2⟩ := Option.bind_eq_some_iff.1 h
 rw [opD_rp h1, Dyn.bool_rp h2]
theorem opS_rp {b : ByteArray} (h : opS env G x = some b) : lkO (gma ⟨n, env, η⟩ G) x = some (sv b) := by
 obtain ⟨D, h1, h2⟩ := Option.bind_eq_some_iff.1 h
 rw [opD_rp h1, Dyn.str_rp h2]
theorem opL_rp {t : Ty} {d : List t.den} (h : opL env G x = some ⟨t, d⟩) : lkO (gma ⟨n, env, η⟩ G) x = some (slv t.rep d) := by
 obtain ⟨D, h1, h2⟩ := Option.bind_eq_some_iff.1 h
 rw [opD_rp h1, Dyn.sl_rp h2]
end

def resD (n : Nat) (t : Ty) (d : t.den) : OpR := ⟨.vl false [.vr n], [⟨t, d, none⟩], 0, [], []⟩

theorem vr_rp {η : Nat → Hd} {n' : Nat} {t : Ty} (ht : t.one = true) {d : t.den} {s : Option Src} : (Sh.vl false [.vr n]).rp ⟨n', (n, ⟨t, d, s⟩) :: env, η⟩ = sh t.rep d := by
 simp only [Sh.rp, vrp, cond_false, List.map_cons, List.headD_cons, At.rp, lkE_cons, if_true, ht, cond_true]

theorem OpOk.dat (hw : WF n env) {t : Ty} (ht : t.one = true) {d : t.den} (h : ∀ η, Rd P E N op ty (gma ⟨n, env, η⟩ G) (oma ⟨n, env, η⟩ O) [] (sh t.rep d)) :
  OpOk P E N op ty n env G O (resD n t d) :=
 OpOk.rd' hw (fun e he => by rw [List.mem_singleton.1 he]; exact .none rfl) fun η => by
  rw [show keyed n [⟨t, d, none⟩] env = (n, ⟨t, d, none⟩) :: env from rfl, vr_rp ht]; exact h η

theorem OpOk.same (hw : WF n env) {v : Sh} (h : ∀ η, Rd P E N op ty (gma ⟨n, env, η⟩ G) (oma ⟨n, env, η⟩ O) [] (v.rp ⟨n, env, η⟩)) : OpOk P E N op ty n env G O ⟨v, [], 0, [], []⟩ :=
 OpOk.rd' hw (fun e he => by simp at he) fun η => h η

theorem own_rp {c : Cx} {o h : Nat} (hb : Nat.blt h c.n = true) : (At.own o h).rp c = pv (c.η h).hv := by simp only [At.rp, hb, cond_true]
theorem ptr_rp {c : Cx} {o h off : Nat} (hb : Nat.blt h c.n = true) : (At.ptr o h off).rp c = pv (ptr (c.η h).b off) := by simp only [At.rp, hb, cond_true]
theorem oc_ob {c : Cx} {h : Nat} {l : List At} (hb : Nat.blt h c.n = true) : (MO.oc h l).ob c = oc (c.η h).b (l.map (At.rp c)) := by simp only [MO.ob, hb, cond_true]

theorem asSl_eq {e : Ent} {t : Ty} {d : List t.den} (h : e.asSl = some ⟨t, d⟩) : ∃ s, e = ⟨.sl t, d, s⟩ := by
 unfold Ent.asSl at h
 split at h
 ·cases h; exact ⟨_, rfl⟩
 ·cases h
def isLit : At → Bool
 | .ci _ n => decide (0 ≤ n)
 | _ => false
def opLit (G : List (Nat × Sh)) (x : Operand) : Bool := match opA G x with
 | some a => isLit a
 | none => false

def binI (n : Nat) (b : BinOp) (k : IntKind) (u v : Int) (lit : Bool) : Ask OpR :=
 match b with
 | .add => .ret (resD n (.int k) (iadd k u v))
 | .sub => .ret (resD n (.int k) (isub k u v))
 | .mul => .ret (resD n (.int k) (imul k u v))
 | .and => .ret (resD n (.int k) (iand k u v))
 | .or => .ret (resD n (.int k) (ior k u v))
 | .xor => .ret (resD n (.int k) (ixor k u v))
 | .andNot => .ret (resD n (.int k) (iandn k u v))
 | .quo => bif lit then (if v ≠ 0 then .ret (resD n (.int k) (iquo k u v)) else .fail) else .bind (iquoM k u v) fun x => .ret (resD n (.int k) x)
 | .rem => bif lit then (if v ≠ 0 then .ret (resD n (.int k) (irem k u v)) else .fail) else .bind (iremM k u v) fun x => .ret (resD n (.int k) x)
 | .shl => bif lit then (if 0 ≤ v then .ret (resD n (.int k) (ishl k u v)) else .fail) else .bind (ishlM k u v) fun x => .ret (resD n (.int k) x)
 | .shr => bif lit then (if 0 ≤ v then .ret (resD n (.int k) (ishr k u v)) else .fail) else .bind (ishrM k u v) fun x => .ret (resD n (.int k) x)
 | .eql => .ret (resD n .bool (u == v))
 | .neq => .ret (resD n .bool (u != v))
 | .lss => .ret (resD n .bool (decide (u < v)))
 | .leq => .ret (resD n .bool (decide (u ≤ v)))
 | .gtr => .ret (resD n .bool (decide (u > v)))
 | .geq => .ret (resD n .bool (decide (u ≥ v)))

theorem binI_ok (hw : WF n env) {b : BinOp} {t yt : TypeId} {x y : Operand} {k k' : IntKind} {u v : Int} {lit : Bool} (hx : opI env G x = some (k, u)) (hy : opI env G y = some (k', v)) (hk : k' = k ∨ b = .shl ∨ b = .shr) :
  AskOk (OpOk P E N (.binOp b t x y yt) ty n env G O) (binI n b k u v lit) := by
 have hx' := fun η => opI_rp (n := n) (η := η) hx
 have hy' := fun η => opI_rp (n := n) (η := η) hy
 have z := fun (h : (0 : Int) ≤ v) => h
 cases b with
 | shl =>
  cases lit with
  | true =>
   show AskOk _ (if 0 ≤ v then _ else _)
   split
   ·rename_i h; exact OpOk.dat hw rfl fun η => (r_shl (hx' η) (hy' η) h)
   ·trivial
  | false => exact fun w hw' => OpOk.dat hw rfl fun η => (r_shlM hw' (hx' η) (hy' η))
 | shr =>
  cases lit with
  | true =>
   show AskOk _ (if 0 ≤ v then _ else _)
   split
   ·rename_i h; exact OpOk.dat hw rfl fun η => (r_shr (hx' η) (hy' η) h)
   ·trivial
  | false => exact fun w hw' => OpOk.dat hw rfl fun η => (r_shrM hw' (hx' η) (hy' η))
 | quo =>
  obtain rfl : k' = k := by rcases hk with h | h | h <;> first | exact h | cases h
  cases lit with
  | true =>
   show AskOk _ (if v ≠ 0 then _ else _)
   split
   ·rename_i h; exact OpOk.dat hw rfl fun η => (r_quo (hx' η) (hy' η) h)
   ·trivial
  | false => exact fun w hw' => OpOk.dat hw rfl fun η => (r_quoM hw' (hx' η) (hy' η))
 | rem =>
  obtain rfl : k' = k := by rcases hk with h | h | h <;> first | exact h | cases h
  cases lit with
  | true =>
   show AskOk _ (if v ≠ 0 then _ else _)
   split
   ·rename_i h; exact OpOk.dat hw rfl fun η => (r_rem (hx' η) (hy' η) h)
   ·trivial
  | false => exact fun w hw' => OpOk.dat hw rfl fun η => (r_remM hw' (hx' η) (hy' η))
 | add => obtain rfl : k' = k := by { rcases hk with h | h | h <;> first | exact h | cases h }; exact OpOk.dat hw rfl fun η => (r_add (hx' η) (hy' η))
 | sub => obtain rfl : k' = k := by { rcases hk with h | h | h <;> first | exact h | cases h }; exact OpOk.dat hw rfl fun η => (r_sub (hx' η) (hy' η))
 | mul => obtain rfl : k' = k := by { rcases hk with h | h | h <;> first | exact h | cases h }; exact OpOk.dat hw rfl fun η => (r_mul (hx' η) (hy' η))
 | and => obtain rfl : k' = k := by { rcases hk with h | h | h <;> first | exact h | cases h }; exact OpOk.dat hw rfl fun η => (r_and (hx' η) (hy' η))
 | or => obtain rfl : k' = k := by { rcases hk with h | h | h <;> first | exact h | cases h }; exact OpOk.dat hw rfl fun η => (r_or (hx' η) (hy' η))
 | xor => obtain rfl : k' = k := by { rcases hk with h | h | h <;> first | exact h | cases h }; exact OpOk.dat hw rfl fun η => (r_xor (hx' η) (hy' η))
 | andNot => obtain rfl : k' = k := by { rcases hk with h | h | h <;> first | exact h | cases h }; exact OpOk.dat hw rfl fun η => (r_andn (hx' η) (hy' η))
 | eql => obtain rfl : k' = k := by { rcases hk with h | h | h <;> first | exact h | cases h }; exact OpOk.dat hw rfl fun η => (r_eql (hx' η) (hy' η))
 | neq => obtain rfl : k' = k := by { rcases hk with h | h | h <;> first | exact h | cases h }; exact OpOk.dat hw rfl fun η => (r_neq (hx' η) (hy' η))
 | lss => obtain rfl : k' = k := by { rcases hk with h | h | h <;> first | exact h | cases h }; exact OpOk.dat hw rfl fun η => (r_lss (hx' η) (hy' η))
 | leq => obtain rfl : k' = k := by { rcases hk with h | h | h <;> first | exact h | cases h }; exact OpOk.dat hw rfl fun η => (r_leq (hx' η) (hy' η))
 | gtr => obtain rfl : k' = k := by { rcases hk with h | h | h <;> first | exact h | cases h }; exact OpOk.dat hw rfl fun η => (r_gtr (hx' η) (hy' η))
 | geq => obtain rfl : k' = k := by { rcases hk with h | h | h <;> first | exact h | cases h }; exact OpOk.dat hw rfl fun η => (r_geq (hx' η) (hy' η))
end Go.Dc

namespace Go.Dc
variable [DrawMode]
variable {P : Program} {E : Env} {N : Nat} {Γ : List (Nat × RP)} {Ω : List OB} {ty : TypeId}

end Go.Dc

namespace Go.Dc
variable [DrawMode]
variable {P : Program} {E : Env} {N : Nat} {Γ : List (Nat × RP)} {Ω : List OB} {ty : TypeId} {α β : Type} [DecidableEq α]

theorem r_sgtr {t yt : TypeId} {x y : Operand} {s u : ByteArray} (hx : lkO Γ x = some (sv s)) (hy : lkO Γ y = some (sv u)) : Rd P E N (.binOp .gtr t x y yt) ty Γ Ω [] (bv (!(Op.bytesLess s.toList u.toList || s.toList == u.toList))) :=
 str_of hx hy (fun _ _ => rfl) fun w => by simp [binOp, Op.stringOp]

def ssubM (s : ByteArray) (lo hi : Int) : Option ByteArray := if 0 ≤ lo ∧ lo ≤ hi ∧ hi ≤ (s.size : Int) then some (s.extract lo.toNat hi.toNat) else none
theorem r_ssub {t : TypeId} {x : Operand} {lo hi : Option Operand} {s r : ByteArray} {l m : Int} (hd : ssubM s l m = some r) (hu : P.underlying t = some .string)
  (hx : lkO Γ x = some (sv s)) (hlo : BdOk Γ 0 lo l) (hhi : BdOk Γ s.size hi m) : Rd P E N (.slice t x lo hi none) ty Γ Ω [] (sv r) := .mk fun a w hs => by
 unfold ssubM at hd
 by_cases h0 : 0 ≤ l ∧ l ≤ m ∧ m ≤ (s.size : Int)
 ·rw [if_pos h0] at hd
  cases hd
  obtain ⟨h0, h1, h2⟩ := h0
  obtain ⟨l, rfl⟩ := Int.eq_ofNat_of_zero_le h0
  obtain ⟨m, rfl⟩ := Int.eq_ofNat_of_zero_le (Int.le_trans h0 h1)
  have hv : a.eval x = .string s := hs.op hx
  have hl := hlo.val hs
  have hm := hhi.val hs
  have e1 : l ≤ m := by omega
  have e2 : m ≤ s.size := by omega
  refine ⟨_, rfl, fun w' o ho _ => ?_⟩
  have hH : (Instr.sliceBounds false s.size s.size (lo.map a.eval) (hi.map a.eval) none).run P w' = .ok (l, m, s.size) w' := by
   unfold Instr.sliceBounds
   have b1 : ∀ (k : IntKind) (n y : Nat) (c : BoundsCode), n ≤ y → (Instr.sliceBound (.int k (n : Int)) y c).run P w' = .ok n w' := fun k n y c h => by simp [Instr.sliceBound, asIntOf, h]
   rcases hl with ⟨q1, q⟩ | ⟨k, q1⟩ <;> rcases hm with ⟨q2, q'⟩ | ⟨k2, q2⟩ <;> rw [q1, q2]
   ·have a1 : l = 0 := by omega
    have a2 : m = s.size := by omega
    subst a1; subst a2; rfl
   ·have a1 : l = 0 := by omega
    subst a1
    simp [b1 k2 m s.size _ e2]
   ·have a2 : m = s.size := by omega
    subst a2
    simp [b1 k l s.size _ e1]
   ·simp [b1 k2 m s.size _ e2, b1 k l m _ e1]
  simp [execOp, ho, hv, Instr.sliceAt, Instr.slice, run_underlying hu, hH]
 ·rw [if_neg h0] at hd; cases hd

theorem s_mkmapC {κ : Rep α} {ν : Rep β} {t kt et : TypeId} {x : Operand} {n : Int} (hu : P.underlying t = some (.map kt et)) (hx : lkO Γ x = some (iv .i64 n)) :
  St P E N (.makeMap t (some x)) ty Γ Ω [] (fun b : Nat => pv (.map (some b))) (fun b => Ω ++ [om κ ν b []]) := by
 intro a w hs
 have h1 : a.eval x = .int .i64 n := hs.op hx
 refine opwp_val (v := .map (some w.heap.size)) (w' := w.alloc (.map #[] 0)) (fun o ho ht => ?_) ⟨w.heap.size, ?_, rfl, by simp, fun b hb _ => heap_alloc_lt w _ hb, own_add (by simp [om])⟩
 ·have : (Instr.makeMap t (some (.int .i64 n))).run P w = .ok (.map (some w.heap.size)) (w.alloc (.map #[] 0)) := by
   simp [Instr.makeMap, run_underlying hu, asInt, asIntOf]
  simp [execOp, ho, h1, this]
 ·refine hs.add ⟨rfl, rfl, rfl, by first | exact fun _ => Nat.le_refl _ | exact fun _ => Nat.le_add_right _ _⟩ (by simp) (fun _ hb => heap_alloc_lt w _ hb) (fun b hb => ?_) (by simp [om]) ?_
  ·rw [show b = w.heap.size from by simpa [om] using hb]; exact ⟨Nat.le_refl _, by simp⟩
  ·exact ⟨#[], 0, heap_alloc_new' w _, ⟨rfl, by simp⟩, by simp, by simp⟩

section
variable {γ : Type} {ρ : Rep γ} {e t : TypeId} {bytes : Nat} {x : Operand} {hv : Value} {S : List Nat} {d : List γ} {j : Nat} {l m : Nat}
end

end Go.Dc

namespace Go.Dc

class PTab (P : Program) extends SRep where
 code : TypeId → Option Nat
 split : (n : Nat) → SDen.den n → List Dyn
 split_ok : ∀ n x, (SRep.rep n).cp x = (split n x).map Dyn.rp
 split_one : ∀ n x, ∀ D ∈ split n x, D.t.one = true
 join : (n : Nat) → List Dyn → Option (SDen.den n)
 join_ok' : ∀ n l x, join n l = some x → split n x = l
 fts : Nat → List Ty
 fld : (n f : Nat) → SDen.den n → Option (Nat × Dyn)
 fld_ok : ∀ n f x off D, fld n f x = some (off, D) → (((SRep.rep n).cp x).drop off).take D.t.rep.size = D.t.rep.cp D.d ∧ off + D.t.rep.size ≤ (SRep.rep n).size
 deq : (n : Nat) → DecidableEq (SDen.den n)
 eqs : TypeId → Nat → Bool
 eqs_ok : ∀ t n, eqs t n = true → letI := deq n; EqT P t (SRep.rep n)

theorem PTab.join_ok {P : Program} [PTab P] (n : Nat) (l : List Dyn) (x : SDen.den n) (h : PTab.join (P := P) n l = some x) : (SRep.rep n).cp x = l.map Dyn.rp := by
 rw [PTab.split_ok (P := P) n x, PTab.join_ok' n l x h]

variable [DrawMode] {R : Type} {P : Program} [PTab P] {E : Env} {N : Nat} {K : KT R} {m : Option R} {op : Op} {ty : TypeId} {n : Nat} {env : List (Nat × Ent)} {G : List (Nat × Sh)} {O : List MO}

def aggT (P : Program) (t : TypeId) : Option Bool := match P.underlying t with
 | some (.struct _) => some true
 | some (.array _ _) => some true
 | some _ => some false
 | none => none
theorem aggT_ok {t : TypeId} {b : Bool} (h : aggT P t = some b) (w : World) : (isAgg t).run P w = .ok b w := by
 unfold aggT at h
 split at h
 ·rename_i d hu; cases h; simp [isAgg, run_underlying hu]
 ·rename_i d hu; cases h; simp [isAgg, run_underlying hu]
 ·rename_i d h1 h2 hu
  cases h
  simp only [isAgg, Sem.run_bind, run_underlying hu]
  cases d <;> first | rfl | (exact absurd rfl (h1 _)) | (exact absurd rfl (h2 _ _))
 ·cases h

def sizeT (P : Program) (t : TypeId) : Option Nat := (P.info? t).map (·.size)
theorem sizeT_ok {t : TypeId} {k : Nat} (h : sizeT P t = some k) (w : World) : (Go.sizeOf t).run P w = .ok k w := by
 unfold sizeT at h
 cases hi : P.info? t with
 | none => rw [hi] at h; cases h
 | some i => rw [hi] at h; cases h; simp [Go.sizeOf, typeInfo, hi]

def codeN (P : Program) [PTab P] : Nat → TypeId → Option Ty
 | 0, _ => none
 | k + 1, t => match P.underlying t with
  | some (.int kd) => some (.int kd)
  | some .bool => some .bool
  | some .string => some .str
  | some (.slice e) => (codeN P k e).map .sl
  | some (.pointer e) => (codeN P k e).map .op
  | some (.struct _) => (PTab.code P t).map .st
  | some (.array _ _) => (PTab.code P t).map .st
  | _ => none
def codeT (P : Program) [PTab P] (t : TypeId) : Option Ty := codeN P 5 t

def elT (P : Program) [PTab P] (e : TypeId) : Option (Ty × Nat) :=
 match codeT P e, P.info? e, aggT P e with
 | some c, some i, some g => match i.zero with
  | some z => bif Nat.beq i.size c.rep.size && Nat.beq z.cells.size c.rep.size && (g == c.rep.agg) && Nat.blt 0 c.rep.size && Nat.blt 0 i.bytes then some (c, i.bytes) else none
  | none => none
 | _, _, _ => none
theorem elT_ok {e : TypeId} {c : Ty} {b : Nat} (h : elT P e = some (c, b)) : ElT P e c.rep b := by
 unfold elT at h
 split at h
 ·rename_i c' i g hc hi hg
  split at h
  ·rename_i z hz
   generalize hb : (Nat.beq i.size c'.rep.size && Nat.beq z.cells.size c'.rep.size && (g == c'.rep.agg) && Nat.blt 0 c'.rep.size && Nat.blt 0 i.bytes) = q at h
   cases q with
   | false => cases h
   | true =>
    simp only [cond_true, Option.some.injEq, Prod.mk.injEq] at h
    obtain ⟨rfl, rfl⟩ := h
    simp only [Bool.and_eq_true, Nat.blt_eq, beq_iff_eq] at hb
    obtain ⟨⟨⟨⟨h1, h2⟩, h3⟩, h4⟩, h5⟩ := hb
    exact ⟨⟨i, hi, Nat.eq_of_beq_eq_true h1, rfl, z, hz, Nat.eq_of_beq_eq_true h2⟩, fun w => by rw [← h3]; exact aggT_ok hg w, h4, h5⟩
  ·cases h
 ·cases h

theorem lkE_keyed_lt : ∀ {es : List Ent} {k i : Nat} {env : List (Nat × Ent)}, i < k → lkE (keyed k es env) i = lkE env i
 | [], _, _, _, _ => rfl
 | e :: es, k, i, env, h => by
  show lkE (keyed (k + 1) es ((k, e) :: env)) i = _
  rw [lkE_keyed_lt (by omega), lkE_cons, if_neg (by omega)]
theorem lkE_keyed {es : List Ent} : ∀ {k i : Nat} {env : List (Nat × Ent)} {e : Ent}, es[i]? = some e → lkE (keyed k es env) (k + i) = some e := by
 induction es with
 | nil => intro k i env e h; simp at h
 | cons x es ih =>
  intro k i env e h
  show lkE (keyed (k + 1) es ((k, x) :: env)) (k + i) = _
  cases i with
  | zero =>
   simp only [List.getElem?_cons_zero, Option.some.injEq] at h
   subst h
   rw [lkE_keyed_lt (by omega), lkE_cons, if_pos (by omega)]
  | succ i =>
   simp only [List.getElem?_cons_succ] at h
   rw [show k + (i + 1) = k + 1 + i from by omega]
   exact ih h

def vrs : Nat → List Dyn → List At
 | _, [] => []
 | n, _ :: l => .vr n :: vrs (n + 1) l
def ents (l : List Dyn) : List Ent := l.map fun D => ⟨D.t, D.d, none⟩

theorem vrs_rp {η : Nat → Hd} {n' : Nat} {es' : List (Nat × Ent)} : ∀ {l : List Dyn} {k : Nat}, (∀ D ∈ l, D.t.one = true) → (∀ i D, l[i]? = some D → lkE es' (k + i) = some (⟨D.t, D.d, none⟩ : Ent)) → (vrs k l).map (At.rp ⟨n', es', η⟩) = l.map Dyn.rp
 | [], _, _, _ => rfl
 | D :: l, k, h1, h2 => by
  simp only [vrs, List.map_cons]
  have h3 := h2 0 D rfl
  rw [Nat.add_zero] at h3
  have e1 : At.rp ⟨n', es', η⟩ (.vr k) = D.rp := by simp only [At.rp, h3, h1 D (by simp), cond_true, Dyn.rp]
  rw [e1, vrs_rp (l := l) (k := k + 1) (fun D hD => h1 D (by simp [hD])) (fun i D hD => by rw [show k + 1 + i = k + (i + 1) from by omega]; exact h2 (i + 1) D hD)]

def valD (P : Program) [PTab P] (n : Nat) (D : Dyn) : Sh × List Ent := match D with
 | ⟨.st k, d⟩ => (.vl true (vrs n (PTab.split (P := P) k d)), ents (PTab.split (P := P) k d))
 | ⟨t, d⟩ => (.vl false [.vr n], [⟨t, d, none⟩])

theorem ents_src {l : List Dyn} : ∀ e ∈ ents l, SrcOk env e := fun e he => by
 obtain ⟨D, _, rfl⟩ := List.mem_map.1 he
 exact .none rfl

theorem valD_rp {D : Dyn} {v : Sh} {add : List Ent} (h : valD P n D = (v, add)) {η : Nat → Hd} {n' : Nat} : v.rp ⟨n', keyed n add env, η⟩ = D.rp ∧ ∀ e ∈ add, SrcOk env e := by
 obtain ⟨t, d⟩ := D
 cases t with
 | st k =>
  cases h
  refine ⟨?_, ents_src⟩
  have h1 := vrs_rp (es' := keyed n (ents (PTab.split (P := P) k d)) env) (η := η) (n' := n') (l := PTab.split (P := P) k d) (k := n) (PTab.split_one k d) (fun i D hD => lkE_keyed (by simp [ents, hD]))
  simp only [Sh.rp, vrp, cond_true]
  rw [h1]
  have h2 : (SRep.rep k).cp d = (PTab.split (P := P) k d).map Dyn.rp := PTab.split_ok k d
  show _ = sh (SRep.rep k) d
  unfold sh
  rw [SRep.agg, h2]; rfl
 | _ => cases h; exact ⟨vr_rp rfl, fun e he => by rw [List.mem_singleton.1 he]; exact .none rfl⟩

theorem OpOk.val (hw : WF n env) {D : Dyn} (h : ∀ η, Rd P E N op ty (gma ⟨n, env, η⟩ G) (oma ⟨n, env, η⟩ O) [] D.rp) :
  OpOk P E N op ty n env G O ⟨(valD P n D).1, (valD P n D).2, 0, [], []⟩ :=
 OpOk.rd' hw (valD_rp (η := fun _ => ⟨.bool true, [], 0, rfl, fun _ => nilB⟩) (n' := 0) rfl).2 fun η => by
  rw [(valD_rp (v := (valD P n D).1) (add := (valD P n D).2) rfl).1]; exact h η

theorem RP.no_at : RP.no.At := fun h => h.elim
theorem Dyn.rp_at {D : Dyn} (ho : D.t.one = true) : D.rp.At := by
 have h1 := Ty.one_agg ho
 have e : D.rp = (D.t.rep.cp D.d).headD (pv Go.undef) := by unfold Dyn.rp sh; rw [h1]; rfl
 have hl := D.t.rep.len D.d
 rw [D.t.rep.one h1] at hl
 obtain ⟨φ, hφ⟩ := List.length_eq_one_iff.1 hl
 rw [e, hφ]
 exact (D.t.rep.at_ D.d φ (by rw [hφ]; simp) : φ.At)
theorem bif_at {b : Bool} {φ ψ : RP} (h1 : φ.At) (h2 : ψ.At) : (bif b then φ else ψ).At := by cases b; exact h2; exact h1
theorem elA_one {hv : Value} {s : Nat} {i : Int} : (elA hv s i).oneCell' = true := by unfold elA; split <;> rfl
theorem elF_one {hv : Value} {s : Nat} {i : Int} {fo : Nat} : (elF hv s i fo).oneCell' = true := by unfold elF; split <;> rfl
theorem ea_at {α : Type} {ρ : Rep α} {x : α} : (Dc.ea ρ x).At := fun ⟨_, _, _, _, _, _, e, _⟩ => by rw [e]; rfl
theorem At.rp_at {c : Cx} (a : At) : (a.rp c).At := by
 cases a with
 | vr i =>
  simp only [At.rp]
  split
  ·rename_i e he
   cases ho : e.t.one with
   | false => exact RP.no_at
   | true => exact Dyn.rp_at (D := ⟨e.t, e.d⟩) ho
  ·exact RP.no_at
 | ci k n => exact iv_at
 | cb b => exact bv_at
 | ck s => exact sv_at
 | nl => exact pv_at rfl
 | own o h => exact bif_at (pv_at (c.η h).one) RP.no_at
 | ptr o h off => exact bif_at (pv_at rfl) RP.no_at
 | mp o h => exact bif_at (pv_at rfl) RP.no_at
 | fn f l => exact bif_at (pv_at fnV_one) RP.no_at
 | nilf => exact pv_at rfl
 | nilp => exact pv_at rfl
 | ea i =>
  simp only [At.rp]
  split
  ·exact ea_at
  ·exact RP.no_at
 | fu i =>
  simp only [At.rp]
  split
  ·exact fun h => by obtain ⟨a, e, _⟩ := h; rw [e]; rfl
  ·exact RP.no_at
 | oea o h y =>
  simp only [At.rp]
  split
  ·exact bif_at (pv_at elA_one) RP.no_at
  ·exact bif_at (pv_at rfl) RP.no_at
  ·exact bif_at (pv_at rfl) RP.no_at
  ·exact bif_at (pv_at elA_one) RP.no_at
  ·split
   ·exact pv_at elA_one
   ·exact RP.no_at
  ·exact RP.no_at
 | pj i j =>
  simp only [At.rp]
  split
  ·split
   ·exact iv_at
   ·exact RP.no_at
  ·exact RP.no_at
 | vs o h off i cp =>
  simp only [At.rp]
  split
  ·exact bif_at (pv_at rfl) RP.no_at
  ·exact RP.no_at
 | sb o h a b sz =>
  simp only [At.rp]
  split
  ·exact bif_at (pv_at (by unfold subV; split; rfl; exact (c.η h).one)) RP.no_at
  ·exact RP.no_at
 | oef o h z =>
  simp only [At.rp]
  split
  ·split
   ·exact bif_at (pv_at elF_one) RP.no_at
   ·split
    ·exact pv_at elF_one
    ·exact RP.no_at
   ·exact RP.no_at
  ·exact RP.no_at
 | inn o h y =>
  simp only [At.rp]
  split
  ·rename_i v hv
   unfold innV at hv
   split at hv
   ·cases hb : Nat.blt h c.n with
    | false => rw [hb] at hv; cases hv
    | true => rw [hb] at hv; cases hv; exact pv_at (Sb.one _)
   ·cases hv
  ·exact RP.no_at
 | junk => exact anyc_at

def opC (G : List (Nat × Sh)) (x : Operand) : Option (List At) := match opd G x with
 | some (.vl true l) => some l
 | some (.vl false [a]) => some [a]
 | _ => none
theorem opC_part {c : Cx} {Ω : List OB} {x : Operand} {l : List At} (h : opC G x = some l) : PartOk E N (gma c G) Ω x (l.map (At.rp c)) := by
 unfold opC at h
 split at h
 ·rename_i h1; cases h
  exact part_ag (opd_rp h1) fun φ hφ => by obtain ⟨a, _, rfl⟩ := List.mem_map.1 hφ; exact At.rp_at a
 ·rename_i a h1; cases h
  exact part_at (opd_rp (c := c) h1) (At.rp_at a)
 ·cases h

theorem PartOk.imp {Γ : List (Nat × RP)} {Ω : List OB} {x : Operand} {φs ψs : List RP} (h : PartOk E N Γ Ω x φs) (hi : ImpAll φs ψs) : PartOk E N Γ Ω x ψs := fun a w hs =>
 let ⟨h1, h2⟩ := h a w hs; ⟨hi.all h1, h2⟩

def atD (env : List (Nat × Ent)) (t : Ty) (a : At) : Option Dyn := match a, t with
 | .nl, .sl t => some ⟨.sl t, []⟩
 | a, _ => rdD env a
theorem atD_imp {c : Cx} {t : Ty} {a : At} {D : Dyn} (h : atD c.env t a = some D) {F : FP} {w : World} {v : Value} (hv : (a.rp c).h F w v) : D.rp.h F w v := by
 unfold atD at h
 split at h
 ·cases h; exact nil_sl hv
 ·rw [← (rdD_rp h).1]; exact hv
def atsD (env : List (Nat × Ent)) : List Ty → List At → Option (List Dyn)
 | [], [] => some []
 | t :: ts, a :: l => (atD env t a).bind fun D => (atsD env ts l).map (D :: ·)
 | _, _ => none
theorem atsD_imp {c : Cx} : ∀ {ts : List Ty} {l : List At} {Ds : List Dyn}, atsD c.env ts l = some Ds → ImpAll (l.map (At.rp c)) (Ds.map Dyn.rp)
 | [], [], _, h => by cases h; trivial
 | t :: ts, a :: l, Ds, h => by
  simp only [atsD] at h
  obtain ⟨D, h1, h2⟩ := Option.bind_eq_some_iff.1 h
  obtain ⟨Ds', h3, rfl⟩ := Option.map_eq_some_iff.1 h2
  exact ⟨fun hv => atD_imp h1 hv, atsD_imp h3⟩
 | [], _ :: _, _, h => by cases h
 | _ :: _, [], _, h => by cases h

def celD1 (env : List (Nat × Ent)) (t : Ty) : List At → Option t.den
 | [a] => (atD env t a).bind fun D => if h : D.t = t then some (h ▸ D.d) else none
 | _ => none
def celD (P : Program) [PTab P] (env : List (Nat × Ent)) (t : Ty) (l : List At) : Option t.den := match t with
 | .st k => (atsD env (PTab.fts P k) l).bind (PTab.join (P := P) k)
 | t => celD1 env t l
theorem celD1_imp {c : Cx} {t : Ty} (ht : t.one = true) {l : List At} {d : t.den} (h : celD1 c.env t l = some d) : ImpAll (l.map (At.rp c)) (t.rep.cp d) := by
 unfold celD1 at h
 split at h
 ·rename_i x
  obtain ⟨D, h1, h2⟩ := Option.bind_eq_some_iff.1 h
  split at h2
  ·rename_i e
   subst e
   cases h2
   have hl := D.t.rep.len D.d
   rw [D.t.rep.one (Ty.one_agg ht)] at hl
   obtain ⟨φ, hφ⟩ := List.length_eq_one_iff.1 hl
   have e2 : D.rp = φ := by
    have e3 : D.rp = (D.t.rep.cp D.d).headD (pv Go.undef) := by unfold Dyn.rp sh; rw [Ty.one_agg ht]; rfl
    rw [e3, hφ]; rfl
   show ImpAll [x.rp c] (D.t.rep.cp D.d)
   rw [hφ]
   exact ⟨fun hv => by rw [← e2]; exact atD_imp h1 hv, trivial⟩
  ·cases h2
 ·cases h
theorem celD_imp {c : Cx} {t : Ty} {l : List At} {d : t.den} (h : celD P c.env t l = some d) : ImpAll (l.map (At.rp c)) (t.rep.cp d) := by
 cases t with
 | st k =>
  simp only [celD] at h
  obtain ⟨Ds, h1, h2⟩ := Option.bind_eq_some_iff.1 h
  have h3 : (SRep.rep k).cp d = Ds.map Dyn.rp := PTab.join_ok k Ds d h2
  show ImpAll _ ((SRep.rep k).cp d)
  rw [h3]
  exact atsD_imp h1
 | int k => exact celD1_imp rfl h
 | bool => exact celD1_imp rfl h
 | str => exact celD1_imp rfl h
 | sl t => exact celD1_imp rfl h
 | op t => exact celD1_imp rfl h
 | mp k v => exact celD1_imp rfl h
 | vec k => exact celD1_imp rfl h
 | dp t => exact celD1_imp rfl h
 | dh t => exact celD1_imp rfl h

def opT (P : Program) [PTab P] (env : List (Nat × Ent)) (G : List (Nat × Sh)) (t : Ty) (x : Operand) : Option t.den := (opC G x).bind (celD P env t)
theorem opT_part {η : Nat → Hd} {Ω : List OB} {x : Operand} {t : Ty} {d : t.den} (h : opT P env G t x = some d) : PartOk E N (gma ⟨n, env, η⟩ G) Ω x (t.rep.cp d) := by
 obtain ⟨l, h1, h2⟩ := Option.bind_eq_some_iff.1 h
 exact (opC_part h1).imp (celD_imp (c := ⟨n, env, η⟩) h2)
end Go.Dc

namespace Go.Dc
variable [DrawMode] {R : Type} {P : Program} [PTab P] {E : Env} {N : Nat} {K : KT R} {m : Option R} {op : Op} {ty : TypeId} {n : Nat} {env : List (Nat × Ent)} {G : List (Nat × Sh)} {O : List MO}

def resS (v : Sh) : OpR := ⟨v, [], 0, [], []⟩

def moveE (G : List (Nat × Sh)) (x : Operand) : Ask OpR := Ask.of (opd G x) fun v => .ret (resS v)
theorem moveE_ok (hw : WF n env) {x : Operand} : AskOk (OpOk P E N (.move x) ty n env G O) (moveE G x) :=
 AskOk.of fun v h => OpOk.same hw fun η => (r_move (opd_rp (c := ⟨n, env, η⟩) h))
theorem assignE_ok (hw : WF n env) {x : Operand} : AskOk (OpOk P E N (.assign x) ty n env G O) (moveE G x) :=
 AskOk.of fun v h => OpOk.same hw fun η => (r_assign (opd_rp (c := ⟨n, env, η⟩) h))

def pickE (env : List (Nat × Ent)) (G : List (Nat × Sh)) (c x y : Operand) : Ask OpR := Ask.of (opA G c) fun a => match a with
 | .cb true => Ask.of (opd G x) fun v => .ret (resS v)
 | .cb false => Ask.of (opd G y) fun v => .ret (resS v)
 | _ => .fail
theorem pickE_ok (hw : WF n env) {c x y : Operand} : AskOk (OpOk P E N (.pick c x y) ty n env G O) (pickE env G c x y) :=
 AskOk.of fun a h => by
  have hc := fun η => opA_rp (c := ⟨n, env, η⟩) h
  split
  ·exact AskOk.of fun v h => OpOk.same hw fun η => (r_pickT (hc η) (opd_rp h))
  ·exact AskOk.of fun v h => OpOk.same hw fun η => (r_pickF (hc η) (opd_rp h))
  ·trivial

def extractE (G : List (Nat × Sh)) (x : Operand) (i : Nat) : Ask OpR := Ask.of (opd G x) fun v => match v with
 | .tup l => Ask.of l[i]? fun p => .ret (resS (.vl p.1 p.2))
 | _ => .fail
theorem extractE_ok (hw : WF n env) {x : Operand} {i : Nat} : AskOk (OpOk P E N (.extract x i) ty n env G O) (extractE G x i) :=
 AskOk.of fun v h => by
  split
  ·rename_i l
   exact AskOk.of fun p hp => OpOk.same hw fun η => (r_extract (opd_rp (c := ⟨n, env, η⟩) h) (by rw [List.getElem?_map, hp]; rfl))
  ·trivial

def fieldE (P : Program) (G : List (Nat × Sh)) (t : TypeId) (x : Operand) (f : Nat) : Ask OpR :=
 Ask.of (match P.underlying t with | some (.struct fs) => fs[f]? | _ => none) fun fd =>
 Ask.of (aggT P fd.type) fun g => Ask.of (sizeT P fd.type) fun k => Ask.of (opd G x) fun v => match v with
  | .vl true l => bif g then .ret (resS (.vl true ((l.drop fd.offset).take k))) else Ask.of l[fd.offset]? fun a => .ret (resS (.vl false [a]))
  | _ => .fail
theorem fieldE_ok (hw : WF n env) {t : TypeId} {x : Operand} {f : Nat} : AskOk (OpOk P E N (.field t x f) ty n env G O) (fieldE P G t x f) :=
 AskOk.of fun fd hf => AskOk.of fun g hg => AskOk.of fun k hk => AskOk.of fun v h => by
  obtain ⟨fs, hu, hf⟩ : ∃ fs, P.underlying t = some (.struct fs) ∧ fs[f]? = some fd := by
   split at hf
   ·rename_i fs hu; exact ⟨fs, hu, hf⟩
   ·cases hf
  split
  ·rename_i l
   cases g with
   | true => exact OpOk.same hw fun η => (r_field hu hf rfl (aggT_ok hg) (sizeT_ok hk) (opd_rp (c := ⟨n, env, η⟩) h) (by simp only [List.map_drop, List.map_take]))
   | false => exact AskOk.of fun a ha => OpOk.same hw fun η => (r_field1 hu hf rfl (aggT_ok hg) (opd_rp (c := ⟨n, env, η⟩) h) (by rw [List.getElem?_map, ha]; rfl))
  ·trivial

def isShift : BinOp → Bool
 | .shl => true
 | .shr => true
 | _ => false
def intE (n : Nat) (env : List (Nat × Ent)) (G : List (Nat × Sh)) (b : BinOp) (x y : Operand) : Ask OpR :=
 Ask.of (opI env G x) fun u => Ask.of (opI env G y) fun v => if v.1 = u.1 ∨ isShift b = true then binI n b u.1 u.2 v.2 (opLit G y) else .fail
theorem intE_ok (hw : WF n env) {b : BinOp} {t yt : TypeId} {x y : Operand} : AskOk (OpOk P E N (.binOp b t x y yt) ty n env G O) (intE n env G b x y) :=
 AskOk.of fun u hu => AskOk.of fun v hv => by
  split
  ·rename_i h
   refine binI_ok hw (k' := v.1) hu hv (h.imp id fun h => ?_)
   cases b <;> first | exact .inl rfl | exact .inr rfl | cases h
  ·trivial

def boolE (P : Program) (n : Nat) (env : List (Nat × Ent)) (G : List (Nat × Sh)) (b : BinOp) (t : TypeId) (x y : Operand) : Ask OpR :=
 Ask.of (opB env G x) fun u => Ask.of (opB env G y) fun v => match P.underlying t, b with
  | some .bool, .eql => .ret (resD n .bool (u == v : Bool))
  | some .bool, .neq => .ret (resD n .bool (!(u == v) : Bool))
  | _, _ => .fail
theorem boolE_ok (hw : WF n env) {b : BinOp} {t yt : TypeId} {x y : Operand} : AskOk (OpOk P E N (.binOp b t x y yt) ty n env G O) (boolE P n env G b t x y) :=
 AskOk.of fun u hu => AskOk.of fun v hv => by
  have hx := fun η => opB_rp (n := n) (η := η) hu
  have hy := fun η => opB_rp (n := n) (η := η) hv
  split
  ·rename_i h; exact OpOk.dat hw rfl fun η => (r_beql h (hx η) (hy η))
  ·rename_i h; exact OpOk.dat hw rfl fun η => (r_bneq h (hx η) (hy η))
  ·trivial

def strE (n : Nat) (env : List (Nat × Ent)) (G : List (Nat × Sh)) (b : BinOp) (x y : Operand) : Ask OpR :=
 Ask.of (opS env G x) fun u => Ask.of (opS env G y) fun v => match b with
  | .eql => .ret (resD n .bool (u.toList == v.toList : Bool))
  | .neq => .ret (resD n .bool (!(u.toList == v.toList) : Bool))
  | .lss => .ret (resD n .bool (Go.Op.bytesLess u.toList v.toList))
  | .geq => .ret (resD n .bool (!Go.Op.bytesLess u.toList v.toList : Bool))
  | .gtr => .ret (resD n .bool (!(Go.Op.bytesLess u.toList v.toList || u.toList == v.toList) : Bool))
  | .add => .bind (sconM u v) fun r => .ret (resD n .str r)
  | _ => .fail
theorem strE_ok (hw : WF n env) {b : BinOp} {t yt : TypeId} {x y : Operand} : AskOk (OpOk P E N (.binOp b t x y yt) ty n env G O) (strE n env G b x y) :=
 AskOk.of fun u hu => AskOk.of fun v hv => by
  have hx := fun η => opS_rp (n := n) (η := η) hu
  have hy := fun η => opS_rp (n := n) (η := η) hv
  split
  ·exact OpOk.dat hw rfl fun η => (r_seql (hx η) (hy η))
  ·exact OpOk.dat hw rfl fun η => (r_sneq (hx η) (hy η))
  ·exact OpOk.dat hw rfl fun η => (r_slss (hx η) (hy η))
  ·exact OpOk.dat hw rfl fun η => (r_sgeq (hx η) (hy η))
  ·exact OpOk.dat hw rfl fun η => (r_sgtr (hx η) (hy η))
  ·exact fun r hr => OpOk.dat hw rfl fun η => (r_sadd hr (hx η) (hy η))
  ·trivial

def rdAll (env : List (Nat × Ent)) : List At → Option (List Dyn)
 | [] => some []
 | a :: l => (rdD env a).bind fun D => (rdAll env l).map (D :: ·)
theorem rdAll_rp {c : Cx} : ∀ {l : List At} {Ds : List Dyn}, rdAll c.env l = some Ds → l.map (At.rp c) = Ds.map Dyn.rp
 | [], _, h => by cases h; rfl
 | a :: l, Ds, h => by
  simp only [rdAll] at h
  obtain ⟨D, h1, h2⟩ := Option.bind_eq_some_iff.1 h
  obtain ⟨Ds', h3, rfl⟩ := Option.map_eq_some_iff.1 h2
  rw [List.map_cons, List.map_cons, (rdD_rp h1).1, rdAll_rp h3]
def opG (P : Program) [PTab P] (env : List (Nat × Ent)) (G : List (Nat × Sh)) (k : Nat) (x : Operand) : Option (SDen.den k) := match opd G x with
 | some (.vl true l) => (rdAll env l).bind (PTab.join (P := P) k)
 | _ => none
theorem opG_rp {η : Nat → Hd} {k : Nat} {x : Operand} {d : SDen.den k} (h : opG P env G k x = some d) : lkO (gma ⟨n, env, η⟩ G) x = some (ag ((SRep.rep k).cp d)) := by
 unfold opG at h
 split at h
 ·rename_i l h1
  obtain ⟨Ds, h2, h3⟩ := Option.bind_eq_some_iff.1 h
  rw [opd_rp h1, PTab.join_ok k Ds d h3, ← rdAll_rp (c := ⟨n, env, η⟩) h2]; rfl
 ·cases h

def strctE (P : Program) [PTab P] (n : Nat) (env : List (Nat × Ent)) (G : List (Nat × Sh)) (b : BinOp) (t : TypeId) (x y : Operand) : Ask OpR :=
 Ask.of (PTab.code P t) fun k => Ask.when (PTab.eqs P t k) (Ask.of (opG P env G k x) fun u => Ask.of (opG P env G k y) fun v => letI := PTab.deq (P := P) k; match b with
  | .eql => .ret (resD n .bool (decide (u = v)))
  | .neq => .ret (resD n .bool (!decide (u = v) : Bool))
  | _ => .fail)
theorem strctE_ok (hw : WF n env) {b : BinOp} {t yt : TypeId} {x y : Operand} : AskOk (OpOk P E N (.binOp b t x y yt) ty n env G O) (strctE P n env G b t x y) :=
 AskOk.of fun k _ => AskOk.when fun he => AskOk.of fun u hu => AskOk.of fun v hv => by
  letI := PTab.deq (P := P) k
  have heq : EqT P t (SRep.rep k) := PTab.eqs_ok t k he
  split
  ·exact OpOk.dat hw rfl fun η => (r_steql heq (opG_rp hu) (opG_rp hv) rfl rfl)
  ·exact OpOk.dat hw rfl fun η => (r_stneq heq (opG_rp hu) (opG_rp hv) rfl rfl)
  ·trivial

def optE (P : Program) (n : Nat) (env : List (Nat × Ent)) (G : List (Nat × Sh)) (b : BinOp) (t : TypeId) (x y : Operand) : Ask OpR :=
 match b, P.underlying t, opA G y with
 | .neq, some (.pointer _), some .nilp => Ask.of (opA G x) fun a => match a with
  | .nilp => .ret (resD n .bool false)
  | .vr i => Ask.of (rdD env (.vr i)) fun D => match D with
   | ⟨.op t, d⟩ => .ret (resD n .bool d.isSome)
   | _ => .fail
  | _ => .fail
 | _, _, _ => .fail
theorem optE_ok (hw : WF n env) {b : BinOp} {t yt : TypeId} {x y : Operand} : AskOk (OpOk P E N (.binOp b t x y yt) ty n env G O) (optE P n env G b t x y) := by
 unfold optE
 split
 ·rename_i e hu hy
  refine AskOk.of fun a ha => ?_
  have hy' := fun η => opA_rp (c := ⟨n, env, η⟩) hy
  split
  ·exact OpOk.dat hw rfl fun η => (r_optneq (ρ := rB) (o := none) hu (opA_rp (c := ⟨n, env, η⟩) ha) (hy' η))
  ·refine AskOk.of fun D hD => ?_
   split
   ·rename_i t' d
    refine OpOk.dat hw rfl fun η => (r_optneq (ρ := t'.rep) (o := d) hu ?_ (hy' η))
    rw [opA_rp (c := ⟨n, env, η⟩) ha, (rdD_rp (c := ⟨n, env, η⟩) hD).1]; rfl
   ·trivial
  ·trivial
 ·trivial

def runFrom (i : Nat) : Nat → Nat → List At → Bool
 | _, 0, _ => true
 | j, m + 1, .pj i' j' :: l => Nat.beq i' i && Nat.beq j' j && runFrom i (j + 1) m l
 | _, _ + 1, _ => false
theorem runFrom_get {i : Nat} : ∀ {m j : Nat} {l : List At}, runFrom i j m l = true → ∀ q, q < m → l[q]? = some (.pj i (j + q))
 | 0, _, _, _, q, hq => by omega
 | m + 1, j, [], h, q, hq => by cases h
 | m + 1, j, a :: l, h, q, hq => by
  cases a with
  | pj i' j' =>
   simp only [runFrom, Bool.and_eq_true] at h
   obtain ⟨⟨h1, h2⟩, h3⟩ := h
   cases q with
   | zero => rw [Nat.eq_of_beq_eq_true h1, Nat.eq_of_beq_eq_true h2]; rfl
   | succ q =>
    have := runFrom_get h3 q (by omega)
    rw [List.getElem?_cons_succ, this, show j + (q + 1) = j + 1 + q from by omega]
  | _ => cases h
def runOf (env : List (Nat × Ent)) (len : Nat) (l : List At) : Option (Nat × IntKind × List Int) := match l with
 | .pj i _ :: _ => match lkE env i with
  | some ⟨.vec k, d, _⟩ => bif runFrom i 0 len l then some (i, k, d) else none
  | _ => none
 | _ => none
theorem runOf_ok {len : Nat} {l : List At} {i : Nat} {k : IntKind} {d : List Int} (h : runOf env len l = some (i, k, d)) : (∃ s, lkE env i = some ⟨.vec k, d, s⟩) ∧ ∀ q, q < len → l[q]? = some (.pj i q) := by
 unfold runOf at h
 split at h
 ·rename_i i' j' l'
  split at h
  ·rename_i k' d' s he
   cases hb : runFrom i' 0 len (.pj i' j' :: l') with
   | false => rw [hb] at h; cases h
   | true =>
    rw [hb] at h; cases h
    exact ⟨⟨s, he⟩, fun q hq => by have := runFrom_get hb q hq; rwa [Nat.zero_add] at this⟩
  ·cases h
 ·cases h
theorem pj_rp {c : Cx} {i j : Nat} {k : IntKind} {d : List Int} {s : Option Src} {x : Int} (he : lkE c.env i = some ⟨.vec k, d, s⟩) (hx : d[j]? = some x) : (At.pj i j).rp c = iv k x := by
 simp only [At.rp, he, pjG, hx]
theorem run_map {c : Cx} {len : Nat} {l : List At} {i : Nat} {k : IntKind} {d : List Int} (h : runOf c.env len l = some (i, k, d)) (hl : l.length = len) (hd : d.length = len) : l.map (At.rp c) = d.map (iv k) := by
 obtain ⟨⟨s, he⟩, hr⟩ := runOf_ok h
 refine List.ext_getElem? fun q => ?_
 rw [List.getElem?_map, List.getElem?_map]
 by_cases hq : q < len
 ·rw [hr q hq, List.getElem?_eq_getElem (show q < d.length by omega), Option.map_some, Option.map_some, pj_rp he (List.getElem?_eq_getElem (by omega))]
 ·rw [List.getElem?_eq_none (by omega), List.getElem?_eq_none (by omega)]; rfl
def iRep (k : IntKind) (n : Nat) : Rep { l : List Int // l.length = n } where
 size := n
 agg := true
 cp l := l.1.map (iv k)
 len l := by rw [List.length_map, l.2]
 at_ l φ hφ := by obtain ⟨x, _, rfl⟩ := List.mem_map.1 hφ; exact iv_at
 one h := by cases h
theorem eqs_ints {e : TypeId} {k : IntKind} (hu : P.underlying e = some (.int k)) {F : FP} {w : World} : ∀ {x y : List Int} {cs ds : List Value}, x.length = y.length → AllP F w (x.map (iv k)) cs → AllP F w (y.map (iv k)) ds → ∃ r, EqAs P e cs ds r ∧ r = decide (x = y)
 | [], [], [], [], _, _, _ => ⟨true, rfl, by simp⟩
 | a :: x, b :: y, c :: cs, d :: ds, hl, ⟨h1, h2⟩, ⟨h3, h4⟩ => by
  obtain ⟨r, h5, h6⟩ := eqs_ints hu (by simpa using hl) h2 h4
  obtain rfl : c = .int k a := h1
  obtain rfl : d = .int k b := h3
  refine ⟨_, ⟨_, r, .int hu, h5, rfl⟩, ?_⟩
  rw [h6]
  by_cases e1 : a = b
  ·subst e1; simp
  ·simp [e1]
 | [], _ :: _, _, _, h, _, _ => by simp at h
 | _ :: _, [], _, _, h, _, _ => by simp at h
 | [], [], _ :: _, _, _, h, _ => h.elim
 | [], [], [], _ :: _, _, _, h => h.elim
 | _ :: _, _ :: _, [], _, _, h, _ => h.elim
 | _ :: _, _ :: _, _ :: _, [], _, _, h => h.elim
theorem eqT_ints {t e : TypeId} {n : Nat} {k : IntKind} {i : TypeInfo} (hu : P.underlying t = some (.array n e)) (hi : P.info? e = some i) (h1 : i.size = 1) (he : P.underlying e = some (.int k)) (hg : P.eqGuardType P.depth t = false) : EqT P t (iRep k n) :=
 eqT_array hu hi h1 (fun w => by simp [isAgg, run_underlying he]) hg fun x y F w cs ds hc hd => by
  refine ⟨by rw [hc.length, (iRep k n).len]; rfl, ?_⟩
  obtain ⟨r, h2, h3⟩ := eqs_ints (x := x.1) (y := y.1) he (by rw [x.2, y.2]) hc hd
  exact ⟨r, h2, h3.trans (by rw [decide_eq_decide]; exact ⟨Subtype.ext, fun h => by rw [h]⟩)⟩
def veqM (n : Nat) (x y : List Int) : Option Bool := if x.length = n ∧ y.length = n then some (decide (x = y)) else none
def arrE (P : Program) (n : Nat) (env : List (Nat × Ent)) (G : List (Nat × Sh)) (b : BinOp) (t : TypeId) (x y : Operand) : Ask OpR := match P.underlying t with
 | some (.array len e) => match P.underlying e, opd G x, opd G y with
  | some (.int k), some (.vl true l), some (.vl true l') => Ask.of (P.info? e) fun i => Ask.of (runOf env len l) fun u => Ask.of (runOf env len l') fun v =>
   Ask.when (Nat.beq l.length len && (Nat.beq l'.length len && ((u.2.1 == k) && ((v.2.1 == k) && (Nat.beq i.size 1 && !P.eqGuardType P.depth t))))) (match b with
    | .eql => .bind (veqM len u.2.2 v.2.2) fun r => .ret (resD n .bool r)
    | .neq => .bind (veqM len u.2.2 v.2.2) fun r => .ret (resD n .bool (!r : Bool))
    | _ => .fail)
  | _, _, _ => .fail
 | _ => .fail
theorem arrE_ok (hw : WF n env) {b : BinOp} {t yt : TypeId} {x y : Operand} : AskOk (OpOk P E N (.binOp b t x y yt) ty n env G O) (arrE P n env G b t x y) := by
 unfold arrE
 split
 ·rename_i len e hu
  split
  ·rename_i k l l' he hx hy
   refine AskOk.of fun i hi => AskOk.of fun u hu1 => AskOk.of fun v hv1 => AskOk.when fun hb => ?_
   simp only [Bool.and_eq_true, Bool.not_eq_true'] at hb
   obtain ⟨h1, h2, h3, h4, h5, h6⟩ := hb
   obtain ⟨ui, uk, ud⟩ := u
   obtain ⟨vi, vk, vd⟩ := v
   obtain rfl := eq_of_beq h3
   obtain rfl := eq_of_beq h4
   have hT := eqT_ints hu hi (Nat.eq_of_beq_eq_true h5) he h6
   have use : ∀ {r : Bool}, veqM len ud vd = some r → ∃ (hu : ud.length = len) (hv : vd.length = len), r = decide ((⟨ud, hu⟩ : { l : List Int // l.length = len }) = ⟨vd, hv⟩) ∧
     ∀ η, lkO (gma ⟨n, env, η⟩ G) x = some (ag ((iRep vk len).cp ⟨ud, hu⟩)) ∧ lkO (gma ⟨n, env, η⟩ G) y = some (ag ((iRep vk len).cp ⟨vd, hv⟩)) := fun {r} hr => by
    unfold veqM at hr
    split at hr
    ·rename_i hlen
     refine ⟨hlen.1, hlen.2, ?_, fun η => ⟨?_, ?_⟩⟩
     ·rw [← Option.some.inj hr, decide_eq_decide]; exact ⟨fun h => Subtype.ext h, fun h => congrArg Subtype.val h⟩
     ·rw [opd_rp (c := ⟨n, env, η⟩) hx]; simp only [Sh.rp, vrp, cond_true]; rw [run_map (c := ⟨n, env, η⟩) hu1 (Nat.eq_of_beq_eq_true h1) hlen.1]; rfl
     ·rw [opd_rp (c := ⟨n, env, η⟩) hy]; simp only [Sh.rp, vrp, cond_true]; rw [run_map (c := ⟨n, env, η⟩) hv1 (Nat.eq_of_beq_eq_true h2) hlen.2]; rfl
    ·cases hr
   split
   ·intro r hr
    obtain ⟨hu', hv', e1, h7⟩ := use hr
    subst e1
    exact OpOk.dat hw rfl fun η => r_steql hT (h7 η).1 (h7 η).2 rfl rfl
   ·intro r hr
    obtain ⟨hu', hv', e1, h7⟩ := use hr
    subst e1
    exact OpOk.dat hw rfl fun η => r_stneq hT (h7 η).1 (h7 η).2 rfl rfl
   ·trivial
  ·trivial
 ·trivial

def binE (P : Program) [PTab P] (n : Nat) (env : List (Nat × Ent)) (G : List (Nat × Sh)) (b : BinOp) (t : TypeId) (x y : Operand) : Ask OpR :=
 match opd G x with
 | some (.vl true _) => bif (PTab.code P t).isSome then strctE P n env G b t x y else arrE P n env G b t x y
 | _ => match (opD env G x).map (fun D => D.t) with
  | some (Ty.int _) => intE n env G b x y
  | some Ty.bool => boolE P n env G b t x y
  | some Ty.str => strE n env G b x y
  | _ => optE P n env G b t x y
theorem binE_ok (hw : WF n env) {b : BinOp} {t yt : TypeId} {x y : Operand} : AskOk (OpOk P E N (.binOp b t x y yt) ty n env G O) (binE P n env G b t x y) := by
 unfold binE
 split
 ·cases (PTab.code P t).isSome with
  | true => exact strctE_ok hw
  | false => exact arrE_ok hw
 ·split
  ·exact intE_ok hw
  ·exact boolE_ok hw
  ·exact strE_ok hw
  ·exact optE_ok hw

def unE (n : Nat) (env : List (Nat × Ent)) (G : List (Nat × Sh)) (b : UnOp) (x : Operand) : Ask OpR := match b with
 | .not => Ask.of (opB env G x) fun u => .ret (resD n .bool (!u : Bool))
 | .neg => Ask.of (opI env G x) fun u => .ret (resD n (.int u.1) (ineg u.1 u.2))
 | .xor => Ask.of (opI env G x) fun u => .ret (resD n (.int u.1) (icom u.1 u.2))
 | _ => .fail
theorem unE_ok (hw : WF n env) {b : UnOp} {t : TypeId} {x : Operand} : AskOk (OpOk P E N (.unOp b t x) ty n env G O) (unE n env G b x) := by
 cases b with
 | not => exact AskOk.of fun u hu => OpOk.dat hw rfl fun η => (r_not (opB_rp hu))
 | neg => exact AskOk.of fun u hu => OpOk.dat hw rfl fun η => (r_neg (opI_rp hu))
 | xor => exact AskOk.of fun u hu => OpOk.dat hw rfl fun η => (r_com (opI_rp hu))
 | plus => trivial

def convE (P : Program) (n : Nat) (env : List (Nat × Ent)) (G : List (Nat × Sh)) (s d : TypeId) (x : Operand) : Ask OpR := match P.underlying s, P.underlying d with
 | some (.int _), some (.int k') => Ask.of (opI env G x) fun u => .ret (resD n (.int k') (k'.wrap u.2))
 | some (.slice e), some .string => match P.underlying e with
  | some (.int .u8) => Ask.of (opL env G x) fun l => match l with
   | ⟨.int .u8, l⟩ => .ret (resD n .str (bstr l))
   | _ => .fail
  | _ => .fail
 | _, _ => .fail
theorem convE_ok (hw : WF n env) {s d : TypeId} {x : Operand} : AskOk (OpOk P E N (.convert s d x) ty n env G O) (convE P n env G s d x) := by
 unfold convE
 split
 ·rename_i h1 h2
  exact AskOk.of fun u hu => OpOk.dat hw rfl fun η => (r_conv h2 (by rw [h1]; rfl) (opI_rp hu))
 ·rename_i e h1 h2
  split
  ·rename_i h3
   refine AskOk.of fun l hl => ?_
   split
   ·exact OpOk.dat hw rfl fun η => (r_b2s h1 h2 h3 (opL_rp hl))
   ·trivial
  ·trivial
 ·trivial

def nilcE (n : Nat) (env : List (Nat × Ent)) (G : List (Nat × Sh)) (x : Operand) : Ask OpR := Ask.of (opA G x) fun a => match a with
 | .ptr o h off => .ret (resS (.vl false [.ptr o h off]))
 | .vr i => Ask.of (rdD env (.vr i)) fun D => match D with
  | ⟨.op t, d⟩ => .bind d fun y => .ret ⟨.vl false [.ea n], [⟨t, y, none⟩], 0, [], []⟩
  | _ => .fail
 | _ => .fail
theorem nilcE_ok (hw : WF n env) {x : Operand} : AskOk (OpOk P E N (.nilCheck x) ty n env G O) (nilcE n env G x) :=
 AskOk.of fun a ha => by
  split
  ·rename_i o h off
   refine OpOk.same hw fun η => ?_
   have h1 := opA_rp (c := ⟨n, env, η⟩) ha
   cases hb : Nat.blt h n with
   | true =>
    have e : (At.ptr o h off).rp ⟨n, env, η⟩ = pv (ptr (η h).b off) := by simp only [At.rp, hb, cond_true]
    show Rd _ _ _ _ _ _ _ _ ((At.ptr o h off).rp ⟨n, env, η⟩)
    rw [e] at h1 ⊢
    exact r_nilc h1
   | false =>
    have e : (At.ptr o h off).rp ⟨n, env, η⟩ = RP.no := by simp only [At.rp, hb, cond_false]
    rw [e] at h1
    exact fun a w hs => (hs.op h1).elim
  ·refine AskOk.of fun D hD => ?_
   split
   ·rename_i t' d
    intro y hy
    refine OpOk.rd' hw (fun e' he' => by rw [List.mem_singleton.1 he']; trivial) fun η => ?_
    have h1 := opA_rp (c := ⟨n, env, η⟩) ha
    rw [(rdD_rp (c := ⟨n, env, η⟩) hD).1] at h1
    have h2 := r_optc (P := P) (E := E) (N := N) (Ω := oma ⟨n, env, η⟩ O) (ty := ty) (ρ := t'.rep) hy h1
    simp only [Sh.rp, vrp, cond_false, List.map_cons, List.headD_cons, At.rp, keyed, lkE_cons, if_true]
    exact h2
   ·trivial
  ·trivial
end Go.Dc

namespace Go.Dc
variable [DrawMode] {R : Type} {P : Program} [PTab P] {E : Env} {N : Nat} {K : KT R} {m : Option R} {op : Op} {ty : TypeId} {n : Nat} {env : List (Nat × Ent)} {G : List (Nat × Sh)} {O : List MO}

def updH (η : Nat → Hd) (k : Nat) (d : Hd) : Nat → Hd := fun i => bif Nat.beq i k then d else η i
theorem updH_at {η : Nat → Hd} {k : Nat} {d : Hd} : updH η k d k = d := by simp [updH]
theorem updH_lt {η : Nat → Hd} {k h : Nat} {d : Hd} (hh : h < k) : updH η k d h = η h := by simp only [updH]; rw [beq_ne (by omega)]; rfl

theorem oa_one {α : Type} {ρ : Rep α} {hv : Value} {S : List Nat} {d : List α} {F : FP} {w : World} (h : (oa ρ hv S d).h F w) : hv.oneCell' = true := by
 obtain ⟨a, c, e, _⟩ := h; rw [e]; rfl

theorem Sat.mem_ob {Γ : List (Nat × RP)} {Ω : List OB} {a : Act} {w : World} (hs : Sat E N Γ Ω a w) {o : OB} (ho : o ∈ Ω) : o.h (fr E Ω) w := hs.ob o ho

theorem OpOk.newA (hw : WF n env) {t : Ty} {d : List t.den} (h : ∀ η, St P E N op ty (gma ⟨n, env, η⟩ G) (oma ⟨n, env, η⟩ O) [] (fun X : Value × List Nat => pv X.1) (fun X => oma ⟨n, env, η⟩ O ++ [oa t.rep X.1 X.2 d])) :
  OpOk P E N op ty n env G O ⟨.vl false [.own O.length (n + 1)], [⟨.sl t, d, none⟩], 1, [], [.oa (n + 1) n]⟩ := by
 have hsrc : ∀ e ∈ [(⟨.sl t, d, none⟩ : Ent)], SrcOk env e := fun e he => by rw [List.mem_singleton.1 he]; exact .none rfl
 refine ⟨hsrc, (fun _ _ h => by cases h), fun η => ?_⟩
 have h := h η
 refine h.to' fun X a w hs => ?_
 have h1 := oa_one (hs.mem_ob (o := oa t.rep X.1 X.2 d) (by simp))
 refine ⟨⟨updH η (n + 1) ⟨X.1, X.2, 0, h1, fun _ => nilB⟩, fun k hk => updH_lt (by omega)⟩, ?_, ?_⟩
 ·simp only [OpR.O', updO]
  refine oma_add (OpOk.ext hw (r := ⟨.vl false [.own O.length (n + 1)], [⟨.sl t, d, none⟩], 1, [], [.oa (n + 1) n]⟩) hsrc ⟨updH η (n + 1) ⟨X.1, X.2, 0, h1, fun _ => nilB⟩, fun k hk => updH_lt (by omega)⟩) ?_ hs
  simp only [MO.ob, OpR.cx', OpR.env', OpR.n', keyed, lkE_cons, if_true, Option.bind_some, Dyn.ob, Ent.asSl, updH_at]
  rw [show Nat.blt (n + 1) (n + [(⟨.sl t, d, none⟩ : Ent)].length + 1) = true from by simp [Nat.blt_eq]]
  rfl
 ·simp only [Sh.rp, vrp, cond_false, List.map_cons, List.headD_cons, At.rp, OpR.cx', OpR.n', updH_at]
  rw [show Nat.blt (n + 1) (n + [(⟨.sl t, d, none⟩ : Ent)].length + 1) = true from by simp [Nat.blt_eq]]
  rfl

theorem OpOk.chgA (hw : WF n env) {t : Ty} {d : List t.den} {j : Nat} (h : ∀ η, St P E N op ty (gma ⟨n, env, η⟩ G) (oma ⟨n, env, η⟩ O) [j] (fun X : Value × List Nat => pv X.1) (fun X => (oma ⟨n, env, η⟩ O).set j (oa t.rep X.1 X.2 d))) (hj : j < O.length) :
  OpOk P E N op ty n env G O ⟨.vl false [.own j (n + 1)], [⟨.sl t, d, none⟩], 1, [(j, .oa (n + 1) n)], []⟩ := by
 have hsrc : ∀ e ∈ [(⟨.sl t, d, none⟩ : Ent)], SrcOk env e := fun e he => by rw [List.mem_singleton.1 he]; exact .none rfl
 refine ⟨hsrc, (fun _ h => by cases h), fun η => ?_⟩
 have h := h η
 refine h.to' fun X a w hs => ?_
 have h1 := oa_one (hs.mem_ob (o := oa t.rep X.1 X.2 d) (List.mem_iff_getElem?.2 ⟨j, by rw [List.getElem?_set_self (by simpa [oma] using hj)]⟩))
 refine ⟨⟨updH η (n + 1) ⟨X.1, X.2, 0, h1, fun _ => nilB⟩, fun k hk => updH_lt (by omega)⟩, ?_, ?_⟩
 ·simp only [OpR.O', updO, List.append_nil]
  refine oma_set (OpOk.ext hw (r := ⟨.vl false [.own j (n + 1)], [⟨.sl t, d, none⟩], 1, [(j, .oa (n + 1) n)], []⟩) hsrc ⟨updH η (n + 1) ⟨X.1, X.2, 0, h1, fun _ => nilB⟩, fun k hk => updH_lt (by omega)⟩) ?_ hs
  simp only [MO.ob, OpR.cx', OpR.env', OpR.n', keyed, lkE_cons, if_true, Option.bind_some, Dyn.ob, Ent.asSl, updH_at]
  rw [show Nat.blt (n + 1) (n + [(⟨.sl t, d, none⟩ : Ent)].length + 1) = true from by simp [Nat.blt_eq]]
  rfl
 ·simp only [Sh.rp, vrp, cond_false, List.map_cons, List.headD_cons, At.rp, OpR.cx', OpR.n', updH_at]
  rw [show Nat.blt (n + 1) (n + [(⟨.sl t, d, none⟩ : Ent)].length + 1) = true from by simp [Nat.blt_eq]]
  rfl

theorem OpOk.newC (hw : WF n env) {l : List At} (h : ∀ η, St P E N op ty (gma ⟨n, env, η⟩ G) (oma ⟨n, env, η⟩ O) [] (fun b : Nat => pv (ptr b 0)) (fun b => oma ⟨n, env, η⟩ O ++ [oc b (l.map (At.rp ⟨n, env, η⟩))])) :
  OpOk P E N op ty n env G O ⟨.vl false [.ptr O.length n 0], [], 1, [], [.oc n l]⟩ := by
 have hsrc : ∀ e ∈ ([] : List Ent), SrcOk env e := fun e he => by simp at he
 refine ⟨hsrc, (fun _ _ h => by cases h), fun η => ?_⟩
 have h := h η
 refine h.to' fun b a w hs => ?_
 have hx := OpOk.ext hw (r := ⟨.vl false [.ptr O.length n 0], [], 1, [], [.oc n l]⟩) hsrc ⟨updH η n ⟨.bool true, [], b, rfl, fun _ => nilB⟩, fun k hk => updH_lt (by omega)⟩
 refine ⟨⟨updH η n ⟨.bool true, [], b, rfl, fun _ => nilB⟩, fun k hk => updH_lt (by omega)⟩, ?_, ?_⟩
 ·simp only [OpR.O', updO]
  refine oma_add hx ?_ hs
  obtain ⟨cells, ty', _, hl⟩ := hs.mem_ob (o := oc b (l.map (At.rp ⟨n, env, η⟩))) (by simp)
  simp only [MO.ob]
  rw [atl_eq hx hl]
  simp only [OpR.cx', OpR.n', updH_at]
  rw [show Nat.blt n (n + ([] : List Ent).length + 1) = true from by simp [Nat.blt_eq]]
  rfl
 ·simp only [Sh.rp, vrp, cond_false, List.map_cons, List.headD_cons, At.rp, OpR.cx', OpR.n', updH_at]
  rw [show Nat.blt n (n + ([] : List Ent).length + 1) = true from by simp [Nat.blt_eq]]
  rfl

theorem OpOk.setC (hw : WF n env) {l : List At} {j k : Nat} {X : Type} [Inhabited X] (hj : j < O.length) (hk : Nat.blt k n = true)
  (h : ∀ η, St P E N op ty (gma ⟨n, env, η⟩ G) (oma ⟨n, env, η⟩ O) [j] (fun _ : X => pv Go.undef) (fun _ => (oma ⟨n, env, η⟩ O).set j (oc (η k).b (l.map (At.rp ⟨n, env, η⟩))))) :
  OpOk P E N op ty n env G O ⟨.undef, [], 0, [(j, .oc k l)], []⟩ := by
 have hsrc : ∀ e ∈ ([] : List Ent), SrcOk env e := fun e he => by simp at he
 refine ⟨hsrc, (fun _ h => by cases h), fun η => ?_⟩
 have h := h η
 refine h.to' fun x a w hs => ?_
 refine ⟨⟨η, fun _ _ => rfl⟩, ?_, rfl⟩
 simp only [OpR.O', updO, List.append_nil]
 refine oma_set (OpOk.ext hw (r := ⟨.undef, [], 0, [(j, .oc k l)], []⟩) hsrc ⟨η, fun _ _ => rfl⟩) ?_ hs
 simp only [MO.ob, OpR.cx', OpR.n', OpR.env', keyed]
 rw [show Nat.blt k (n + ([] : List Ent).length + 0) = true from by simpa using hk]
 rfl

theorem OpOk.setD (hw : WF n env) {t : Ty} {d : List t.den} {j k : Nat} {X : Type} [Inhabited X] (hk : Nat.blt k n = true)
  (h : ∀ η, St P E N op ty (gma ⟨n, env, η⟩ G) (oma ⟨n, env, η⟩ O) [j] (fun _ : X => pv Go.undef) (fun _ => (oma ⟨n, env, η⟩ O).set j (oa t.rep (η k).hv (η k).S d))) :
  OpOk P E N op ty n env G O ⟨.undef, [⟨.sl t, d, none⟩], 0, [(j, .oa k n)], []⟩ := by
 have hsrc : ∀ e ∈ [(⟨.sl t, d, none⟩ : Ent)], SrcOk env e := fun e he => by rw [List.mem_singleton.1 he]; exact .none rfl
 refine ⟨hsrc, (fun _ h => by cases h), fun η => ?_⟩
 have h := h η
 refine h.to' fun x a w hs => ?_
 refine ⟨⟨η, fun _ _ => rfl⟩, ?_, rfl⟩
 simp only [OpR.O', updO, List.append_nil]
 refine oma_set (OpOk.ext hw (r := ⟨.undef, [⟨.sl t, d, none⟩], 0, [(j, .oa k n)], []⟩) hsrc ⟨η, fun _ _ => rfl⟩) ?_ hs
 simp only [MO.ob, OpR.cx', OpR.n', OpR.env', keyed, lkE_cons, if_true, Option.bind_some, Dyn.ob, Ent.asSl]
 rw [blt_mono hk (show n ≤ n + [(⟨.sl t, d, none⟩ : Ent)].length + 0 from by omega)]
 rfl

theorem OpOk.newV (hw : WF n env) {k : IntKind} {d : List Int} (h : ∀ η, St P E N op ty (gma ⟨n, env, η⟩ G) (oma ⟨n, env, η⟩ O) [] (fun b : Nat => pv (Dc.ptr b 0)) (fun b => oma ⟨n, env, η⟩ O ++ [oc b (d.map (iv k))])) :
  OpOk P E N op ty n env G O ⟨.vl false [.ptr O.length (n + 1) 0], [⟨.vec k, d, none⟩], 1, [], [.oa (n + 1) n]⟩ := by
 have hsrc : ∀ e ∈ [(⟨.vec k, d, none⟩ : Ent)], SrcOk env e := fun e he => by rw [List.mem_singleton.1 he]; exact .none rfl
 refine ⟨hsrc, (fun _ _ h => by cases h), fun η => ?_⟩
 have h := h η
 refine h.to' fun b a w hs => ?_
 refine ⟨⟨updH η (n + 1) ⟨.bool true, [], b, rfl, fun _ => nilB⟩, fun k hk => updH_lt (by omega)⟩, ?_, ?_⟩
 ·simp only [OpR.O', updO]
  refine oma_add (OpOk.ext hw (r := ⟨.vl false [.ptr O.length (n + 1) 0], [⟨.vec k, d, none⟩], 1, [], [.oa (n + 1) n]⟩) hsrc ⟨updH η (n + 1) ⟨.bool true, [], b, rfl, fun _ => nilB⟩, fun k hk => updH_lt (by omega)⟩) ?_ hs
  simp only [MO.ob, OpR.cx', OpR.env', OpR.n', keyed, lkE_cons, if_true, Dyn.ob, updH_at]
  rw [show Nat.blt (n + 1) (n + [(⟨.vec k, d, none⟩ : Ent)].length + 1) = true from by simp [Nat.blt_eq]]
  rfl
 ·simp only [Sh.rp, vrp, cond_false, List.map_cons, List.headD_cons, At.rp, OpR.cx', OpR.n', updH_at]
  rw [show Nat.blt (n + 1) (n + [(⟨.vec k, d, none⟩ : Ent)].length + 1) = true from by simp [Nat.blt_eq]]
  rfl
theorem OpOk.setV (hw : WF n env) {kd : IntKind} {d : List Int} {j k : Nat} {X : Type} [Inhabited X] (hk : Nat.blt k n = true)
  (h : ∀ η, St P E N op ty (gma ⟨n, env, η⟩ G) (oma ⟨n, env, η⟩ O) [j] (fun _ : X => pv Go.undef) (fun _ => (oma ⟨n, env, η⟩ O).set j (oc (η k).b (d.map (iv kd))))) :
  OpOk P E N op ty n env G O ⟨.undef, [⟨.vec kd, d, none⟩], 0, [(j, .oa k n)], []⟩ := by
 have hsrc : ∀ e ∈ [(⟨.vec kd, d, none⟩ : Ent)], SrcOk env e := fun e he => by rw [List.mem_singleton.1 he]; exact .none rfl
 refine ⟨hsrc, (fun _ h => by cases h), fun η => ?_⟩
 have h := h η
 refine h.to' fun x a w hs => ?_
 refine ⟨⟨η, fun _ _ => rfl⟩, ?_, rfl⟩
 simp only [OpR.O', updO, List.append_nil]
 refine oma_set (OpOk.ext hw (r := ⟨.undef, [⟨.vec kd, d, none⟩], 0, [(j, .oa k n)], []⟩) hsrc ⟨η, fun _ _ => rfl⟩) ?_ hs
 simp only [MO.ob, OpR.cx', OpR.n', OpR.env', keyed, lkE_cons, if_true, Dyn.ob]
 rw [blt_mono hk (show n ≤ n + [(⟨.vec kd, d, none⟩ : Ent)].length + 0 from by omega)]
 rfl

theorem OpOk.newD (hw : WF n env) (hq : isQuiet op = false) {t : Ty} (ht : t.one = true) {d : t.den} {X : Type} (h : ∀ η, St P E N op ty (gma ⟨n, env, η⟩ G) (oma ⟨n, env, η⟩ O) [] (fun _ : X => sh t.rep d) (fun _ => oma ⟨n, env, η⟩ O)) :
  OpOk P E N op ty n env G O (resD n t d) := by
 have hsrc : ∀ e ∈ [(⟨t, d, none⟩ : Ent)], SrcOk env e := fun e he => by rw [List.mem_singleton.1 he]; exact .none rfl
 refine ⟨hsrc, (fun h => by rw [hq] at h; cases h), fun η => ?_⟩
 have h := h η
 refine h.to' fun x a w hs => ?_
 refine ⟨⟨η, fun _ _ => rfl⟩, ?_, ?_⟩
 ·show oma _ (O ++ []) = _
  rw [List.append_nil]
  exact oma_good (OpOk.ext hw (r := resD n t d) hsrc ⟨η, fun _ _ => rfl⟩) hs
 ·exact vr_rp ht

def ownA (n : Nat) (env : List (Nat × Ent)) (O : List MO) (o h : Nat) : Option (Nat × (t : Ty) × List t.den) := match O[o]? with
 | some (.oa h' i) => bif Nat.beq h' h && Nat.blt h n then ((lkE env i).bind Ent.asSl).map fun p => (i, p) else none
 | _ => none
theorem ownA_ok {o h i : Nat} {t : Ty} {d : List t.den} (hh : ownA n env O o h = some (i, ⟨t, d⟩)) :
  Nat.blt h n = true ∧ o < O.length ∧ (∃ s, lkE env i = some ⟨.sl t, d, s⟩) ∧ ∀ η, (oma ⟨n, env, η⟩ O)[o]? = some (oa t.rep (η h).hv (η h).S d) := by
 unfold ownA at hh
 split at hh
 ·rename_i h' i' ho
  cases hb : Nat.beq h' h && Nat.blt h n with
  | false => rw [hb] at hh; cases hh
  | true =>
   rw [hb] at hh
   simp only [cond_true, Option.map_eq_some_iff, Prod.mk.injEq] at hh
   obtain ⟨p, hp, rfl, rfl⟩ := hh
   obtain ⟨e, he, hs⟩ := Option.bind_eq_some_iff.1 hp
   obtain ⟨s, rfl⟩ := asSl_eq hs
   simp only [Bool.and_eq_true] at hb
   obtain ⟨h1, h2⟩ := hb
   obtain rfl := Nat.eq_of_beq_eq_true h1
   refine ⟨h2, (List.getElem?_eq_some_iff.1 ho).1, ⟨s, he⟩, fun η => ?_⟩
   simp only [oma, List.getElem?_map, ho, Option.map_some, MO.ob, he, Option.bind_some, Dyn.ob, Ent.asSl, h2, cond_true]
 ·cases hh

def anyA (n : Nat) (env : List (Nat × Ent)) (O : List MO) (o h : Nat) : Option (Nat × Dyn) := match O[o]? with
 | some (.oa h' i) => bif Nat.beq h' h && Nat.blt h n then (lkE env i).map fun e => (i, ⟨e.t, e.d⟩) else none
 | _ => none
theorem anyA_ok {o h i : Nat} {D : Dyn} (hh : anyA n env O o h = some (i, D)) :
  Nat.blt h n = true ∧ o < O.length ∧ (∃ s, lkE env i = some ⟨D.t, D.d, s⟩) ∧ ∀ η, (oma ⟨n, env, η⟩ O)[o]? = some (D.ob (η h)) := by
 unfold anyA at hh
 split at hh
 ·rename_i h' i' ho
  cases hb : Nat.beq h' h && Nat.blt h n with
  | false => rw [hb] at hh; cases hh
  | true =>
   rw [hb] at hh
   obtain ⟨e, he, hs⟩ := Option.map_eq_some_iff.1 hh
   cases hs
   simp only [Bool.and_eq_true] at hb
   obtain ⟨h1, h2⟩ := hb
   obtain rfl := Nat.eq_of_beq_eq_true h1
   refine ⟨h2, (List.getElem?_eq_some_iff.1 ho).1, ⟨e.src, he⟩, fun η => ?_⟩
   simp only [oma, List.getElem?_map, ho, Option.map_some, MO.ob, he, h2, cond_true]
 ·cases hh

def varC (n : Nat) (O : List MO) (o h : Nat) : Option (List At) := match O[o]? with
 | some (.oc h' l) => bif Nat.beq h' h && Nat.blt h n then some l else none
 | _ => none
theorem varC_ok {o h : Nat} {l : List At} (hh : varC n O o h = some l) : Nat.blt h n = true ∧ o < O.length ∧ ∀ η, (oma ⟨n, env, η⟩ O)[o]? = some (oc (η h).b (l.map (At.rp ⟨n, env, η⟩))) := by
 unfold varC at hh
 split at hh
 ·rename_i h' l' ho
  cases hb : Nat.beq h' h && Nat.blt h n with
  | false => rw [hb] at hh; cases hh
  | true =>
   rw [hb] at hh
   cases hh
   simp only [Bool.and_eq_true] at hb
   obtain ⟨h1, h2⟩ := hb
   obtain rfl := Nat.eq_of_beq_eq_true h1
   refine ⟨h2, (List.getElem?_eq_some_iff.1 ho).1, fun η => ?_⟩
   simp only [oma, List.getElem?_map, ho, Option.map_some]
   rw [oc_ob h2]
 ·cases hh
end Go.Dc

namespace Go.Dc
variable [DrawMode] {R : Type} {P : Program} [PTab P] {E : Env} {N : Nat} {K : KT R} {m : Option R} {op : Op} {ty : TypeId} {n : Nat} {env : List (Nat × Ent)} {G : List (Nat × Sh)} {O : List MO}

def strctF (P : Program) (t : TypeId) (f : Nat) : Option Go.Field := match P.underlying t with
 | some (.struct fs) => fs[f]?
 | _ => none
theorem strctF_ok {t : TypeId} {f : Nat} {fd : Go.Field} (h : strctF P t f = some fd) : ∃ fs, P.underlying t = some (.struct fs) ∧ fs[f]? = some fd := by
 unfold strctF at h
 split at h
 ·rename_i fs hu; exact ⟨fs, hu, h⟩
 ·cases h

def fldE (P : Program) [PTab P] (e : Ent) (f : Nat) : Option (Nat × Dyn) := match e with
 | ⟨.st k, d, _⟩ => PTab.fld (P := P) k f d
 | _ => none
theorem fldE_ok {e : Ent} {f fo : Nat} {D : Dyn} (h : fldE P e f = some (fo, D)) : ((e.t.rep.cp e.d).drop fo).take D.t.rep.size = D.t.rep.cp D.d ∧ fo + D.t.rep.size ≤ e.t.rep.size := by
 unfold fldE at h
 split at h
 ·rename_i k d s; exact PTab.fld_ok k f d fo D h
 ·cases h

def ownE (n : Nat) (env : List (Nat × Ent)) (O : List MO) (o h y : Nat) : Option (Ent × Int × (t : Ty) × List t.den) := match lkE env y with
 | some ⟨t, d, some (.el ds ix)⟩ => (ownA n env O o h).bind fun p => bif Nat.beq p.1 ds then some (⟨t, d, some (.el ds ix)⟩, ix, p.2) else none
 | _ => none
theorem ownE_ok (hw : WF n env) {o h y : Nat} {e : Ent} {ix : Int} {p : (t : Ty) × List t.den} (hh : ownE n env O o h y = some (e, ix, p)) :
  lkE env y = some e ∧ (∃ ds, e.src = some (.el ds ix)) ∧ ∃ l : List e.t.den, p = ⟨e.t, l⟩ ∧ idxM l ix = some e.d ∧ Nat.blt h n = true ∧ o < O.length ∧ ∀ η, (oma ⟨n, env, η⟩ O)[o]? = some (oa e.t.rep (η h).hv (η h).S l) := by
 unfold ownE at hh
 split at hh
 ·rename_i t d ds ix' he
  obtain ⟨q, hq, h2⟩ := Option.bind_eq_some_iff.1 hh
  cases hb : Nat.beq q.1 ds with
  | false => rw [hb] at h2; cases h2
  | true =>
   rw [hb] at h2
   simp only [cond_true, Option.some.injEq, Prod.mk.injEq] at h2
   obtain ⟨rfl, rfl, rfl⟩ := h2
   obtain ⟨i, t', l⟩ := q
   obtain ⟨h3, h4, ⟨s, h5⟩, h6⟩ := ownA_ok hq
   obtain rfl := Nat.eq_of_beq_eq_true hb
   have h7 := hw.src y _ he
   unfold SrcOk at h7
   obtain ⟨l', s', h8, h9⟩ := h7
   dsimp only at h8
   rw [h5] at h8
   cases h8
   exact ⟨he, ⟨_, rfl⟩, l, rfl, h9, h3, h4, h6⟩
 ·cases hh

def vecA (n : Nat) (env : List (Nat × Ent)) (O : List MO) (o h : Nat) : Option (Nat × IntKind × List Int) := match anyA n env O o h with
 | some (i, ⟨.vec k, d⟩) => some (i, k, d)
 | _ => none
theorem vecA_ok {o h i : Nat} {k : IntKind} {d : List Int} (hh : vecA n env O o h = some (i, k, d)) :
  Nat.blt h n = true ∧ o < O.length ∧ (∃ s, lkE env i = some ⟨.vec k, d, s⟩) ∧ ∀ η, (oma ⟨n, env, η⟩ O)[o]? = some (oc (η h).b (d.map (iv k))) := by
 unfold vecA at hh
 split at hh
 ·rename_i i' k' d' h1
  cases hh
  obtain ⟨h2, h3, h4, h5⟩ := anyA_ok h1
  exact ⟨h2, h3, h4, h5⟩
 ·cases hh
def vecE (n : Nat) (env : List (Nat × Ent)) (O : List MO) (o h y : Nat) : Option (IntKind × Int × Int × List Int) := match lkE env y with
 | some ⟨.int k, z, some (.ve ds ix)⟩ => (vecA n env O o h).bind fun p => bif Nat.beq p.1 ds && (p.2.1 == k) then some (k, z, ix, p.2.2) else none
 | _ => none
theorem vecE_ok (hw : WF n env) {o h y : Nat} {k : IntKind} {z ix : Int} {d : List Int} (hh : vecE n env O o h y = some (k, z, ix, d)) :
  (∃ ds, lkE env y = some ⟨.int k, z, some (.ve ds ix)⟩) ∧ idxM d ix = some z ∧ Nat.blt h n = true ∧ o < O.length ∧ ∀ η, (oma ⟨n, env, η⟩ O)[o]? = some (oc (η h).b (d.map (iv k))) := by
 unfold vecE at hh
 split at hh
 ·rename_i k' z' ds ix' he
  obtain ⟨⟨i, k2, d'⟩, hq, h2⟩ := Option.bind_eq_some_iff.1 hh
  cases hb : Nat.beq i ds && (k2 == k') with
  | false => rw [hb] at h2; cases h2
  | true =>
   rw [hb] at h2
   simp only [cond_true, Option.some.injEq, Prod.mk.injEq] at h2
   obtain ⟨rfl, rfl, rfl, rfl⟩ := h2
   simp only [Bool.and_eq_true] at hb
   obtain ⟨hb1, hb2⟩ := hb
   obtain rfl := Nat.eq_of_beq_eq_true hb1
   obtain rfl := eq_of_beq hb2
   obtain ⟨h3, h4, ⟨s, h5⟩, h6⟩ := vecA_ok hq
   have h7 := hw.src y _ he
   obtain ⟨k3, l3, s3, y3, h8, h9, h10⟩ := h7
   rw [h5] at h8
   cases h8
   cases h10
   exact ⟨⟨_, he⟩, h9, h3, h4, h6⟩
 ·cases hh

def runA (n : Nat) (env : List (Nat × Ent)) (O : List MO) (o h off len : Nat) : Option (Nat × IntKind × List Int) := (varC n O o h).bind fun l => runOf env len (l.drop off)
theorem runA_ok {o h off len i : Nat} {k : IntKind} {d : List Int} (hh : runA n env O o h off len = some (i, k, d)) :
  Nat.blt h n = true ∧ o < O.length ∧ (∃ s, lkE env i = some ⟨.vec k, d, s⟩) ∧ ∃ l, varC n O o h = some l ∧ (∀ q, q < len → l[off + q]? = some (.pj i q)) ∧ ∀ η, (oma ⟨n, env, η⟩ O)[o]? = some (oc (η h).b (l.map (At.rp ⟨n, env, η⟩))) := by
 obtain ⟨l, h1, h2⟩ := Option.bind_eq_some_iff.1 hh
 obtain ⟨h3, h4⟩ := runOf_ok h2
 obtain ⟨h5, h6, h7⟩ := varC_ok (env := env) h1
 refine ⟨h5, h6, h3, l, h1, fun q hq => ?_, h7⟩
 rw [← List.getElem?_drop]; exact h4 q hq
def runE (n : Nat) (env : List (Nat × Ent)) (O : List MO) (o h y : Nat) : Option (IntKind × Int × Int × Nat × Nat × List Int) := match lkE env y with
 | some ⟨.int k, z, some (.vf ds ix off len)⟩ => (runA n env O o h off len).bind fun p => bif Nat.beq p.1 ds && (p.2.1 == k) then some (k, z, ix, off, len, p.2.2) else none
 | _ => none
theorem runE_ok (hw : WF n env) {o h y off len : Nat} {k : IntKind} {z ix : Int} {d : List Int} (hh : runE n env O o h y = some (k, z, ix, off, len, d)) :
  ∃ ds, lkE env y = some ⟨.int k, z, some (.vf ds ix off len)⟩ ∧ idxM d ix = some z ∧ ix < (len : Int) ∧ Nat.blt h n = true ∧ o < O.length ∧ (∃ s, lkE env ds = some ⟨.vec k, d, s⟩) ∧
   ∃ l, varC n O o h = some l ∧ (∀ q, q < len → l[off + q]? = some (.pj ds q)) ∧ ∀ η, (oma ⟨n, env, η⟩ O)[o]? = some (oc (η h).b (l.map (At.rp ⟨n, env, η⟩))) := by
 unfold runE at hh
 split at hh
 ·rename_i k' z' ds ix' off' len' he
  obtain ⟨⟨i, k2, d'⟩, hq, h2⟩ := Option.bind_eq_some_iff.1 hh
  cases hb : Nat.beq i ds && (k2 == k') with
  | false => rw [hb] at h2; cases h2
  | true =>
   rw [hb] at h2
   simp only [cond_true, Option.some.injEq, Prod.mk.injEq] at h2
   obtain ⟨rfl, rfl, rfl, rfl, rfl, rfl⟩ := h2
   simp only [Bool.and_eq_true] at hb
   obtain ⟨hb1, hb2⟩ := hb
   obtain rfl := Nat.eq_of_beq_eq_true hb1
   obtain rfl := eq_of_beq hb2
   obtain ⟨h3, h4, ⟨s, h5⟩, l, h6, h7, h8⟩ := runA_ok hq
   have h9 := hw.src y _ he
   obtain ⟨k3, l3, s3, y3, g1, g2, g3, g4⟩ := h9
   rw [h5] at g1
   cases g1
   cases g4
   exact ⟨i, he, g2, g3, h3, h4, ⟨s, h5⟩, l, h6, h7, h8⟩
 ·cases hh
theorem idx_get {d : List Int} {ix z : Int} (h : idxM d ix = some z) : 0 ≤ ix ∧ d[ix.toNat]? = some z := by
 obtain ⟨h0, _, hl, hd⟩ := idxM_some h
 exact ⟨h0, by rw [List.getElem?_eq_getElem hl, hd]⟩
theorem runE_at {o h y off len : Nat} {k : IntKind} {z ix : Int} {d : List Int} {ds : Nat} {s : Option Src} {l : List At} (hi : idxM d ix = some z) (hlt : ix < (len : Int)) (he : lkE env ds = some ⟨.vec k, d, s⟩)
  (hl : ∀ q, q < len → l[off + q]? = some (.pj ds q)) (η : Nat → Hd) : (l.map (At.rp ⟨n, env, η⟩))[off + ix.toNat]? = some (iv k z) := by
 obtain ⟨h0, hd⟩ := idx_get hi
 rw [List.getElem?_map, hl ix.toNat (by omega), Option.map_some, pj_rp (c := ⟨n, env, η⟩) he hd]

def faddrE (P : Program) [PTab P] (n : Nat) (env : List (Nat × Ent)) (G : List (Nat × Sh)) (O : List MO) (t : TypeId) (x : Operand) (f : Nat) : Ask OpR :=
 Ask.of (strctF P t f) fun fd => Ask.of (sizeT P fd.type) fun k => Ask.when (Nat.blt 0 k) (Ask.of (opA G x) fun a => match a with
  | .ptr o h off => Ask.when (Nat.blt h n) (.ret (resS (.vl false [.ptr o h (off + fd.offset)])))
  | .ea i => Ask.of (lkE env i) fun e => Ask.of (fldE P e f) fun p => Ask.when (Nat.beq fd.offset p.1) (.ret ⟨.vl false [.ea n], [⟨p.2.t, p.2.d, none⟩], 0, [], []⟩)
  | .oea o h y => Ask.of (ownE n env O o h y) fun q => Ask.of (fldE P q.1 f) fun p => Ask.when (Nat.beq fd.offset p.1) (.ret ⟨.vl false [.oef o h n], [⟨p.2.t, p.2.d, some (.fl y p.1)⟩], 0, [], []⟩)
  | _ => .fail)
theorem faddrE_ok (hw : WF n env) {t : TypeId} {x : Operand} {f : Nat} : AskOk (OpOk P E N (.fieldAddr t x f) ty n env G O) (faddrE P n env G O t x f) :=
 AskOk.of fun fd hfd => AskOk.of fun k hk => AskOk.when fun hk0 => AskOk.of fun a ha => by
  obtain ⟨fs, hu, hf⟩ := strctF_ok hfd
  obtain ⟨k, rfl⟩ : ∃ k', k = k' + 1 := ⟨k - 1, by simp only [Nat.blt_eq] at hk0; omega⟩
  have hx := fun η => opA_rp (c := ⟨n, env, η⟩) ha
  split
  ·rename_i o h off
   refine AskOk.when fun hb => OpOk.same hw fun η => ?_
   have h1 := hx η
   rw [ptr_rp (c := ⟨n, env, η⟩) hb] at h1
   have h2 := r_faddr (E := E) (N := N) (Ω := oma ⟨n, env, η⟩ O) (ty := ty) hu hf rfl (sizeT_ok hk) h1
   show Rd _ _ _ _ _ _ _ _ ((At.ptr o h (off + fd.offset)).rp ⟨n, env, η⟩)
   rw [ptr_rp (c := ⟨n, env, η⟩) hb]
   exact h2
  ·rename_i i
   refine AskOk.of fun e he => AskOk.of fun p hp => AskOk.when fun hb => ?_
   obtain ⟨h1, h2⟩ := fldE_ok hp
   have hb := Nat.eq_of_beq_eq_true hb
   refine OpOk.rd' hw (fun e he => by rw [List.mem_singleton.1 he]; exact .none rfl) fun η => ?_
   have h3 := hx η
   simp only [At.rp, he] at h3
   have h4 := r_fea (E := E) (N := N) (Ω := oma ⟨n, env, η⟩ O) (ty := ty) (ρ' := p.2.t.rep) (z := p.2.d) hu hf hb (sizeT_ok hk) h3 h1 (Nat.ble_eq_true_of_le h2)
   simp only [Sh.rp, vrp, cond_false, List.map_cons, List.headD_cons, At.rp, keyed, lkE_cons, if_true]
   exact h4
  ·rename_i o h y
   refine AskOk.of fun q hq => AskOk.of fun p hp => AskOk.when fun hb => ?_
   obtain ⟨e, ix, pl⟩ := q
   obtain ⟨he, ⟨ds, hsrc⟩, l, rfl, hi, hbl, hlt, hj⟩ := ownE_ok hw hq
   obtain ⟨h1, h2⟩ := fldE_ok hp
   have hb := Nat.eq_of_beq_eq_true hb
   have hy : y ≠ n := fun h => by have := hw.lt y e he; omega
   refine OpOk.rd' hw (fun e' he' => ?_) fun η => ?_
   ·rw [List.mem_singleton.1 he']; exact ⟨e, he, h1, h2⟩
   ·have h3 := hx η
    obtain ⟨t', d', s'⟩ := e
    simp only at hsrc
    subst hsrc
    simp only [At.rp, he, hbl, cond_true] at h3
    have h4 := r_foea (E := E) (N := N) (Ω := oma ⟨n, env, η⟩ O) (ty := ty) (ρ := t'.rep) (fo := p.1) hi hu hf hb (sizeT_ok hk) h3 (hj η)
    simp only [Sh.rp, vrp, cond_false, List.map_cons, List.headD_cons, At.rp, keyed, lkE_cons, if_true, if_neg hy, he]
    rw [blt_mono hbl (show n ≤ n + [(⟨p.2.t, p.2.d, some (.fl y p.1)⟩ : Ent)].length from by omega)]
    exact h4
  ·trivial

def resE (P : Program) [PTab P] (n i : Nat) (e : Ent) : OpR := bif e.t.one then resS (.vl false [.vr i]) else ⟨(valD P n ⟨e.t, e.d⟩).1, (valD P n ⟨e.t, e.d⟩).2, 0, [], []⟩
theorem resE_ok (hw : WF n env) {i : Nat} {e : Ent} (he : lkE env i = some e) {J : List Nat} (hJ : ∀ j ∈ J, j ∈ readO G op) (h : ∀ η, Rd P E N op ty (gma ⟨n, env, η⟩ G) (oma ⟨n, env, η⟩ O) J (sh e.t.rep e.d)) : OpOk P E N op ty n env G O (resE P n i e) := by
 unfold resE
 cases ho : e.t.one with
 | true =>
  refine OpOk.rdJ hw (fun e he => by simp at he) hJ fun η => ?_
  show Rd _ _ _ _ _ _ _ _ ((At.vr i).rp ⟨n, env, η⟩)
  simp only [At.rp, he, ho, cond_true]
  exact h η
 | false =>
  refine OpOk.rdJ hw (valD_rp (D := ⟨e.t, e.d⟩) (η := fun _ => ⟨.bool true, [], 0, rfl, fun _ => nilB⟩) (n' := 0) rfl).2 hJ fun η => ?_
  rw [(valD_rp (D := ⟨e.t, e.d⟩) (v := (valD P n ⟨e.t, e.d⟩).1) (add := (valD P n ⟨e.t, e.d⟩).2) rfl).1]; exact h η

theorem cst_no {v : Value} {a : At} {o : Nat} (hc : cst v = some (.vl false [a])) (h : (∃ h off, a = .ptr o h off) ∨ (∃ h y, a = .oea o h y) ∨ (∃ h z, a = .oef o h z)) : False := by
 unfold cst at hc
 split at hc <;> first
  | (cases hc; rcases h with ⟨_, _, e⟩ | ⟨_, _, e⟩ | ⟨_, _, e⟩ <;> cases e; done)
  | (cases hc; done)
  | skip
 rename_i f
 cases hb : Nat.blt f fnB with
 | false => rw [hb] at hc; cases hc
 | true => rw [hb] at hc; cases hc; rcases h with ⟨_, _, e⟩ | ⟨_, _, e⟩ | ⟨_, _, e⟩ <;> cases e
theorem readO_load {G : List (Nat × Sh)} {t : TypeId} {x : Operand} {a : At} {o : Nat} (ha : opA G x = some a) (h : (∃ h off, a = .ptr o h off) ∨ (∃ h y, a = .oea o h y) ∨ (∃ h z, a = .oef o h z)) : ∀ j ∈ [o], j ∈ readO G (.load t x) := by
 intro j hj
 rw [List.mem_singleton.1 hj]
 cases x with
 | tmp s =>
  have h1 : lkG G s = some (.vl false [a]) := by
   unfold opA opd at ha
   split at ha
   ·rename_i b hb; cases ha; exact hb
   ·cases ha
  simp only [readO, h1]
  rcases h with ⟨_, _, rfl⟩ | ⟨_, _, rfl⟩ | ⟨_, _, rfl⟩ <;> simp [addrO]
 | const v =>
  unfold opA at ha
  split at ha
  ·rename_i b hb
   cases ha
   exact (cst_no (show cst v = _ from hb) h).elim
  ·cases ha
 | func f =>
  unfold opA opd at ha
  simp only at ha
  cases hb : Nat.blt f fnB with
  | false => rw [hb] at ha; cases ha
  | true =>
   rw [hb] at ha
   cases ha
   rcases h with ⟨_, _, h⟩ | ⟨_, _, h⟩ | ⟨_, _, h⟩ <;> cases h
 | global g => unfold opA opd at ha; cases ha

def loadE (P : Program) [PTab P] (n : Nat) (env : List (Nat × Ent)) (G : List (Nat × Sh)) (O : List MO) (t : TypeId) (x : Operand) : Ask OpR :=
 Ask.of (opA G x) fun a => match a with
  | .ptr o h off => Ask.of (varC n O o h) fun l => Ask.of (aggT P t) fun g => bif g
    then Ask.of (sizeT P t) fun k => Ask.when (Nat.beq ((l.drop off).take k).length k) (.ret (resS (.vl true ((l.drop off).take k))))
    else Ask.of l[off]? fun a => .ret (resS (.vl false [a]))
  | .ea i => Ask.of (lkE env i) fun e => Ask.of (elT P t) fun c => if c.1 = e.t then .ret (resE P n i e) else .fail
  | .oea o h y => match vecE n env O o h y with
   | some v => Ask.of (aggT P t) fun g => Ask.when (!g) (.ret (resS (.vl false [.vr y])))
   | none => match runE n env O o h y with
   | some v => Ask.of (aggT P t) fun g => Ask.when (!g) (.ret (resS (.vl false [.vr y])))
   | none => Ask.of (ownE n env O o h y) fun q => Ask.of (elT P t) fun c => if c.1 = q.1.t then .ret (resE P n y q.1) else .fail
  | .oef o h z => Ask.of (lkE env z) fun ez => match ez.src with
   | some (.fl y fo) => Ask.of (ownE n env O o h y) fun q => Ask.of (elT P t) fun c => if c.1 = ez.t then .ret (resE P n z ez) else .fail
   | _ => .fail
  | _ => .fail
theorem loadE_ok (hw : WF n env) {t : TypeId} {x : Operand} : AskOk (OpOk P E N (.load t x) ty n env G O) (loadE P n env G O t x) :=
 AskOk.of fun a ha => by
  have hx := fun η => opA_rp (c := ⟨n, env, η⟩) ha
  split
  ·rename_i o h off
   refine AskOk.of fun l hl => AskOk.of fun g hg => ?_
   obtain ⟨hb, hlt, hj⟩ := varC_ok (env := env) hl
   cases g with
   | true =>
    refine AskOk.of fun k hk => AskOk.when fun hkl => OpOk.rdJ hw (fun e he => by simp at he) (readO_load ha (.inl ⟨_, _, rfl⟩)) fun η => ?_
    have h1 := hx η
    rw [ptr_rp (c := ⟨n, env, η⟩) hb] at h1
    have h2 := r_cloadS (E := E) (N := N) (ty := ty) (aggT_ok hg) (sizeT_ok hk) h1 (hj η) rfl (by simpa using hkl)
    simp only [Sh.rp, vrp, cond_true]
    rw [List.map_take, List.map_drop]
    exact h2
   | false =>
    refine AskOk.of fun b hb' => OpOk.rdJ hw (fun e he => by simp at he) (readO_load ha (.inl ⟨_, _, rfl⟩)) fun η => ?_
    have h1 := hx η
    rw [ptr_rp (c := ⟨n, env, η⟩) hb] at h1
    exact r_cload (E := E) (N := N) (ty := ty) (aggT_ok hg) h1 (hj η) (by rw [List.getElem?_map, hb']; rfl)
  ·rename_i i
   refine AskOk.of fun e he => AskOk.of fun c hc => ?_
   split
   ·rename_i h
    obtain ⟨c1, c2⟩ := c
    simp only at h
    subst h
    refine resE_ok hw he (J := []) (fun j hj => by simp at hj) fun η => (r_load (elT_ok hc) ?_)
    have h1 := hx η
    simp only [At.rp, he] at h1
    exact h1
   ·trivial
  ·rename_i o h y
   split
   ·rename_i v hv
    obtain ⟨k, z, ix, d⟩ := v
    obtain ⟨⟨ds, he⟩, hi, hbl, hlt, hj⟩ := vecE_ok hw hv
    refine AskOk.of fun g hg => AskOk.when fun hgg => OpOk.rdJ hw (fun e he => by simp at he) (readO_load ha (.inr (.inl ⟨_, _, rfl⟩))) fun η => ?_
    have hg0 : g = false := by simpa using hgg
    subst hg0
    have h1 := hx η
    simp only [At.rp, he, hbl, cond_true] at h1
    simp only [Sh.rp, vrp, cond_false, List.map_cons, List.headD_cons, At.rp, keyed, he]
    exact r_vload (E := E) (N := N) (ty := ty) hi (aggT_ok hg) h1 (hj η)
   split
   ·rename_i v hv
    obtain ⟨k, z, ix, off, len, d⟩ := v
    obtain ⟨ds, he, hi, hil, hbl, hlt, ⟨s, hs⟩, l, hvar, hrun, hj⟩ := runE_ok hw hv
    refine AskOk.of fun g hg => AskOk.when fun hgg => OpOk.rdJ hw (fun e he => by simp at he) (readO_load ha (.inr (.inl ⟨_, _, rfl⟩))) fun η => ?_
    have hg0 : g = false := by simpa using hgg
    subst hg0
    have h1 := hx η
    simp only [At.rp, he, hbl, cond_true] at h1
    simp only [Sh.rp, vrp, cond_false, List.map_cons, List.headD_cons, At.rp, keyed, he]
    exact r_cload (E := E) (N := N) (ty := ty) (aggT_ok hg) h1 (hj η) (runE_at (o := o) (h := h) (y := y) hi hil hs hrun η)
   refine AskOk.of fun q hq => AskOk.of fun c hc => ?_
   split
   ·rename_i h0
    obtain ⟨e, ix, pl⟩ := q
    obtain ⟨he, ⟨ds, hsrc⟩, l, rfl, hi, hbl, hlt, hj⟩ := ownE_ok hw hq
    obtain ⟨c1, c2⟩ := c
    simp only at h0
    subst h0
    refine resE_ok hw he (readO_load ha (.inr (.inl ⟨_, _, rfl⟩))) fun η => (r_oload hi (elT_ok hc) ?_ (hj η))
    have h1 := hx η
    obtain ⟨t', d', s'⟩ := e
    simp only at hsrc
    subst hsrc
    simp only [At.rp, he, hbl, cond_true] at h1
    exact h1
   ·trivial
  ·rename_i o h z
   refine AskOk.of fun ez hez => ?_
   split
   ·rename_i y fo hsz
    refine AskOk.of fun q hq => AskOk.of fun c hc => ?_
    split
    ·rename_i h0
     obtain ⟨e, ix, pl⟩ := q
     obtain ⟨he, ⟨ds, hsrc⟩, l, rfl, hi, hbl, hlt, hj⟩ := ownE_ok hw hq
     obtain ⟨c1, c2⟩ := c
     simp only at h0
     subst h0
     have h7 := hw.src z _ hez
     unfold SrcOk at h7
     rw [hsz] at h7
     obtain ⟨ey, h8, h9, h10⟩ := h7
     rw [he] at h8
     cases h8
     refine resE_ok hw hez (readO_load ha (.inr (.inr ⟨_, _, rfl⟩))) fun η => (r_foload hi (elT_ok hc) ?_ (hj η) h9 (Nat.ble_eq_true_of_le h10))
     have h1 := hx η
     obtain ⟨t', d', s'⟩ := e
     simp only at hsrc
     subst hsrc
     obtain ⟨tz, dz, sz⟩ := ez
     simp only at hsz
     subst hsz
     simp only [At.rp, hez, he, hbl, cond_true] at h1
     exact h1
    ·trivial
   ·trivial
  ·trivial
end Go.Dc
