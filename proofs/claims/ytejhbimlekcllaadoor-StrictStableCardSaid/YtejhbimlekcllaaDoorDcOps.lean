/- Part Dc.Ops of a proof: lemmas. -/
import Derived.Test.YtejhbimlekcllaaDoorDcRules
import Derived.WalkKit
/-! What single operations do. -/
namespace Go.Dc

variable {P : Program} {E : Env} {N : Nat} {Γ : List (Nat × RP)} {Ω : List OB} {ty : TypeId}

theorem Rd.mk {op : Op} {J : List Nat} {φ : RP} (h : ∀ a w, Sat E N Γ Ω a w → ∃ v, φ.h (fr E Ω) w v ∧ ∀ w' (o : Oper), o.op = op → o.type = ty → (execOp a.eval o).run P w' = .ok (.value v) w') :
    Rd P E N op ty Γ Ω J φ := fun a w hs =>
  let ⟨v, h1, h2⟩ := h a w hs
  ⟨v, [], h1, by simp, fun w' _ o ho ht => h2 w' o ho ht⟩

theorem r_move {x : Operand} {φ : RP} (hx : lkO Γ x = some φ) : Rd P E N (.move x) ty Γ Ω [] φ :=
  .mk fun a _ hs => ⟨a.eval x, hs.op hx, fun w' o ho _ => by simp [execOp, ho]⟩
theorem r_assign {x : Operand} {φ : RP} (hx : lkO Γ x = some φ) : Rd P E N (.assign x) ty Γ Ω [] φ :=
  .mk fun a _ hs => ⟨a.eval x, hs.op hx, fun w' o ho _ => by simp [execOp, ho]⟩

def iadd (k : IntKind) (x y : Int) : Int := k.wrap (x + y)
def isub (k : IntKind) (x y : Int) : Int := k.wrap (x - y)
def imul (k : IntKind) (x y : Int) : Int := k.wrap (x * y)
def iquo (k : IntKind) (x y : Int) : Int := k.wrap (x.tdiv y)
def irem (_k : IntKind) (x y : Int) : Int := x.tmod y
def iand (k : IntKind) (x y : Int) : Int := k.wrap (BitVec.ofInt k.bits x &&& BitVec.ofInt k.bits y).toNat
def ior (k : IntKind) (x y : Int) : Int := k.wrap (BitVec.ofInt k.bits x ||| BitVec.ofInt k.bits y).toNat
def ixor (k : IntKind) (x y : Int) : Int := k.wrap (BitVec.ofInt k.bits x ^^^ BitVec.ofInt k.bits y).toNat
def iandn (k : IntKind) (x y : Int) : Int := k.wrap (BitVec.ofInt k.bits x &&& ~~~BitVec.ofInt k.bits y).toNat
def ishl (k : IntKind) (x y : Int) : Int := k.wrap (x * 2 ^ min y.toNat k.bits)
def ishr (k : IntKind) (x y : Int) : Int := x.fdiv (2 ^ min y.toNat k.bits)
def ineg (k : IntKind) (x : Int) : Int := k.wrap (0 - x)
def icom (k : IntKind) (x : Int) : Int := ixor k (if k.signed then -1 else k.max) x

section ints
variable {t yt : TypeId} {x y : Operand} {k : IntKind} {m n : Int}
theorem bin_of {op : BinOp} {φ : RP} {v : Value} (hx : lkO Γ x = some (iv k m)) (hy : lkO Γ y = some (iv k n))
    (hv : ∀ F w, φ.h F w v) (hb : ∀ w, (binOp op t (.int k m) (.int k n)).run P w = .ok v w) : Rd P E N (.binOp op t x y yt) ty Γ Ω [] φ :=
  .mk fun a w hs => ⟨v, hv _ _, fun w' o ho _ => by
    have h1 := (show _ = _ from hs.op hx)
    have h2 := (show _ = _ from hs.op hy)
    have hg : (eqGuard op t x y (.int k m) (.int k n)).run P w' = .ok () w' := by
      unfold eqGuard; split <;> rfl
    simp [execOp, ho, h1, h2, hg, hb w']⟩

variable (hx : lkO Γ x = some (iv k m)) (hy : lkO Γ y = some (iv k n))
include hx hy
theorem r_add : Rd P E N (.binOp .add t x y yt) ty Γ Ω [] (iv k (iadd k m n)) := bin_of hx hy (fun _ _ => rfl) fun w => by simp [binOp, Op.intArith, iadd]
theorem r_sub : Rd P E N (.binOp .sub t x y yt) ty Γ Ω [] (iv k (isub k m n)) := bin_of hx hy (fun _ _ => rfl) fun w => by simp [binOp, Op.intArith, isub]
theorem r_mul : Rd P E N (.binOp .mul t x y yt) ty Γ Ω [] (iv k (imul k m n)) := bin_of hx hy (fun _ _ => rfl) fun w => by simp [binOp, Op.intArith, imul]
theorem r_quo (h0 : n ≠ 0) : Rd P E N (.binOp .quo t x y yt) ty Γ Ω [] (iv k (iquo k m n)) := bin_of hx hy (fun _ _ => rfl) fun w => by simp [binOp, Op.intDiv, iquo, h0]
theorem r_rem (h0 : n ≠ 0) : Rd P E N (.binOp .rem t x y yt) ty Γ Ω [] (iv k (irem k m n)) := bin_of hx hy (fun _ _ => rfl) fun w => by simp [binOp, Op.intDiv, irem, h0]
theorem r_and : Rd P E N (.binOp .and t x y yt) ty Γ Ω [] (iv k (iand k m n)) := bin_of hx hy (fun _ _ => rfl) fun w => by simp [binOp, Op.intBits, iand]
theorem r_xor : Rd P E N (.binOp .xor t x y yt) ty Γ Ω [] (iv k (ixor k m n)) := bin_of hx hy (fun _ _ => rfl) fun w => by simp [binOp, Op.intBits, ixor]
theorem r_eql : Rd P E N (.binOp .eql t x y yt) ty Γ Ω [] (bv (m == n)) := bin_of hx hy (fun _ _ => rfl) fun w => by simp [binOp, Op.intCmp]
theorem r_neq : Rd P E N (.binOp .neq t x y yt) ty Γ Ω [] (bv (m != n)) := bin_of hx hy (fun _ _ => rfl) fun w => by simp [binOp, Op.intCmp]
theorem r_lss : Rd P E N (.binOp .lss t x y yt) ty Γ Ω [] (bv (decide (m < n))) := bin_of hx hy (fun _ _ => rfl) fun w => by simp [binOp, Op.intCmp]
theorem r_leq : Rd P E N (.binOp .leq t x y yt) ty Γ Ω [] (bv (decide (m ≤ n))) := bin_of hx hy (fun _ _ => rfl) fun w => by simp [binOp, Op.intCmp]
theorem r_gtr : Rd P E N (.binOp .gtr t x y yt) ty Γ Ω [] (bv (decide (m > n))) := bin_of hx hy (fun _ _ => rfl) fun w => by simp [binOp, Op.intCmp]
theorem r_geq : Rd P E N (.binOp .geq t x y yt) ty Γ Ω [] (bv (decide (m ≥ n))) := bin_of hx hy (fun _ _ => rfl) fun w => by simp [binOp, Op.intCmp]
end ints

section more
variable {t yt : TypeId} {x y c : Operand} {k k' : IntKind} {m n : Int} {b b' : Bool}
theorem r_shl (hx : lkO Γ x = some (iv k m)) (hy : lkO Γ y = some (iv k' n)) (h0 : 0 ≤ n) :
    Rd P E N (.binOp .shl t x y yt) ty Γ Ω [] (iv k (ishl k m n)) := .mk fun a w hs => ⟨_, rfl, fun w' o ho _ => by
    have h1 := (show _ = _ from hs.op hx)
    have h2 := (show _ = _ from hs.op hy)
    have hg : (eqGuard .shl t x y (.int k m) (.int k' n)).run P w' = .ok () w' := by unfold eqGuard; rfl
    have : ¬ n < 0 := by omega
    simp [execOp, ho, h1, h2, hg, binOp, Op.shift, this, ishl]⟩
theorem r_shr (hx : lkO Γ x = some (iv k m)) (hy : lkO Γ y = some (iv k' n)) (h0 : 0 ≤ n) :
    Rd P E N (.binOp .shr t x y yt) ty Γ Ω [] (iv k (ishr k m n)) := .mk fun a w hs => ⟨_, rfl, fun w' o ho _ => by
    have h1 := (show _ = _ from hs.op hx)
    have h2 := (show _ = _ from hs.op hy)
    have hg : (eqGuard .shr t x y (.int k m) (.int k' n)).run P w' = .ok () w' := by unfold eqGuard; rfl
    have : ¬ n < 0 := by omega
    simp [execOp, ho, h1, h2, hg, binOp, Op.shift, this, ishr]⟩
theorem r_not (hx : lkO Γ x = some (bv b)) : Rd P E N (.unOp .not t x) ty Γ Ω [] (bv (!b)) := .mk fun a w hs => ⟨_, rfl, fun w' o ho _ => by
    have h1 := (show _ = _ from hs.op hx)
    simp [execOp, ho, h1, Op.unary]⟩
theorem r_neg (hx : lkO Γ x = some (iv k m)) : Rd P E N (.unOp .neg t x) ty Γ Ω [] (iv k (ineg k m)) := .mk fun a w hs => ⟨_, rfl, fun w' o ho _ => by
    have h1 := (show _ = _ from hs.op hx)
    simp [execOp, ho, h1, Op.unary, Op.intArith, ineg]⟩
theorem r_conv (hk : P.underlying yt = some (.int k')) (ht : (P.underlying t).isSome = true) (hx : lkO Γ x = some (iv k m)) :
    Rd P E N (.convert t yt x) ty Γ Ω [] (iv k' (k'.wrap m)) := .mk fun a w hs => ⟨_, rfl, fun w' o ho _ => by
    have h1 := (show _ = _ from hs.op hx)
    obtain ⟨d, hd⟩ := Option.isSome_iff_exists.1 ht
    simp [execOp, ho, h1, convert, underlying, hk, hd, Conv.intToInt, program, Sem.run]⟩
theorem r_pickT {φ : RP} (hc : lkO Γ c = some (bv true)) (hx : lkO Γ x = some φ) : Rd P E N (.pick c x y) ty Γ Ω [] φ := .mk fun a w hs => ⟨a.eval x, hs.op hx, fun w' o ho _ => by
    have h1 := (show _ = _ from hs.op hc)
    simp [execOp, ho, h1, asBool]⟩
theorem r_pickF {φ : RP} (hc : lkO Γ c = some (bv false)) (hy : lkO Γ y = some φ) : Rd P E N (.pick c x y) ty Γ Ω [] φ := .mk fun a w hs => ⟨a.eval y, hs.op hy, fun w' o ho _ => by
    have h1 := (show _ = _ from hs.op hc)
    simp [execOp, ho, h1, asBool]⟩
theorem run_beq (hu : P.underlying t = some .bool) (w : World) : (Op.equal t (.bool b) (.bool b')).run P w = .ok (b == b') w := by
  unfold Op.equal
  rw [show Op.maxDepth = 9999 + 1 from rfl, Op.equalIn, Sem.run_bind, run_underlying hu]
  rfl
theorem r_beql (hu : P.underlying t = some .bool) (hx : lkO Γ x = some (bv b)) (hy : lkO Γ y = some (bv b')) : Rd P E N (.binOp .eql t x y yt) ty Γ Ω [] (bv (b == b')) :=
  .mk fun a w hs => ⟨_, rfl, fun w' o ho _ => by
    have h1 := (show _ = _ from hs.op hx)
    have h2 := (show _ = _ from hs.op hy)
    have hg : (eqGuard .eql t x y (.bool b) (.bool b')).run P w' = .ok () w' := by unfold eqGuard; rfl
    have hb : binOp .eql t (.bool b) (.bool b') = (do pure (.bool (← Op.equal t (.bool b) (.bool b')))) := rfl
    simp [execOp, ho, h1, h2, hg, hb, run_beq hu]⟩
theorem r_bneq (hu : P.underlying t = some .bool) (hx : lkO Γ x = some (bv b)) (hy : lkO Γ y = some (bv b')) : Rd P E N (.binOp .neq t x y yt) ty Γ Ω [] (bv (!(b == b'))) :=
  .mk fun a w hs => ⟨_, rfl, fun w' o ho _ => by
    have h1 := (show _ = _ from hs.op hx)
    have h2 := (show _ = _ from hs.op hy)
    have hg : (eqGuard .neq t x y (.bool b) (.bool b')).run P w' = .ok () w' := by unfold eqGuard; rfl
    have hb : binOp .neq t (.bool b) (.bool b') = (do pure (.bool (!(← Op.equal t (.bool b) (.bool b'))))) := rfl
    simp [execOp, ho, h1, h2, hg, hb, run_beq hu]⟩
/-- strings -/
theorem str_of {op : BinOp} {s u : ByteArray} {φ : RP} {v : Value} (hx : lkO Γ x = some (sv s)) (hy : lkO Γ y = some (sv u)) (hv : ∀ F w, φ.h F w v)
    (hb : ∀ w, (binOp op t (.string s) (.string u)).run P w = .ok v w) : Rd P E N (.binOp op t x y yt) ty Γ Ω [] φ := .mk fun a w hs => ⟨v, hv _ _, fun w' o ho _ => by
    have h1 := (show _ = _ from hs.op hx)
    have h2 := (show _ = _ from hs.op hy)
    have hg : (eqGuard op t x y (.string s) (.string u)).run P w' = .ok () w' := by unfold eqGuard; split <;> rfl
    simp [execOp, ho, h1, h2, hg, hb w']⟩
theorem r_seql {s u : ByteArray} (hx : lkO Γ x = some (sv s)) (hy : lkO Γ y = some (sv u)) : Rd P E N (.binOp .eql t x y yt) ty Γ Ω [] (bv (s.toList == u.toList)) :=
  str_of hx hy (fun _ _ => rfl) fun w => by simp [binOp, Op.stringOp]
theorem r_sneq {s u : ByteArray} (hx : lkO Γ x = some (sv s)) (hy : lkO Γ y = some (sv u)) : Rd P E N (.binOp .neq t x y yt) ty Γ Ω [] (bv (!(s.toList == u.toList))) :=
  str_of hx hy (fun _ _ => rfl) fun w => by simp [binOp, Op.stringOp]
theorem r_slss {s u : ByteArray} (hx : lkO Γ x = some (sv s)) (hy : lkO Γ y = some (sv u)) : Rd P E N (.binOp .lss t x y yt) ty Γ Ω [] (bv (Op.bytesLess s.toList u.toList)) :=
  str_of hx hy (fun _ _ => rfl) fun w => by simp [binOp, Op.stringOp]
end more

section tuples
variable {x : Operand} {i : Nat} {φs : List RP} {φ : RP}
theorem r_extract (hx : lkO Γ x = some (tup φs)) (hi : φs[i]? = some φ) : Rd P E N (.extract x i) ty Γ Ω [] φ := .mk fun a w hs => by
  obtain ⟨cs, he, hall⟩ := hs.op hx
  obtain ⟨v, hv, hφ⟩ := hall.get hi
  refine ⟨v, hφ, fun w' o ho _ => ?_⟩
  have hv' : cs[i]? = some v := by simpa using hv
  simp [execOp, ho, he, Instr.extract, hv']
end tuples

end Go.Dc
