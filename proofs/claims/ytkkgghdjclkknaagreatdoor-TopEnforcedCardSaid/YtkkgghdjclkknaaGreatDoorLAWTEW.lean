/- Part LAWTE.W of a proof: lemmas. -/
import Derived.Test.YtkkgghdjclkknaaGreatDoorMBridgeM
import Derived.Test.YtkkgghdjclkknaaGreatDoorProg
import Derived.Test.YtkkgghdjclkknaaGreatDoorDcCpt
import Derived.Test.YtkkgghdjclkknaaGreatDoorMData
import Derived.Test.YtkkgghdjclkknaaGreatDoorLAWTEKey
set_option linter.unusedVariables false
set_option linter.unusedSectionVars false
set_option linter.unusedSimpArgs false
set_option maxRecDepth 100000
set_option maxHeartbeats 4000000
namespace Go.Dc
noncomputable section
open Go.Proofs
open Go.Proofs.Tryz (prog)
open Go.RowKit Go.Sort Go.Shelf
instance chMode : aq := ⟨False, [(0, EL), (1, (Lib.pow10Tab.map fun z => Value.int .u64 z).toArray)]⟩
structure ay where
 L : (List Int)
 At : Int
 deriving DecidableEq, Inhabited
def Aw : iC ay := Zt [⟨(wC (rI .i64)), ay.L⟩, ⟨(rI .i64), ay.At⟩]
structure ah where
 bw : Int
 To : Int
 deriving DecidableEq, Inhabited
def ak : iC ah := Zt [⟨(rI .i64), ah.bw⟩, ⟨(rI .i64), ah.To⟩]
structure af where
 N : Int
 L : (List ah)
 deriving DecidableEq, Inhabited
def PS : iC af := Zt [⟨(rI .i64), af.N⟩, ⟨(wC ak), af.L⟩]
structure av where
 All : Int
 By : (List Int)
 Out : (List Int)
 deriving DecidableEq, Inhabited
def Mf : iC av := Zt [⟨(rI .u64), av.All⟩, ⟨(wC (rI .u64)), av.By⟩, ⟨(wC (rI .u64)), av.Out⟩]
structure aJ where
 Set : (List Int)
 jt : (List ah)
 aS : (List (List ah))
 deriving DecidableEq, Inhabited
def Gs : iC aJ := Zt [⟨(wC (rI .i64)), aJ.Set⟩, ⟨(wC ak), aJ.jt⟩, ⟨(wC (wC ak)), aJ.aS⟩]
structure aB where
 Left : Int
 Right : Int
 I7 : Int
 deriving DecidableEq, Inhabited
def DJ : iC aB := Zt [⟨(rI .i64), aB.Left⟩, ⟨(rI .i64), aB.Right⟩, ⟨(rI .i64), aB.I7⟩]
structure bW where
 Sat : Bool
 Model : (List Bool)
 Steps : (List aB)
 deriving DecidableEq, Inhabited
def NQ : iC bW := Zt [⟨rB, bW.Sat⟩, ⟨(wC rB), bW.Model⟩, ⟨(wC DJ), bW.Steps⟩]
structure aZ where
 Holds : Bool
 QN : (List Int)
 Ww : (List Int)
 Steps : (List aB)
 deriving DecidableEq, Inhabited
def Mg : iC aZ := Zt [⟨rB, aZ.Holds⟩, ⟨(wC (rI .i64)), aZ.QN⟩, ⟨(wC (rI .i64)), aZ.Ww⟩, ⟨(wC DJ), aZ.Steps⟩]
def N1 : Nat → Type
 | 0 => ay
 | 1 => ah
 | 2 => af
 | 3 => av
 | 4 => aJ
 | 5 => aB
 | 6 => bW
 | 7 => aZ
 | _ + 8 => Unit
instance tabS : xw := ⟨N1⟩
def W6 : (n : Nat) → iC (N1 n)
 | 0 => Aw
 | 1 => ak
 | 2 => PS
 | 3 => Mf
 | 4 => Gs
 | 5 => DJ
 | 6 => NQ
 | 7 => Mg
 | _ + 8 => Zt []
theorem agg_ : ∀ n, (W6 n).agg = true
 | 0 => rfl
 | 1 => rfl
 | 2 => rfl
 | 3 => rfl
 | 4 => rfl
 | 5 => rfl
 | 6 => rfl
 | 7 => rfl
 | _ + 8 => rfl
instance tabR : qc := { tabS with rep := W6, agg := agg_ }
def PD (x : ay) : List cm := [⟨(.sl (.int .i64)), x.L⟩, ⟨(.int .i64), x.At⟩]
def Ud (l : List cm) : Option ay := match l with
 | [D0, D1] => (D0.as (.sl (.int .i64))).bind fun a0 => (D1.as (.int .i64)).bind fun a1 => some (ay.mk a0 a1)
 | _ => none
theorem Xx {l : List cm} {x : ay} (h : Ud l = some x) : PD x = l := by
 unfold Ud at h
 split at h
 ·obtain ⟨a0, h0, h⟩ := Option.bind_eq_some_iff.1 h
  obtain ⟨a1, h1, h⟩ := Option.bind_eq_some_iff.1 h
  cases h
  rw [cm.pP h0, cm.pP h1]
  rfl
 ·cases h
def PC (x : ah) : List cm := [⟨(.int .i64), x.bw⟩, ⟨(.int .i64), x.To⟩]
def Uc (l : List cm) : Option ah := match l with
 | [D0, D1] => (D0.as (.int .i64)).bind fun a0 => (D1.as (.int .i64)).bind fun a1 => some (ah.mk a0 a1)
 | _ => none
theorem Xw {l : List cm} {x : ah} (h : Uc l = some x) : PC x = l := by
 unfold Uc at h
 split at h
 ·obtain ⟨a0, h0, h⟩ := Option.bind_eq_some_iff.1 h
  obtain ⟨a1, h1, h⟩ := Option.bind_eq_some_iff.1 h
  cases h
  rw [cm.pP h0, cm.pP h1]
  rfl
 ·cases h
def PB (x : af) : List cm := [⟨(.int .i64), x.N⟩, ⟨(.sl (.st 1)), x.L⟩]
def Ub (l : List cm) : Option af := match l with
 | [D0, D1] => (D0.as (.int .i64)).bind fun a0 => (D1.as (.sl (.st 1))).bind fun a1 => some (af.mk a0 a1)
 | _ => none
theorem Xv {l : List cm} {x : af} (h : Ub l = some x) : PB x = l := by
 unfold Ub at h
 split at h
 ·obtain ⟨a0, h0, h⟩ := Option.bind_eq_some_iff.1 h
  obtain ⟨a1, h1, h⟩ := Option.bind_eq_some_iff.1 h
  cases h
  rw [cm.pP h0, cm.pP h1]
  rfl
 ·cases h
def PA (x : av) : List cm := [⟨(.int .u64), x.All⟩, ⟨(.sl (.int .u64)), x.By⟩, ⟨(.sl (.int .u64)), x.Out⟩]
def Ua (l : List cm) : Option av := match l with
 | [D0, D1, D2] => (D0.as (.int .u64)).bind fun a0 => (D1.as (.sl (.int .u64))).bind fun a1 => (D2.as (.sl (.int .u64))).bind fun a2 => some (av.mk a0 a1 a2)
 | _ => none
theorem Xu {l : List cm} {x : av} (h : Ua l = some x) : PA x = l := by
 unfold Ua at h
 split at h
 ·obtain ⟨a0, h0, h⟩ := Option.bind_eq_some_iff.1 h
  obtain ⟨a1, h1, h⟩ := Option.bind_eq_some_iff.1 h
  obtain ⟨a2, h2, h⟩ := Option.bind_eq_some_iff.1 h
  cases h
  rw [cm.pP h0, cm.pP h1, cm.pP h2]
  rfl
 ·cases h
def Pz (x : aJ) : List cm := [⟨(.sl (.int .i64)), x.Set⟩, ⟨(.sl (.st 1)), x.jt⟩, ⟨(.sl (.sl (.st 1))), x.aS⟩]
def T' (l : List cm) : Option aJ := match l with
 | [D0, D1, D2] => (D0.as (.sl (.int .i64))).bind fun a0 => (D1.as (.sl (.st 1))).bind fun a1 => (D2.as (.sl (.sl (.st 1)))).bind fun a2 => some (aJ.mk a0 a1 a2)
 | _ => none
theorem Xt {l : List cm} {x : aJ} (h : T' l = some x) : Pz x = l := by
 unfold T' at h
 split at h
 ·obtain ⟨a0, h0, h⟩ := Option.bind_eq_some_iff.1 h
  obtain ⟨a1, h1, h⟩ := Option.bind_eq_some_iff.1 h
  obtain ⟨a2, h2, h⟩ := Option.bind_eq_some_iff.1 h
  cases h
  rw [cm.pP h0, cm.pP h1, cm.pP h2]
  rfl
 ·cases h
def Py (x : aB) : List cm := [⟨(.int .i64), x.Left⟩, ⟨(.int .i64), x.Right⟩, ⟨(.int .i64), x.I7⟩]
def T_ (l : List cm) : Option aB := match l with
 | [D0, D1, D2] => (D0.as (.int .i64)).bind fun a0 => (D1.as (.int .i64)).bind fun a1 => (D2.as (.int .i64)).bind fun a2 => some (aB.mk a0 a1 a2)
 | _ => none
theorem Xs {l : List cm} {x : aB} (h : T_ l = some x) : Py x = l := by
 unfold T_ at h
 split at h
 ·obtain ⟨a0, h0, h⟩ := Option.bind_eq_some_iff.1 h
  obtain ⟨a1, h1, h⟩ := Option.bind_eq_some_iff.1 h
  obtain ⟨a2, h2, h⟩ := Option.bind_eq_some_iff.1 h
  cases h
  rw [cm.pP h0, cm.pP h1, cm.pP h2]
  rfl
 ·cases h
def Px (x : bW) : List cm := [⟨.bool, x.Sat⟩, ⟨(.sl .bool), x.Model⟩, ⟨(.sl (.st 5)), x.Steps⟩]
def T9 (l : List cm) : Option bW := match l with
 | [D0, D1, D2] => (D0.as .bool).bind fun a0 => (D1.as (.sl .bool)).bind fun a1 => (D2.as (.sl (.st 5))).bind fun a2 => some (bW.mk a0 a1 a2)
 | _ => none
theorem Xr {l : List cm} {x : bW} (h : T9 l = some x) : Px x = l := by
 unfold T9 at h
 split at h
 ·obtain ⟨a0, h0, h⟩ := Option.bind_eq_some_iff.1 h
  obtain ⟨a1, h1, h⟩ := Option.bind_eq_some_iff.1 h
  obtain ⟨a2, h2, h⟩ := Option.bind_eq_some_iff.1 h
  cases h
  rw [cm.pP h0, cm.pP h1, cm.pP h2]
  rfl
 ·cases h
def Pw (x : aZ) : List cm := [⟨.bool, x.Holds⟩, ⟨(.sl (.int .i64)), x.QN⟩, ⟨(.sl (.int .i64)), x.Ww⟩, ⟨(.sl (.st 5)), x.Steps⟩]
def T8 (l : List cm) : Option aZ := match l with
 | [D0, D1, D2, D3] => (D0.as .bool).bind fun a0 => (D1.as (.sl (.int .i64))).bind fun a1 => (D2.as (.sl (.int .i64))).bind fun a2 => (D3.as (.sl (.st 5))).bind fun a3 => some (aZ.mk a0 a1 a2 a3)
 | _ => none
theorem Xq {l : List cm} {x : aZ} (h : T8 l = some x) : Pw x = l := by
 unfold T8 at h
 split at h
 ·obtain ⟨a0, h0, h⟩ := Option.bind_eq_some_iff.1 h
  obtain ⟨a1, h1, h⟩ := Option.bind_eq_some_iff.1 h
  obtain ⟨a2, h2, h⟩ := Option.bind_eq_some_iff.1 h
  obtain ⟨a3, h3, h⟩ := Option.bind_eq_some_iff.1 h
  cases h
  rw [cm.pP h0, cm.pP h1, cm.pP h2, cm.pP h3]
  rfl
 ·cases h
def PE : (n : Nat) → N1 n → List cm
 | 0, x => PD x
 | 1, x => PC x
 | 2, x => PB x
 | 3, x => PA x
 | 4, x => Pz x
 | 5, x => Py x
 | 6, x => Px x
 | 7, x => Pw x
 | _ + 8, _ => []
def joinT : (n : Nat) → List cm → Option (N1 n)
 | 0, l => Ud l
 | 1, l => Uc l
 | 2, l => Ub l
 | 3, l => Ua l
 | 4, l => T' l
 | 5, l => T_ l
 | 6, l => T9 l
 | 7, l => T8 l
 | _ + 8, _ => none
def ftsT : Nat → List Ty
 | 0 => [(.sl (.int .i64)), (.int .i64)]
 | 1 => [(.int .i64), (.int .i64)]
 | 2 => [(.int .i64), (.sl (.st 1))]
 | 3 => [(.int .u64), (.sl (.int .u64)), (.sl (.int .u64))]
 | 4 => [(.sl (.int .i64)), (.sl (.st 1)), (.sl (.sl (.st 1)))]
 | 5 => [(.int .i64), (.int .i64), (.int .i64)]
 | 6 => [.bool, (.sl .bool), (.sl (.st 5))]
 | 7 => [.bool, (.sl (.int .i64)), (.sl (.int .i64)), (.sl (.st 5))]
 | _ + 8 => []
def fldT : (n f : Nat) → N1 n → Option (Nat × cm)
 | 0, 0, x => some (0, ⟨(.sl (.int .i64)), x.L⟩)
 | 0, 1, x => some (1, ⟨(.int .i64), x.At⟩)
 | 0, _ + 2, _ => none
 | 1, 0, x => some (0, ⟨(.int .i64), x.bw⟩)
 | 1, 1, x => some (1, ⟨(.int .i64), x.To⟩)
 | 1, _ + 2, _ => none
 | 2, 0, x => some (0, ⟨(.int .i64), x.N⟩)
 | 2, 1, x => some (1, ⟨(.sl (.st 1)), x.L⟩)
 | 2, _ + 2, _ => none
 | 3, 0, x => some (0, ⟨(.int .u64), x.All⟩)
 | 3, 1, x => some (1, ⟨(.sl (.int .u64)), x.By⟩)
 | 3, 2, x => some (2, ⟨(.sl (.int .u64)), x.Out⟩)
 | 3, _ + 3, _ => none
 | 4, 0, x => some (0, ⟨(.sl (.int .i64)), x.Set⟩)
 | 4, 1, x => some (1, ⟨(.sl (.st 1)), x.jt⟩)
 | 4, 2, x => some (2, ⟨(.sl (.sl (.st 1))), x.aS⟩)
 | 4, _ + 3, _ => none
 | 5, 0, x => some (0, ⟨(.int .i64), x.Left⟩)
 | 5, 1, x => some (1, ⟨(.int .i64), x.Right⟩)
 | 5, 2, x => some (2, ⟨(.int .i64), x.I7⟩)
 | 5, _ + 3, _ => none
 | 6, 0, x => some (0, ⟨.bool, x.Sat⟩)
 | 6, 1, x => some (1, ⟨(.sl .bool), x.Model⟩)
 | 6, 2, x => some (2, ⟨(.sl (.st 5)), x.Steps⟩)
 | 6, _ + 3, _ => none
 | 7, 0, x => some (0, ⟨.bool, x.Holds⟩)
 | 7, 1, x => some (1, ⟨(.sl (.int .i64)), x.QN⟩)
 | 7, 2, x => some (2, ⟨(.sl (.int .i64)), x.Ww⟩)
 | 7, 3, x => some (3, ⟨(.sl (.st 5)), x.Steps⟩)
 | 7, _ + 4, _ => none
 | _ + 8, _, _ => none
theorem fldT_ok : ∀ (n f : Nat) (x : N1 n) (off : Nat) (D : cm), fldT n f x = some (off, D) → (((W6 n).cp x).drop off).take D.t.rep.size = D.t.rep.cp D.d ∧ off + D.t.rep.size ≤ (W6 n).size
 | 0, 0, x, _, _, h => by cases h; exact ⟨rfl, Nat.le_of_ble_eq_true rfl⟩
 | 0, 1, x, _, _, h => by cases h; exact ⟨rfl, Nat.le_of_ble_eq_true rfl⟩
 | 0, _ + 2, x, _, _, h => by cases h
 | 1, 0, x, _, _, h => by cases h; exact ⟨rfl, Nat.le_of_ble_eq_true rfl⟩
 | 1, 1, x, _, _, h => by cases h; exact ⟨rfl, Nat.le_of_ble_eq_true rfl⟩
 | 1, _ + 2, x, _, _, h => by cases h
 | 2, 0, x, _, _, h => by cases h; exact ⟨rfl, Nat.le_of_ble_eq_true rfl⟩
 | 2, 1, x, _, _, h => by cases h; exact ⟨rfl, Nat.le_of_ble_eq_true rfl⟩
 | 2, _ + 2, x, _, _, h => by cases h
 | 3, 0, x, _, _, h => by cases h; exact ⟨rfl, Nat.le_of_ble_eq_true rfl⟩
 | 3, 1, x, _, _, h => by cases h; exact ⟨rfl, Nat.le_of_ble_eq_true rfl⟩
 | 3, 2, x, _, _, h => by cases h; exact ⟨rfl, Nat.le_of_ble_eq_true rfl⟩
 | 3, _ + 3, x, _, _, h => by cases h
 | 4, 0, x, _, _, h => by cases h; exact ⟨rfl, Nat.le_of_ble_eq_true rfl⟩
 | 4, 1, x, _, _, h => by cases h; exact ⟨rfl, Nat.le_of_ble_eq_true rfl⟩
 | 4, 2, x, _, _, h => by cases h; exact ⟨rfl, Nat.le_of_ble_eq_true rfl⟩
 | 4, _ + 3, x, _, _, h => by cases h
 | 5, 0, x, _, _, h => by cases h; exact ⟨rfl, Nat.le_of_ble_eq_true rfl⟩
 | 5, 1, x, _, _, h => by cases h; exact ⟨rfl, Nat.le_of_ble_eq_true rfl⟩
 | 5, 2, x, _, _, h => by cases h; exact ⟨rfl, Nat.le_of_ble_eq_true rfl⟩
 | 5, _ + 3, x, _, _, h => by cases h
 | 6, 0, x, _, _, h => by cases h; exact ⟨rfl, Nat.le_of_ble_eq_true rfl⟩
 | 6, 1, x, _, _, h => by cases h; exact ⟨rfl, Nat.le_of_ble_eq_true rfl⟩
 | 6, 2, x, _, _, h => by cases h; exact ⟨rfl, Nat.le_of_ble_eq_true rfl⟩
 | 6, _ + 3, x, _, _, h => by cases h
 | 7, 0, x, _, _, h => by cases h; exact ⟨rfl, Nat.le_of_ble_eq_true rfl⟩
 | 7, 1, x, _, _, h => by cases h; exact ⟨rfl, Nat.le_of_ble_eq_true rfl⟩
 | 7, 2, x, _, _, h => by cases h; exact ⟨rfl, Nat.le_of_ble_eq_true rfl⟩
 | 7, 3, x, _, _, h => by cases h; exact ⟨rfl, Nat.le_of_ble_eq_true rfl⟩
 | 7, _ + 4, x, _, _, h => by cases h
 | _ + 8, _, x, _, _, h => by cases h
def deqT : (n : Nat) → DecidableEq (N1 n)
 | 0 => inferInstanceAs (DecidableEq ay)
 | 1 => inferInstanceAs (DecidableEq ah)
 | 2 => inferInstanceAs (DecidableEq af)
 | 3 => inferInstanceAs (DecidableEq av)
 | 4 => inferInstanceAs (DecidableEq aJ)
 | 5 => inferInstanceAs (DecidableEq aB)
 | 6 => inferInstanceAs (DecidableEq bW)
 | 7 => inferInstanceAs (DecidableEq aZ)
 | _ + 8 => inferInstanceAs (DecidableEq Unit)
theorem WJ : ∀ (n : Nat) (x : N1 n), (W6 n).cp x = (PE n x).map cm.rp
 | 0, x => rfl
 | 1, x => rfl
 | 2, x => rfl
 | 3, x => rfl
 | 4, x => rfl
 | 5, x => rfl
 | 6, x => rfl
 | 7, x => rfl
 | _ + 8, x => rfl
theorem Tr : ∀ (n : Nat) (x : N1 n), ∀ D ∈ PE n x, D.t.one = true
 | 0, x, D, h => EF (l := PD x) rfl h
 | 1, x, D, h => EF (l := PC x) rfl h
 | 2, x, D, h => EF (l := PB x) rfl h
 | 3, x, D, h => EF (l := PA x) rfl h
 | 4, x, D, h => EF (l := Pz x) rfl h
 | 5, x, D, h => EF (l := Py x) rfl h
 | 6, x, D, h => EF (l := Px x) rfl h
 | 7, x, D, h => EF (l := Pw x) rfl h
 | _ + 8, x, D, h => by cases h
theorem aap : ∀ (n : Nat) (l : List cm) (x : N1 n), joinT n l = some x → PE n x = l
 | 0, l, x, h => Xx h
 | 1, l, x, h => Xw h
 | 2, l, x, h => Xv h
 | 3, l, x, h => Xu h
 | 4, l, x, h => Xt h
 | 5, l, x, h => Xs h
 | 6, l, x, h => Xr h
 | 7, l, x, h => Xq h
 | _ + 8, l, x, h => by cases h
def eqsT : Nat → Nat → Bool
 | _, _ => false
theorem eqs_okT [aq] : ∀ t n, eqsT t n = true → letI := deqT n; EqT prog t (W6 n) := fun t n h => by
 unfold eqsT at h
 split at h
 ·cases h
instance tabP : bl prog := { tabR with
 code := lkC [(26, 2), (27, 2), (31, 4), (32, 4), (40, 7), (41, 7), (51, 0), (52, 0), (54, 1), (55, 1), (69, 6), (70, 6), (94, 3), (95, 3), (191, 5), (192, 5)], split := PE, HG := WJ, Oi := Tr, join := joinT, MS := aap, fts := ftsT, fld := fldT, fld_ok := fldT_ok, deq := deqT, eqs := eqsT, eqs_ok := eqs_okT }
def B9 (lF : (List Int)) : Option ((List Int) × Int) :=
(QV lF 0 (GQ ((lF.length : Int)) 2000)).bind fun t1 =>
 some ((t1, 0))
def MM : bI := ⟨[(.sl (.int .i64))], [(.sl (.int .i64)), (.int .i64)], fun (a : (List Int)) => B9 a, [(false, [.d 0 0])], [], [(false, [.ptr 0])], [.oc 0 [.d 0 0, .d 1 0]], 0, 1⟩
def T5 : Hints := ⟨[], [], [], [], []⟩
theorem RX [aq] : aG prog 4 MM := au (H := T5) (fin := []) Tryz.func4 Tryz.call4 (aD (l := []) trivial) rfl rfl rfl (fun a => by kernel_rfl)
def sZ (bO : ay) : Option (Int × ay) :=
 bif decide (bO.At ≥ ((bO.L.length : Int))) then
 some ((0, bO))
 else
(aL bO.L (qq .i64 (aN .i64 bO.At 1) 1)).bind fun t1 =>
 some ((t1, (ay.mk bO.L (aN .i64 bO.At 1))))
def Ea : bI := ⟨[(.st 0)], [(.int .i64), (.st 0)], fun (a : ay) => sZ a, [(false, [.ptr 0])], [.oc 0 [.d 0 0, .d 0 1]], [(false, [.d 0 0])], [.oc 0 [.d 1 0, .d 1 1]], 1, 1⟩
def ML : Hints := ⟨[], [], [], [], []⟩
theorem K4 [aq] : aG prog 38 Ea := au (H := ML) (fin := []) Tryz.func38 Tryz.call38 (aD (l := []) trivial) rfl rfl rfl (fun a => by kernel_rfl)
def B_ (Bw : Int) (n_1 : Int) : Option (Int) :=
 bif decide (n_1 < 1) then
 some 0
 else
(OV .i64 Bw n_1).bind fun x1 =>
 bif decide (x1 < 0) then
 some (aN .i64 x1 n_1)
 else
 some x1
def MN : bI := ⟨[(.int .i64), (.int .i64)], [(.int .i64)], fun (a : Int × Int) => B_ a.1 a.2, [(false, [.d 0 0]), (false, [.d 1 0])], [], [(false, [.d 0 0])], [], 0, 0⟩
def T6 : Hints := ⟨[], [], [], [], []⟩
theorem RY [aq] : aG prog 37 MN := au (H := T6) (fin := []) Tryz.func37 Tryz.call37 (aD (l := []) trivial) rfl rfl rfl (fun a => by kernel_rfl)
def mK (bO : ay) (n_1 : Int) : Option (Int × ay) :=
(sZ bO).bind fun t1 =>
(B_ t1.1 n_1).bind fun t2 =>
 some ((t2, t1.2))
def B8 : bI := ⟨[(.st 0), (.int .i64)], [(.int .i64), (.st 0)], fun (a : ay × Int) => mK a.1 a.2, [(false, [.ptr 0]), (false, [.d 1 0])], [.oc 0 [.d 0 0, .d 0 1]], [(false, [.d 0 0])], [.oc 0 [.d 1 0, .d 1 1]], 1, 1⟩
def Qk : Hints := ⟨[], [], [], [], []⟩
theorem F_ [aq] : aG prog 15 B8 := au (H := Qk) (fin := []) Tryz.func15 Tryz.call15 (aD (l := [(38, Ea), (37, MN)]) ⟨K4, RY, trivial⟩) rfl rfl rfl (fun a => by kernel_rfl)
def zw (t1 : (Int × ay)) (t2 : (Int × ay)) (Yl : Int × (List Int) × Int × (List ah)) (Yj : Int × (List Int) × Int × (List ah)) : Option (Sum ((List Int) × Int × (List ah)) (Int × (List Int) × Int × (List ah))) :=
 bif decide (Yj.1 < t1.1) then
(mK ((ay.mk Yj.2.1 Yj.2.2.1)) 12).bind fun k59 =>
 dx (fun j61 : Bool =>
 bif j61 then
(dh 16 Yj.2.2.2 [(ah.mk Yl.1 Yj.1)]).bind fun t62 =>
 some (Sum.inr ((aN .i64 Yj.1 1, k59.2.L, k59.2.At, t62)))
 else
 some (Sum.inr ((aN .i64 Yj.1 1, k59.2.L, k59.2.At, Yj.2.2.2)))) fun k60 =>
 bif decide (k59.1 < (aN .i64 1 t2.1)) then
 bif (Yl.1 : Int) != Yj.1 then
 k60 true
 else
 k60 ((k59.1 : Int) == 0)
 else
 k60 false
 else
 some (Sum.inl ((Yj.2.1, Yj.2.2.1, Yj.2.2.2)))
def zu (t1 : (Int × ay)) (t2 : (Int × ay)) (Yl : Int × (List Int) × Int × (List ah)) : Option (Sum ((List Int) × Int × (List ah)) (Int × (List Int) × Int × (List ah))) :=
 bif decide (Yl.1 < t1.1) then
(aI (zw t1 t2 Yl) ((0, Yl.2.1, Yl.2.2.1, Yl.2.2.2))).bind fun q63 : (List Int) × Int × (List ah) =>
 some (Sum.inr ((aN .i64 Yl.1 1, q63.1, q63.2.1, q63.2.2)))
 else
 some (Sum.inl ((Yl.2.1, Yl.2.2.1, Yl.2.2.2)))
def o_ (bO : ay) (n_1 : Int) : Option (af × ay) :=
(mK bO (aN .i64 n_1 1)).bind fun t1 =>
(mK t1.2 6).bind fun t2 =>
(aI (zu t1 t2) ((0, t2.2.L, t2.2.At, []))).bind fun q64 : (List Int) × Int × (List ah) =>
 some (((af.mk t1.1 q64.2.2), (ay.mk q64.1 q64.2.1)))
def AU : bI := ⟨[(.st 0), (.int .i64)], [(.st 2), (.st 0)], fun (a : ay × Int) => o_ a.1 a.2, [(false, [.ptr 0]), (false, [.d 1 0])], [.oc 0 [.d 0 0, .d 0 1]], [(true, [.d 0 0, .d 0 1])], [.oc 0 [.d 1 0, .d 1 1]], 1, 1⟩
def JR : Hints := ⟨[(0, ⟨[.own (.st 1) (.cell 2 1)], ⟨[(.int .i64), (.sl (.int .i64)), (.int .i64), (.sl (.st 1))], [(0, none), (4, none), (5, none), (6, none), (7, some (false, [.d 0 0]))], [.cells [some (.d 1 0), some (.d 2 0)], .keep, .cells [none, some (.own 4)], .dead, .jw 0 (.d 3 0)], 1⟩, [], some ([], ⟨[(.sl (.int .i64)), (.int .i64), (.sl (.st 1))], [(0, none), (4, none), (5, none)], [.cells [some (.d 0 0), some (.d 1 0)], .keep, .cells [none, some (.own 4)], .dead, .jw 0 (.d 2 0)], 1⟩), false, none⟩), (2, ⟨[], ⟨[(.int .i64), (.sl (.int .i64)), (.int .i64), (.sl (.st 1))], [(0, none), (4, none), (5, none), (6, none), (7, none), (8, some (false, [.d 0 0]))], [.cells [some (.d 1 0), some (.d 2 0)], .keep, .cells [none, some (.own 5)], .dead, .dead, .jw 0 (.d 3 0)], 1⟩, [], some ([], ⟨[(.sl (.int .i64)), (.int .i64), (.sl (.st 1))], [(0, none), (4, none), (5, none), (6, none), (7, none)], [.cells [some (.d 0 0), some (.d 1 0)], .keep, .cells [none, some (.own 5)], .dead, .dead, .jw 0 (.d 2 0)], 1⟩), false, none⟩)], [(24, ([], ⟨[.bool], [(0, none), (4, none), (5, none), (6, none), (7, none), (8, none), (43, some (false, [.d 0 0]))], [.keep, .keep, .keep, .dead, .dead, .keep], 0⟩))], [], [], []⟩
theorem Ip [aq] : aG prog 5 AU := au (H := JR) (fin := [.sl (.st 1) (.cell 1 1)]) Tryz.func5 Tryz.call5 (aD (l := [(15, B8)]) ⟨F_, trivial⟩) rfl rfl rfl (fun a => by kernel_rfl)
def AT (n_1 : Int) (lu : Int × (List Int) × Int × (List Int)) : Option (Sum ((List Int) × Int × (List Int)) (Int × (List Int) × Int × (List Int))) :=
 bif decide (lu.1 < n_1) then
(mK ((ay.mk lu.2.1 lu.2.2.1)) 2).bind fun t11 =>
 bif (t11.1 : Int) == 1 then
(dh 8 lu.2.2.2 [lu.1]).bind fun DT =>
 some (Sum.inr ((aN .i64 lu.1 1, t11.2.L, t11.2.At, DT)))
 else
 some (Sum.inr ((aN .i64 lu.1 1, t11.2.L, t11.2.At, lu.2.2.2)))
 else
 some (Sum.inl ((lu.2.1, lu.2.2.1, lu.2.2.2)))
def qD (bO : ay) (n_1 : Int) : Option (ay × (List Int)) :=
(aI (AT n_1) ((0, bO.L, bO.At, []))).bind fun Js : (List Int) × Int × (List Int) =>
 some (((ay.mk Js.1 Js.2.1), Js.2.2))
def CD : bI := ⟨[(.st 0), (.int .i64)], [(.st 0), (.sl (.int .i64))], fun (a : ay × Int) => qD a.1 a.2, [(false, [.ptr 0]), (false, [.d 1 0])], [.oc 0 [.d 0 0, .d 0 1]], [(false, [.own 1])], [.oc 0 [.d 0 0, .d 0 1], .oa 1 (.d 1 0)], 1, 2⟩
def K5 : Hints := ⟨[(0, ⟨[.own (.int .i64) (.slot 5 0)], ⟨[(.int .i64), (.sl (.int .i64)), (.int .i64), (.sl (.int .i64))], [(0, none), (1, none), (4, none), (5, some (false, [.own 2])), (6, some (false, [.d 0 0]))], [.cells [some (.d 1 0), some (.d 2 0)], .dead, .jw 0 (.d 3 0)], 1⟩, [], some ([], ⟨[(.sl (.int .i64)), (.int .i64), (.sl (.int .i64))], [(0, none), (4, none), (5, some (false, [.own 2]))], [.cells [some (.d 0 0), some (.d 1 0)], .dead, .jw 0 (.d 2 0)], 1⟩), false, none⟩)], [], [], [], []⟩
theorem JQ [aq] : aG prog 6 CD := au (H := K5) (fin := []) Tryz.func6 Tryz.call6 (aD (l := [(15, B8)]) ⟨F_, trivial⟩) rfl rfl rfl (fun a => by kernel_rfl)
def iP (Bw : Int) : Option (Bool) :=
 some ((Bw : Int) != Bw)
def CL : bI := ⟨[(.int .i64)], [.bool], fun (a : Int) => iP a, [(false, [.d 0 0])], [], [(false, [.d 0 0])], [], 0, 0⟩
def Ld : Hints := ⟨[], [], [], [], []⟩
theorem J9 [aq] : aG prog 100 CL := au (H := Ld) (fin := []) Tryz.func100 Tryz.call100 (aD (l := []) trivial) rfl rfl rfl (fun a => by kernel_rfl)
def bT (Bw : Int) (WA : Int) : Option (Int) :=
(iP Bw).bind fun Yy =>
(iP WA).bind fun Q8 =>
 bif Yy then
 bif Q8 then
 some 0
 else
 some ((-1))
 else
 bif Q8 then
 some 1
 else
 bif decide (Bw < WA) then
 some ((-1))
 else
 bif decide (Bw > WA) then
 some 1
 else
 some 0
def kV : bI := ⟨[(.int .i64), (.int .i64)], [(.int .i64)], fun (a : Int × Int) => bT a.1 a.2, [(false, [.d 0 0]), (false, [.d 1 0])], [], [(false, [.d 0 0])], [], 0, 0⟩
def IQ : Hints := ⟨[], [], [], [], []⟩
theorem mS [aq] : aG prog 48 kV := au (H := IQ) (fin := []) Tryz.func48 Tryz.call48 (aD (l := [(100, CL)]) ⟨J9, trivial⟩) rfl rfl rfl (fun a => by kernel_rfl)
def eR (qI : (List Int)) (s5 : Int) : Option (Sum (Sum (Int) (Unit)) (Int)) :=
 bif decide (s5 < ((qI.length : Int))) then
(aL qI s5).bind fun t6 =>
 bif (t6 : Int) != 0 then
 some (Sum.inl (Sum.inl t6))
 else
 some (Sum.inr (aN .i64 s5 1))
 else
 some (Sum.inl (Sum.inr (())))
def gU (qI : (List Int)) : Option (Int) :=
(aI (eR qI) 0).bind (eH (fun a : Int => some a) fun q7 : Unit =>
 some 0)
def xm : bI := ⟨[(.sl (.int .i64))], [(.int .i64)], fun (a : (List Int)) => gU a, [(false, [.d 0 0])], [], [(false, [.d 0 0])], [], 0, 0⟩
def Qz : Hints := ⟨[(0, ⟨[], ⟨[(.int .i64)], [(2, none), (3, none), (6, none), (7, none), (8, some (false, [.d 0 0]))], [], 0⟩, [], some ([], ⟨[], [(2, none), (3, none)], [], 0⟩), true, none⟩)], [], [], [], []⟩
theorem Aa [aq] : aG prog 47 xm := au (H := Qz) (fin := []) Tryz.func47 Tryz.call47 (aD (l := []) trivial) rfl rfl rfl (fun a => by kernel_rfl)
def bA (qg : ah) (b_1 : ah) : Option (Int) :=
(bT qg.bw b_1.bw).bind fun t1 =>
(bT qg.To b_1.To).bind fun t2 =>
(gU [t1, t2]).bind fun t3 =>
 some t3
def wm : bI := ⟨[(.st 1), (.st 1)], [(.int .i64)], fun (a : ah × ah) => bA a.1 a.2, [(true, [.d 0 0, .d 0 1]), (true, [.d 1 0, .d 1 1])], [], [(false, [.d 0 0])], [], 0, 0⟩
def K8 : Hints := ⟨[], [], [], [], []⟩
theorem uG [aq] : aG prog 44 wm := au (H := K8) (fin := []) Tryz.func44 Tryz.call44 (aD (l := [(48, kV), (47, xm)]) ⟨mS, Aa, trivial⟩) rfl rfl rfl (fun a => by kernel_rfl)
def nV (aW : af) (s9 : Int) : Option (Sum (Sum (Int) (Unit)) (Int)) :=
 bif decide (s9 < ((aW.L.length : Int))) then
(aL aW.L s9).bind fun t10 =>
 bif decide ((GQ t10.bw t10.To) < 0) then
 some (Sum.inl (Sum.inl 1))
 else
 bif decide ((imax t10.bw t10.To) ≥ aW.N) then
 some (Sum.inl (Sum.inl 1))
 else
 bif decide (s9 > 0) then
(aL aW.L (qq .i64 s9 1)).bind fun t11 =>
(bA t11 t10).bind fun t12 =>
 bif decide (t12 ≥ 0) then
 some (Sum.inl (Sum.inl 8))
 else
 some (Sum.inr (aN .i64 s9 1))
 else
 some (Sum.inr (aN .i64 s9 1))
 else
 some (Sum.inl (Sum.inr (())))
def b_ (aW : af) : Option (Int) :=
 bif decide (aW.N < 0) then
 some 1
 else
 bif decide (aW.N > 40) then
 some 1
 else
(aI (nV aW) 0).bind (eH (fun a : Int => some a) fun Js : Unit =>
 some 0)
def gG : bI := ⟨[(.st 2)], [(.int .i64)], fun (a : af) => b_ a, [(true, [.d 0 0, .d 0 1])], [], [(false, [.d 0 0])], [], 0, 0⟩
def JU : Hints := ⟨[(0, ⟨[], ⟨[(.int .i64)], [(1, none), (2, none), (14, none), (15, none), (16, some (false, [.d 0 0]))], [.keep], 0⟩, [], some ([], ⟨[], [(2, none)], [.dead], 0⟩), true, none⟩)], [], [], [], []⟩
theorem fI [aq] : aG prog 19 gG := au (H := JU) (fin := []) Tryz.func19 Tryz.call19 (aD (l := [(44, wm)]) ⟨uG, trivial⟩) rfl rfl rfl (fun a => by kernel_rfl)
def cO (bO : Int) (uw : Int) : Option (Int) :=
(Ed .u64 1 (IntKind.wrap .u64 uw)).bind fun t1 =>
 some (Yo .u64 bO t1)
def mD : bI := ⟨[(.int .u64), (.int .i64)], [(.int .u64)], fun (a : Int × Int) => cO a.1 a.2, [(false, [.d 0 0]), (false, [.d 1 0])], [], [(false, [.d 0 0])], [], 0, 0⟩
def GF : Hints := ⟨[], [], [], [], []⟩
theorem pU [aq] : aG prog 88 mD := au (H := GF) (fin := []) Tryz.func88 Tryz.call88 (aD (l := []) trivial) rfl rfl rfl (fun a => by kernel_rfl)
def cI (Nf : List Int) : Option (List Int) := dh 8 [] Nf
theorem rX : Hr prog 3 (rI .i64) 8 := lg (P := prog) (c := (.int .i64)) (by kernel_rfl)
theorem Aq [aq] {Nf r : List Int} (hm : cI Nf = some r) : gw prog 41 [eN (rI .i64) Nf] [] (fun (x : Value × List Nat) => [pv x.1]) (fun (x : Value × List Nat) => [oa (rI .i64) x.1 x.2 r]) := by
 have hm' : dh 8 [] Nf = some r := hm
 have hr : r = Nf := by have := (E8 hm').2; simpa using this
 subst hr
 refine A6 (X := Value × List Nat) (fn := Tryz.f41) (N := 8) (m := some ()) (r := ()) (res := fun _ x => [pv x.1]) (lB := fun _ x => [oa (rI .i64) x.1 x.2 r]) Tryz.func41 rfl rfl rfl rfl (fun E hM => ?_)
 refine aF (az (br (vq rfl) rfl (bg (aH (aF (aF ?_))))))
 refine az (br (xO rfl) rfl (mz (Vd Tryz.underlying22 rfl) rfl (fun b => bg (aH ?_))))
 refine Ou (b := b.1) rfl (fun hb => ?_) (fun hb => ?_)
 ·refine aF ?_
  refine az (br (vq rfl) rfl (bg (aH (d_ (fG ?_)))))
  have hd := b.2 hb
  subst hd
  refine pE (LA (rI .i64)) ?_
  exact Cg (.inl rfl) (.slice none 0 0, []) [0] rfl ⟨rfl, trivial⟩ rfl (gA rfl)
 ·refine dS ?_
  refine aH (aF (az (mz (Jn (xs := []) (ds := []) Tryz.underlying22 rX rfl (Nat.le_of_ble_eq_true rfl) trivial) rfl (fun o => br (xO rfl) rfl (mz (DD hm' Tryz.underlying22 rX rfl (j := 0) rfl rfl) rfl (fun o2 => br (vq rfl) rfl ?_))))))
  refine bg (aH (d_ ?_))
  exact Cg (.inl rfl) o2 [0] rfl ⟨rfl, trivial⟩ rfl (gA rfl)
def sB : bI := conW3 (P := prog) (.int .i64) cI
theorem Ap [aq] : aG prog 41 sB := ⟨Tryz.call41, SF fun s r hm => Aq hm⟩
def gF (lF : (List Int)) (s7 : Int × Int) : Option (Sum (Int) (Int × Int)) :=
 bif decide (s7.2 < ((lF.length : Int))) then
(aL lF s7.2).bind fun t8 =>
(cO s7.1 t8).bind fun s9 =>
 some (Sum.inr ((s9, aN .i64 s7.2 1)))
 else
 some (Sum.inl s7.1)
def dW (lF : (List Int)) : Option (Int) :=
(aI (gF lF) ((0, 0))).bind fun Ox : Int =>
 some Ox
def nq : bI := ⟨[(.sl (.int .i64))], [(.int .u64)], fun (a : (List Int)) => dW a, [(false, [.d 0 0])], [], [(false, [.d 0 0])], [], 0, 0⟩
def KZ : Hints := ⟨[(0, ⟨[], ⟨[(.int .u64), (.int .i64)], [(2, none), (3, some (false, [.d 0 0])), (6, none), (7, none), (8, some (false, [.d 1 0]))], [], 0⟩, [], some ([], ⟨[(.int .u64)], [(2, none), (3, some (false, [.d 0 0]))], [], 0⟩), false, none⟩)], [], [], [], []⟩
theorem o0 [aq] : aG prog 40 nq := au (H := KZ) (fin := []) Tryz.func40 Tryz.call40 (aD (l := [(88, mD)]) ⟨pU, trivial⟩) rfl rfl rfl (fun a => by kernel_rfl)
def sP (aW : af) (QY : Int × Int) : Option (Sum (Int) (Int × Int)) :=
 bif decide (QY.1 < aW.N) then
(cO QY.2 QY.1).bind fun t24 =>
 some (Sum.inr ((aN .i64 QY.1 1, t24)))
 else
 some (Sum.inl QY.2)
def sO (aW : af) (KB : Int × (List Int) × (List Int)) : Option (Sum ((List Int) × (List Int)) (Int × (List Int) × (List Int))) :=
 bif decide (KB.1 < ((aW.L.length : Int))) then
(aL aW.L KB.1).bind fun t49 =>
(aL KB.2.1 t49.To).bind fun t53 =>
(cO t53 t49.bw).bind fun t54 =>
(aL KB.2.1 t49.To).bind fun t55 =>
(aL KB.2.2 t49.bw).bind fun t56 =>
(cO t56 t49.To).bind fun t57 =>
(aL KB.2.2 t49.bw).bind fun t58 =>
 some (Sum.inr ((aN .i64 KB.1 1, KB.2.1.set (Int.toNat t49.To) t54, KB.2.2.set (Int.toNat t49.bw) t57)))
 else
 some (Sum.inl ((KB.2.1, KB.2.2)))
def dX (aW : af) : Option (av) :=
 dx (fun LF : (List Int) × (List Int) =>
(aI (sP aW) ((0, 0))).bind fun q25 : Int =>
(aI (sO aW) ((0, LF.1, LF.2))).bind fun q59 : (List Int) × (List Int) =>
 some ((av.mk q25 q59.1 q59.2))) fun Ht =>
 mg (
(uB 8 0 aW.N).bind fun t60 =>
 mg (
(uB 8 0 aW.N).bind fun t61 =>
 Ht ((t60, t61))) (
(uB 8 0 aW.N).bind fun t62 =>
 Ht ((t60, t62)))) (
 mg (
(uB 8 0 aW.N).bind fun t63 =>
 mg (
(uB 8 0 aW.N).bind fun t64 =>
 Ht ((t64, t63))) (
(uB 8 0 aW.N).bind fun t65 =>
 Ht ((t65, t63)))) (
 mg (
(uB 8 0 aW.N).bind fun t66 =>
(uB 8 0 aW.N).bind fun t67 =>
 Ht ((t66, t67))) (
(uB 8 0 aW.N).bind fun t68 =>
(uB 8 0 aW.N).bind fun t69 =>
 Ht ((t69, t68)))))
def uT : bI := ⟨[(.st 2)], [(.st 3)], fun (a : af) => dX a, [(true, [.d 0 0, .d 0 1])], [], [(true, [.d 0 0, .d 0 1, .d 0 2])], [], 0, 0⟩
def NR : Hints := ⟨[(0, ⟨[], ⟨[(.int .i64), (.int .u64)], [(1, none), (2, none), (3, none), (15, none), (16, some (false, [.d 0 0]))], [.keep, .keep, .cells [some (.d 1 0), none, none], .keep, .keep], 0⟩, [], some ([], ⟨[(.int .u64)], [(1, none), (2, none), (3, none)], [.keep, .keep, .cells [some (.d 0 0), none, none], .keep, .keep], 0⟩), false, none⟩), (2, ⟨[], ⟨[(.int .i64), (.sl (.int .u64)), (.sl (.int .u64))], [(2, none), (3, none), (26, none), (27, none), (28, some (false, [.d 0 0]))], [.dead, .keep, .keep, .data (.d 1 0), .data (.d 2 0)], 0⟩, [], some ([], ⟨[(.sl (.int .u64)), (.sl (.int .u64))], [(2, none), (3, none)], [.dead, .keep, .keep, .data (.d 0 0), .data (.d 1 0)], 0⟩), false, none⟩)], [(6, ([], ⟨[(.sl (.int .u64)), (.sl (.int .u64))], [(1, none), (2, none), (3, some (false, [.ptr 2]))], [.keep, .keep, .ocN 0 [.fx (.ci .u64 0), .own 3, .own 4], .jw 1 (.d 0 0), .jw 2 (.d 1 0)], 3⟩))], [], [], []⟩
theorem xW [aq] : aG prog 49 uT := au (H := NR) (fin := [.sl (.int .u64) (.cell 1 1), .sl (.int .u64) (.cell 1 2)]) Tryz.func49 Tryz.call49 (aD (l := [(88, mD)]) ⟨pU, trivial⟩) rfl rfl rfl (fun a => by kernel_rfl)
def bD (bO : Int) (uw : Int) : Option (Bool) :=
(KH .u64 bO (IntKind.wrap .u64 uw)).bind fun t1 =>
 some ((cE .u64 t1 1 : Int) == 1)
def iH : bI := ⟨[(.int .u64), (.int .i64)], [.bool], fun (a : Int × Int) => bD a.1 a.2, [(false, [.d 0 0]), (false, [.d 1 0])], [], [(false, [.d 0 0])], [], 0, 0⟩
def H_ : Hints := ⟨[], [], [], [], []⟩
theorem jK [aq] : aG prog 43 iH := au (H := H_) (fin := []) Tryz.func43 Tryz.call43 (aD (l := []) trivial) rfl rfl rfl (fun a => by kernel_rfl)
theorem tzC_ {x r : Int} (h : YK x = some r) : gw prog 143 [iv .u64 x] [] (fun _ : Unit => [iv .i64 r]) (fun _ => []) :=
 tz_fn (g := 0) (fun x hx w hT => Any7.bits_TrailingZeros64 tz29 x hx w hT) (by first | exact .head _ | exact .tail _ (.head _)) h
def jl : bI := ⟨[.int .u64], [.int .i64], YK, [(false, [.d 0 0])], [], [(false, [.d 0 0])], [], 0, 0⟩
theorem nr : aG prog 143 jl := ⟨Tryz.call143, tz_con fun h => tzC_ h⟩
def pV  (lu : Int × (List Int)) : Option (Sum ((List Int)) (Int × (List Int))) :=
 bif (lu.1 : Int) != 0 then
(YK lu.1).bind fun t11 =>
(dh 8 lu.2 [t11]).bind fun DT =>
 some (Sum.inr ((cE .u64 lu.1 (qq .u64 lu.1 1), DT)))
 else
 some (Sum.inl lu.2)
def cQ (bO : Int) : Option ((List Int)) :=
(aI pV ((bO, []))).bind fun Js : (List Int) =>
 some Js
def gE : bI := ⟨[(.int .u64)], [(.sl (.int .i64))], fun (a : Int) => cQ a, [(false, [.d 0 0])], [], [(false, [.own 0])], [.oa 0 (.d 0 0)], 0, 1⟩
def GG : Hints := ⟨[(0, ⟨[.own (.int .i64) (.slot 3 0)], ⟨[(.int .u64), (.sl (.int .i64))], [(0, some (false, [.d 0 0])), (2, none), (3, some (false, [.own 1]))], [.dead, .jw 0 (.d 1 0)], 1⟩, [], some ([], ⟨[(.sl (.int .i64))], [(2, none), (3, some (false, [.own 1]))], [.dead, .jw 0 (.d 0 0)], 1⟩), false, none⟩)], [], [], [], []⟩
theorem iV : aG prog 82 gE := au (H := GG) (fin := []) Tryz.func82 Tryz.call82 (aD (l := [(143, jl)]) ⟨nr, trivial⟩) rfl rfl rfl (fun a => by kernel_rfl)
def jM (cG : av) (t1 : ((List Int))) (s8 : Int × Int) : Option (Sum (Int) (Int × Int)) :=
 bif decide (s8.2 < ((t1.length : Int))) then
(aL t1 s8.2).bind fun t9 =>
(aL cG.Out t9).bind fun t10 =>
 some (Sum.inr ((Yo .u64 s8.1 t10, aN .i64 s8.2 1)))
 else
 some (Sum.inl s8.1)
def dn (cG : av) (s_1 : Int) : Option (Int) :=
(cQ s_1).bind fun t1 =>
(aI (jM cG t1) ((0, 0))).bind fun q11 : Int =>
 some q11
def iI : bI := ⟨[(.st 3), (.int .u64)], [(.int .u64)], fun (a : av × Int) => dn a.1 a.2, [(true, [.d 0 0, .d 0 1, .d 0 2]), (false, [.d 1 0])], [], [(false, [.d 0 0])], [], 0, 0⟩
def Ib : Hints := ⟨[(0, ⟨[], ⟨[(.int .u64), (.int .i64)], [(2, none), (4, none), (5, some (false, [.d 0 0])), (9, none), (10, none), (11, some (false, [.d 1 0]))], [.keep, .keep], 0⟩, [], some ([], ⟨[(.int .u64)], [(4, none), (5, some (false, [.d 0 0]))], [.dead, .dead], 0⟩), false, none⟩)], [], [], [], []⟩
theorem jL : aG prog 89 iI := au (H := Ib) (fin := []) Tryz.func89 Tryz.call89 (aD (l := [(82, gE)]) ⟨iV, trivial⟩) rfl rfl rfl (fun a => by kernel_rfl)
def bN (qg : ah) (b_1 : ah) : Option (Int) :=
(bT qg.bw b_1.bw).bind fun t1 =>
(bT qg.To b_1.To).bind fun t2 =>
(gU [t1, t2]).bind fun t3 =>
 some t3
def zG : bI := ⟨[(.st 1), (.st 1)], [(.int .i64)], fun (a : ah × ah) => bN a.1 a.2, [(true, [.d 0 0, .d 0 1]), (true, [.d 1 0, .d 1 1])], [], [(false, [.d 0 0])], [], 0, 0⟩
def IF : Hints := ⟨[], [], [], [], []⟩
theorem rq [aq] : aG prog 21 zG := au (H := IF) (fin := []) Tryz.func21 Tryz.call21 (aD (l := [(48, kV), (47, xm)]) ⟨mS, Aa, trivial⟩) rfl rfl rfl (fun a => by kernel_rfl)
def gJ (x : ah) : List Value := [.int .i64 x.bw, .int .i64 x.To]
theorem kU : EncT ak gJ 2 where
 size := rfl
 pos := by decide
 agg := rfl
 len := fun x => rfl
 one := fun x v hv => by simp only [gJ, List.mem_cons, List.not_mem_nil, or_false] at hv; rcases hv with rfl | rfl <;> rfl
 to := fun x F w cs h => by
  match cs, h with
  | [v0, v1], ⟨h0, h1, _⟩ => cases (show v0 = .int .i64 x.bw from h0); cases (show v1 = .int .i64 x.To from h1); rfl
 of := fun x F w => ⟨rfl, rfl, trivial⟩
theorem oV [aq] {bO r : List ah} (hm : (gX bN) bO = some r) {tG : Value × List Nat} :
  gw prog 20 [pv tG.1, pv (.func (.func 21) #[] #[])] [oa ak tG.1 tG.2 bO] (fun _ : Unit => []) (fun _ : Unit => [oa ak tG.1 tG.2 r]) :=
 L2 kU (X := Unit) (fun x y r h => Qy (t := .st 1) (@rq u7) h fun _ => rfl)
  (fun hO blk off cap d w hc hH hb hs hT => AnyQ.slices_SortFunc_total Jl 2 Tryz.isAgg55 Tryz.sizeOf55 gJ (fun _ => rfl) kU.one _ hO 21 #[] blk off cap d w (enters_of Tryz.func21 (by kernel_rfl) rfl) hc hH hb hs hT)
  (fun p cap fv w => AnyF.slices_SortFunc_none Jl p cap fv w) hm
def jv : bI := SG (P := prog) (.st 1) (gX bN) [(false, [.fn 21 []])]
theorem pQ [aq] : aG prog 20 jv := ⟨Tryz.call20, E6 fun s r hm h0 => oV hm⟩
def kR (aW : af) (j7 : Int × Int × (List Int) × (List Int)) (QX : Int × (List (List ah))) : Option (Sum ((List (List ah))) (Int × (List (List ah)))) :=
 bif decide (QX.1 < ((aW.L.length : Int))) then
(aL aW.L QX.1).bind fun t65 =>
 dx (fun j69 : Bool =>
 bif j69 then
(dh 24 QX.2 ([[t65]])).bind fun ZH =>
 some (Sum.inr ((aN .i64 QX.1 1, ZH)))
 else
 some (Sum.inr ((aN .i64 QX.1 1, QX.2)))) fun k68 =>
(bD j7.1 t65.bw).bind fun t71 =>
 bif t71 then
(bD j7.1 t65.To).bind fun t72 =>
 k68 t72
 else
 k68 false
 else
 some (Sum.inl QX.2)
def fL (s_1 : (List Int)) (fP : Int × (List (List ah))) (HL : Int × (List ah)) : Option (Sum ((List ah)) (Int × (List ah))) :=
 bif decide (HL.1 < ((s_1.length : Int))) then
(aL s_1 HL.1).bind fun t192 =>
(dh 16 HL.2 [(ah.mk t192 fP.1)]).bind fun l193 =>
 some (Sum.inr ((aN .i64 HL.1 1, l193)))
 else
 some (Sum.inl HL.2)
def fK (fP : Int × (List (List ah))) (t196 : ((List Int))) (HK : Int × (List ah)) : Option (Sum ((List ah)) (Int × (List ah))) :=
 bif decide (HK.1 < ((t196.length : Int))) then
(aL t196 HK.1).bind fun t204 =>
(dh 16 HK.2 [(ah.mk fP.1 t204)]).bind fun l205 =>
 some (Sum.inr ((aN .i64 HK.1 1, l205)))
 else
 some (Sum.inl HK.2)
def nW (aW : af) (s_1 : (List Int)) (bu : Int) (j7 : Int × Int × (List Int) × (List Int)) (zA : (Int)) (fP : Int × (List (List ah))) : Option (Sum ((List (List ah))) (Int × (List (List ah)))) :=
 bif decide (fP.1 < aW.N) then
 dx (fun j170 : Int × Int × Bool × Int × Bool × Bool × Bool =>
(aI (fL s_1 fP) ((0, []))).bind fun Zv : (List ah) =>
 bif (bu : Int) == 1 then
(aL j7.2.2.2 fP.1).bind fun t195 =>
(cQ (cE .u64 t195 j7.1)).bind fun t196 =>
(aI (fK fP t196) ((0, Zv))).bind fun q206 : (List ah) =>
((gX bN) q206).bind fun t207 =>
(dh 24 fP.2 [t207]).bind fun Mr =>
 some (Sum.inr ((aN .i64 fP.1 1, Mr)))
 else
((gX bN) Zv).bind fun t209 =>
(dh 24 fP.2 [t209]).bind fun TM =>
 some (Sum.inr ((aN .i64 fP.1 1, TM)))) fun aao =>
(bD j7.1 fP.1).bind fun t211 =>
 bif t211 then
 some (Sum.inr ((aN .i64 fP.1 1, fP.2)))
 else
(bD zA fP.1).bind fun t212 =>
 bif t212 then
 some (Sum.inr ((aN .i64 fP.1 1, fP.2)))
 else
 bif (bu : Int) == 1 then
(aL j7.2.2.2 fP.1).bind fun t213 =>
 bif (cE .u64 t213 j7.1 : Int) == 0 then
 some (Sum.inr ((aN .i64 fP.1 1, fP.2)))
 else
 aao ((zA, fP.1, t212, bu, (bu : Int) == 1, true, (cE .u64 t213 j7.1 : Int) == 0))
 else
 aao ((zA, fP.1, t212, bu, (bu : Int) == 1, false, false))
 else
 some (Sum.inl fP.2)
def cW (aW : af) (s_1 : (List Int)) (bu : Int) : Option ((List (List ah))) :=
 dx (fun j7 : Int × Int × (List Int) × (List Int) =>
(aI (kR aW j7) ((0, []))).bind fun q73 : (List (List ah)) =>
(dn ((av.mk j7.2.1 j7.2.2.1 j7.2.2.2)) j7.1).bind fun zA =>
(aI (nW aW s_1 bu j7 zA) ((0, q73))).bind fun q214 : (List (List ah)) =>
 some q214) fun k6 =>
 mg (
(dW s_1).bind fun MT =>
 mg (
(dX aW).bind fun t216 =>
 k6 ((MT, t216.All, t216.By, t216.Out))) (
(dX aW).bind fun t217 =>
 k6 ((MT, t217.All, t217.By, t217.Out)))) (
(dW s_1).bind fun Ue =>
(dX aW).bind fun t219 =>
 k6 ((Ue, t219.All, t219.By, t219.Out)))
def Bd : bI := ⟨[(.st 2), (.sl (.int .i64)), (.int .i64)], [(.sl (.sl (.st 1)))], fun (a : af × (List Int) × Int) => cW a.1 a.2.1 a.2.2, [(true, [.d 0 0, .d 0 1]), (false, [.d 1 0]), (false, [.d 2 0])], [], [(false, [.own 0])], [.oa 0 (.d 0 0)], 0, 1⟩
def J4 : Hints := ⟨[(0, ⟨[.own (.sl (.st 1)) (.slot 9 0)], ⟨[(.int .i64), (.sl (.sl (.st 1)))], [(1, none), (2, none), (3, none), (6, none), (7, none), (8, none), (9, some (false, [.own 3])), (24, none), (25, none), (26, some (false, [.d 0 0]))], [.keep, .keep, .dead, .jw 0 (.d 1 0)], 1⟩, [], some ([], ⟨[(.sl (.sl (.st 1)))], [(1, none), (2, none), (3, none), (6, none), (7, none), (8, none), (9, some (false, [.own 3]))], [.keep, .keep, .dead, .jw 0 (.d 0 0)], 1⟩), false, none⟩), (2, ⟨[], ⟨[(.int .i64), (.sl (.sl (.st 1)))], [(1, none), (2, none), (6, none), (7, none), (8, none), (9, some (false, [.own 4])), (12, none), (50, none), (51, some (false, [.d 0 0]))], [.dead, .keep, .dead, .dead, .jw 0 (.d 1 0)], 1⟩, [], some ([], ⟨[(.sl (.sl (.st 1)))], [(6, none), (9, some (false, [.own 4]))], [.dead, .dead, .dead, .dead, .jw 0 (.d 0 0)], 1⟩), false, none⟩), (4, ⟨[.own (.st 1) (.slot 14 0)], ⟨[(.int .i64), (.sl (.st 1))], [(1, none), (2, none), (6, none), (7, none), (8, none), (9, none), (12, none), (13, none), (14, some (false, [.own 6])), (50, none), (51, none), (58, none), (59, none), (60, none), (63, none), (64, none), (65, none), (74, none), (76, none), (77, none), (78, some (false, [.d 0 0]))], [.dead, .keep, .dead, .dead, .keep, .dead, .jw 0 (.d 1 0)], 1⟩, [], some ([], ⟨[(.sl (.st 1))], [(1, none), (2, none), (6, none), (7, none), (8, none), (9, none), (12, none), (13, none), (14, some (false, [.own 6])), (50, none), (51, none), (58, none), (59, none), (60, none), (63, none), (64, none), (65, none), (74, none)], [.dead, .keep, .dead, .dead, .keep, .dead, .jw 0 (.d 0 0)], 1⟩), false, none⟩), (6, ⟨[], ⟨[(.int .i64), (.sl (.st 1))], [(1, none), (2, none), (6, none), (7, none), (8, none), (9, none), (12, none), (13, none), (14, some (false, [.own 8])), (50, none), (51, none), (58, none), (59, none), (60, none), (63, none), (64, none), (65, none), (74, none), (98, none), (99, none), (100, some (false, [.d 0 0]))], [.dead, .keep, .dead, .dead, .keep, .dead, .dead, .keep, .jw 0 (.d 1 0)], 1⟩, [], some ([], ⟨[(.sl (.st 1))], [(1, none), (2, none), (6, none), (7, none), (8, none), (9, none), (12, none), (14, some (false, [.own 8])), (50, none), (51, none), (58, none), (59, none), (60, none), (63, none), (64, none), (65, none), (74, none)], [.dead, .keep, .dead, .dead, .keep, .dead, .dead, .dead, .jw 0 (.d 0 0)], 1⟩), false, none⟩)], [(6, ([], ⟨[(.int .u64), (.int .u64), (.sl (.int .u64)), (.sl (.int .u64))], [(1, none), (2, none), (3, none), (6, none), (7, some (false, [.d 0 0])), (8, some (false, [.ptr 1]))], [.keep, .ocN 0 [.d 1 0, .d 2 0, .d 3 0]], 1⟩)), (16, ([], ⟨[.bool], [(1, none), (2, none), (3, none), (6, none), (7, none), (8, none), (9, none), (11, none), (24, none), (25, none), (26, none), (39, some (false, [.d 0 0]))], [.keep, .keep, .dead, .keep, .keep], 0⟩)), (30, ([], ⟨[(.int .u64), (.int .i64), .bool, (.int .i64), .bool, .bool, .bool], [(1, none), (2, none), (6, none), (7, none), (8, none), (9, none), (12, none), (13, none), (50, none), (51, none), (58, some (false, [.d 0 0])), (59, some (false, [.d 1 0])), (60, some (false, [.d 2 0])), (63, some (false, [.d 3 0])), (64, some (false, [.d 4 0])), (65, some (false, [.d 5 0])), (74, some (false, [.d 6 0]))], [.dead, .keep, .dead, .dead, .keep], 0⟩))], [], [], []⟩
theorem zF : aG prog 42 Bd := au (H := J4) (fin := []) Tryz.func42 Tryz.call42 (aD (l := [(20, jv), (40, nq), (49, uT), (43, iH), (89, iI), (82, gE), (21, zG)]) ⟨pQ, o0, xW, jK, jL, iV, rq, trivial⟩) rfl rfl rfl (fun a => by kernel_rfl)
def kP (s_1 : (List Int)) (in_1 : (Int)) (j8 : (List Int) × (List (List ah))) (Vf : Int × (List ah)) : Option (Sum ((List ah)) (Int × (List ah))) :=
 bif decide (Vf.1 < ((j8.2.length : Int))) then
(aL j8.2 Vf.1).bind fun t82 =>
(aL t82 0).bind fun t83 =>
 dx (fun j94 : Int × Int =>
(dh 16 Vf.2 [(ah.mk j94.1 j94.2)]).bind fun t95 =>
 some (Sum.inr ((aN .i64 Vf.1 1, t95)))) fun k93 =>
 dx (fun j99 : Bool =>
 bif j99 then
(bD in_1 t83.To).bind fun t100 =>
 bif t100 then
(aL s_1 0).bind fun t101 =>
 k93 ((t101, t83.bw))
 else
(aL s_1 0).bind fun t102 =>
 k93 ((t102, t83.To))
 else
 k93 ((t83.bw, t83.To))) fun k98 =>
(bD in_1 t83.bw).bind fun t103 =>
 bif !t103 then
 k98 true
 else
(bD in_1 t83.To).bind fun t104 =>
 k98 (!t104)
 else
 some (Sum.inl Vf.2)
def fN (aW : af) (s_1 : (List Int)) (bu : Int) : Option (aJ) :=
(dW s_1).bind fun in_1 =>
 dx (fun j8 : (List Int) × (List (List ah)) =>
(aI (kP s_1 in_1 j8) ((0, []))).bind fun Zw : (List ah) =>
 some ((aJ.mk j8.1 Zw j8.2))) fun k7 =>
 mg (
(cI s_1).bind fun t106 =>
 mg (
(cW aW s_1 bu).bind fun t107 =>
 k7 ((t106, t107))) (
(cW aW s_1 bu).bind fun t108 =>
 k7 ((t106, t108)))) (
(cI s_1).bind fun t109 =>
(cW aW s_1 bu).bind fun t110 =>
 k7 ((t109, t110)))
def wN : bI := ⟨[(.st 2), (.sl (.int .i64)), (.int .i64)], [(.st 4)], fun (a : af × (List Int) × Int) => fN a.1 a.2.1 a.2.2, [(true, [.d 0 0, .d 0 1]), (false, [.d 1 0]), (false, [.d 2 0])], [], [(true, [.d 0 0, .d 0 1, .d 0 2])], [], 0, 0⟩
def Fx : Hints := ⟨[(0, ⟨[.own (.st 1) (.cell 2 1)], ⟨[(.int .i64), (.sl (.st 1))], [(1, none), (6, none), (7, none), (8, none), (23, none), (24, none), (25, some (false, [.d 0 0]))], [.dead, .keep, .cells [none, some (.own 6), none], .keep, .keep, .dead, .jw 0 (.d 1 0)], 1⟩, [], some ([], ⟨[(.sl (.st 1))], [(6, none), (8, none)], [.dead, .keep, .cells [none, some (.own 6), none], .keep, .keep, .dead, .jw 0 (.d 0 0)], 1⟩), false, none⟩)], [(8, ([], ⟨[(.sl (.int .i64)), (.sl (.sl (.st 1)))], [(1, none), (6, none), (7, none), (8, some (false, [.ptr 2]))], [.dead, .keep, .ocN 0 [.own 3, .nl, .own 4], .jw 1 (.d 0 0), .jw 2 (.d 1 0)], 3⟩)), (26, ([], ⟨[(.int .i64), (.int .i64)], [(1, none), (6, none), (7, none), (8, none), (11, none), (23, none), (24, none), (25, none)], [.dead, .keep, .keep, .keep, .keep, .dead, .keep, .cells [some (.d 0 0), some (.d 1 0)]], 0⟩)), (18, ([], ⟨[.bool], [(1, none), (6, none), (7, none), (8, none), (11, none), (23, none), (24, none), (25, none), (43, some (false, [.d 0 0]))], [.dead, .keep, .keep, .keep, .keep, .dead, .keep, .keep], 0⟩))], [], [], []⟩
theorem Et : aG prog 18 wN := au (H := Fx) (fin := [.sl (.int .i64) (.cell 1 0), .sl (.st 1) (.cell 1 1), .sl (.sl (.st 1)) (.cell 1 2)]) Tryz.func18 Tryz.call18 (aD (l := [(40, nq), (41, sB), (42, Bd), (43, iH)]) ⟨o0, Ap, zF, jK, trivial⟩) rfl rfl rfl (fun a => by kernel_rfl)
def iJ (lF : (List Int)) (jU : Int) (s7 : Int) : Option (Sum (Sum (Bool) (Unit)) (Int)) :=
 bif decide (s7 < ((lF.length : Int))) then
(aL lF s7).bind fun t8 =>
 bif decide (t8 < 0) then
 some (Sum.inl (Sum.inl false))
 else
 bif decide (t8 ≥ jU) then
 some (Sum.inl (Sum.inl false))
 else
 bif decide (s7 > 0) then
(aL lF (qq .i64 s7 1)).bind fun t9 =>
 bif decide (t8 ≤ t9) then
 some (Sum.inl (Sum.inl false))
 else
 some (Sum.inr (aN .i64 s7 1))
 else
 some (Sum.inr (aN .i64 s7 1))
 else
 some (Sum.inl (Sum.inr (())))
def ec (lF : (List Int)) (jU : Int) : Option (Bool) :=
(aI (iJ lF jU) 0).bind (eH (fun a : Bool => some a) fun Ox : Unit =>
 some true)
def sS : bI := ⟨[(.sl (.int .i64)), (.int .i64)], [.bool], fun (a : (List Int) × Int) => ec a.1 a.2, [(false, [.d 0 0]), (false, [.d 1 0])], [], [(false, [.d 0 0])], [], 0, 0⟩
def B2 : Hints := ⟨[(0, ⟨[], ⟨[(.int .i64)], [(0, none), (1, none), (4, none), (7, none), (8, none), (9, some (false, [.d 0 0]))], [], 0⟩, [], some ([], ⟨[], [(4, none)], [], 0⟩), true, none⟩)], [], [], [], []⟩
theorem AO [aq] : aG prog 39 sS := au (H := B2) (fin := []) Tryz.func39 Tryz.call39 (aD (l := []) trivial) rfl rfl rfl (fun a => by kernel_rfl)
def dF (aW : af) (s_1 : (List Int)) (bu : Int) : Option (Int) :=
(b_ aW).bind fun e2 =>
 bif (e2 : Int) != 0 then
 some e2
 else
 dx (fun j4 : Bool =>
 bif j4 then
 some 4
 else
(ec s_1 aW.N).bind fun t5 =>
 bif !t5 then
 some 1
 else
 some 0) fun k3 =>
 bif (bu : Int) != 1 then
 k3 ((bu : Int) != 2)
 else
 k3 false
def mR : bI := ⟨[(.st 2), (.sl (.int .i64)), (.int .i64)], [(.int .i64)], fun (a : af × (List Int) × Int) => dF a.1 a.2.1 a.2.2, [(true, [.d 0 0, .d 0 1]), (false, [.d 1 0]), (false, [.d 2 0])], [], [(false, [.d 0 0])], [], 0, 0⟩
def Cn : Hints := ⟨[], [(12, ([], ⟨[.bool], [(1, none), (3, none), (6, none), (13, some (false, [.d 0 0]))], [.keep], 0⟩))], [], [], []⟩
theorem rW [aq] : aG prog 16 mR := au (H := Cn) (fin := []) Tryz.func16 Tryz.call16 (aD (l := [(19, gG), (39, sS)]) ⟨fI, AO, trivial⟩) rfl rfl rfl (fun a => by kernel_rfl)
def eM (aW : af) (s_1 : (List Int)) (bu : Int) : Option (Bool) :=
 bif ((s_1.length : Int) : Int) == 0 then
 bif (bu : Int) == 2 then
 some (decide (aW.N > 0))
 else
 some false
 else
 some false
def tZ : bI := ⟨[(.st 2), (.sl (.int .i64)), (.int .i64)], [.bool], fun (a : af × (List Int) × Int) => eM a.1 a.2.1 a.2.2, [(true, [.d 0 0, .d 0 1]), (false, [.d 1 0]), (false, [.d 2 0])], [], [(false, [.d 0 0])], [], 0, 0⟩
def Di : Hints := ⟨[], [], [], [], []⟩
theorem Cm [aq] : aG prog 17 tZ := au (H := Di) (fin := []) Tryz.func17 Tryz.call17 (aD (l := []) trivial) rfl rfl rfl (fun a => by kernel_rfl)
def eB (aW : af) (s_1 : (List Int)) (bu : Int) : Option (aJ × Int) :=
(dF aW s_1 bu).bind fun e2 =>
 bif (e2 : Int) != 0 then
 some (((aJ.mk [] [] []), e2))
 else
(eM aW s_1 bu).bind fun t3 =>
 bif t3 then
 some (((aJ.mk [] [] []), 9))
 else
(fN aW s_1 bu).bind fun t4 =>
 some ((t4, 0))
def p_ : bI := ⟨[(.st 2), (.sl (.int .i64)), (.int .i64)], [(.st 4), (.int .i64)], fun (a : af × (List Int) × Int) => eB a.1 a.2.1 a.2.2, [(true, [.d 0 0, .d 0 1]), (false, [.d 1 0]), (false, [.d 2 0])], [], [(true, [.d 0 0, .d 0 1, .d 0 2]), (false, [.d 1 0])], [], 0, 0⟩
def FC : Hints := ⟨[], [], [], [], []⟩
theorem vK : aG prog 7 p_ := au (H := FC) (fin := []) Tryz.func7 Tryz.call7 (aD (l := [(16, mR), (17, tZ), (18, wN)]) ⟨rW, Cm, Et, trivial⟩) rfl rfl rfl (fun a => by kernel_rfl)
theorem tv : Hr prog 55 ak 16 := ⟨⟨_, Tryz.type55, rfl, rfl, _, rfl, rfl⟩, Tryz.isAgg55, by decide, by decide⟩
theorem Yw : ∃ i z, prog.info? 27 = some i ∧ i.zero = some z ∧ ∀ F w, bZ F w [iv .i64 0, pv (.slice none 0 0)] z.cells.toList := ⟨_, _, Tryz.type27, rfl, fun _ _ => ⟨rfl, rfl, trivial⟩⟩
theorem LM : ∃ i z, prog.info? 55 = some i ∧ i.zero = some z ∧ ∀ F w, bZ F w [iv .i64 0, iv .i64 0] z.cells.toList := ⟨_, _, Tryz.type55, rfl, fun _ _ => ⟨rfl, rfl, trivial⟩⟩
theorem ZW : ∃ zv, (∀ w, (zeroValue 4).run prog w = .ok zv w) ∧ ∀ F w, (sh rB false).h F w zv := ⟨_, fun w => by simp [zeroValue, typeInfo, Tryz.type4]; rfl, fun _ _ => by first | exact rfl | exact ⟨_, rfl, ⟨rfl, trivial⟩⟩⟩
theorem Gp : StT prog 27 2 [(0, 1), (1, 1)] := ⟨_, Tryz.underlying27, ⟨_, _, Tryz.type27, rfl, rfl⟩, fun w => by simp⟩
theorem Gj : ∀ i z, prog.info? 27 = some i → i.zero = some z → ∀ F w, bZ F w [iv .i64 0, pv (.slice none 0 0)] z.cells.toList := by
 intro i z hi hz F w
 have h1 : some i = some Tryz.t27 := hi.symm.trans Tryz.type27
 cases h1; cases hz
 exact ⟨rfl, rfl, trivial⟩
theorem eqo_55 : EqT prog 55 ak := Uy Tryz.underlying55 (by kernel_rfl) (by kernel_rfl) fun x y F w cs ds h1 h2 => by
 match cs, ds, h1, h2 with
 | [_, _], [_, _], ⟨e0, e1, _⟩, ⟨f0, f1, _⟩ =>
  cases e0; cases e1; cases f0; cases f1
  exact ⟨_, ⟨⟨by decide, rfl, Tryz.isAgg3⟩, _, _, .int Tryz.underlying3, ⟨⟨by decide, rfl, Tryz.isAgg3⟩, _, _, .int Tryz.underlying3, rfl, rfl⟩, rfl⟩, by cases x; cases y; rw [Bool.eq_iff_iff]; simp⟩
theorem B7 : S5 prog 55 ak where
 check := fun x F w v h e w' => by
  obtain ⟨cs, hcs, rfl⟩ := xK.1 h
  match cs, hcs with
  | [_, _], ⟨e0, e1, _⟩ =>
   cases e0; cases e1
   have k0 : ∀ w b, (Instr.checkKey e 9999 3 (.int .i64 b)).run prog w = .ok () w := fun w b => MapKept.run_checkKey (n := 9998) Tryz.underlying3 (k := .int .i64 b) (show MapKept.IsKey (.int .i64) (.int .i64 b) from (by first | trivial | rfl)) e
   show (Instr.checkKey e (9999 + 1) 55 _).run prog w' = _
   rw [Instr.checkKey]
   generalize (9999 : Nat) = n at k0
   simp [ak, Zt, Z4, run_underlying Tryz.underlying55, part, Tryz.isAgg3, k0]
 eq := fun x y F w u v h1 h2 w' => by
  obtain ⟨cs, hcs, rfl⟩ := xK.1 h1
  obtain ⟨ds, hds, rfl⟩ := xK.1 h2
  exact eqo_55.run x y F w cs.toArray ds.toArray (by simpa using hcs) (by simpa using hds) w'
 stay := fun x F w u v h1 h2 => by
  obtain ⟨cs, hcs, rfl⟩ := xK.1 h1
  obtain ⟨ds, hds, rfl⟩ := xK.1 h2
  match cs, ds, hcs, hds with
  | [_, _], [_, _], ⟨e0, e1, _⟩, ⟨f0, f1, _⟩ =>
   cases e0; cases e1; cases f0; cases f1
   simp [ak, Zt, Z4, Instr.sameBits, MapKept.bytes_beq]
 now := fun k hk u v r h w' => by
  rw [Tryz.underlying55] at hk; cases hk
  cases u <;> cases v <;> simp [Instr.sameNow] at h
 und := ⟨_, Tryz.underlying55⟩
theorem Fo [aq] {aW : af} {r : Int} (hm : b_ aW = some r) :
  gw prog 19 [ag [iv .i64 aW.N, eN ak aW.L]] [] (fun (x : Unit) => [iv .i64 r]) (fun (x : Unit) => []) := (fI.2 aW r hm (fun _ => ⟨.bool true, [], 0, rfl⟩)).re fun x F w hx => ⟨(), rfl, rfl⟩
theorem Eu [aq] {a__0 : ah} {b_1 : ah} {r : Int} (hm : bN a__0 b_1 = some r) :
  gw prog 21 [ag [iv .i64 a__0.bw, iv .i64 a__0.To], ag [iv .i64 b_1.bw, iv .i64 b_1.To]] [] (fun (x : Unit) => [iv .i64 r]) (fun (x : Unit) => []) := (rq.2 (a__0, b_1) r hm (fun _ => ⟨.bool true, [], 0, rfl⟩)).re fun x F w hx => ⟨(), rfl, rfl⟩
def Uz (x : ah) : List Value := [.int .i64 x.bw, .int .i64 x.To]
theorem Sr : EncT ak Uz 2 where
 size := rfl
 pos := by decide
 agg := rfl
 len := fun x => rfl
 one := fun x v hv => by simp only [Uz, List.mem_cons, List.not_mem_nil, or_false] at hv; rcases hv with rfl | rfl <;> rfl
 to := fun x F w cs h => by
  match cs, h with
  | [v0, v1], ⟨h0, h1, _⟩ => cases (show v0 = .int .i64 x.bw from h0); cases (show v1 = .int .i64 x.To from h1); rfl
 of := fun x F w => ⟨rfl, rfl, trivial⟩
instance : Inhabited ah := ⟨(ah.mk 0 0)⟩
theorem iL [aq] {bO r : List ah} (hm : gX bN bO = some r) {tG : Value × List Nat} :
  gw prog 20 [pv tG.1, pv (.func (.func 21) #[] #[])] [oa ak tG.1 tG.2 bO] (fun _ : Unit => []) (fun _ : Unit => [oa ak tG.1 tG.2 r]) :=
 L2 Sr (X := Unit) (fun x y r h => @Eu u7 _ _ _ h)
  (fun hO blk off cap d w hc hH hb hs hT => AnyQ.slices_SortFunc_total Jl 2 Tryz.isAgg55 Tryz.sizeOf55 Uz (fun _ => rfl) Sr.one _ hO 21 #[] blk off cap d w (enters_of Tryz.func21 (by kernel_rfl) rfl) hc hH hb hs hT)
  (fun p cap fv w => AnyF.slices_SortFunc_none Jl p cap fv w) hm
def i_ (aW : af) (eZ : Int × (List (ah × Bool))) : Option (Sum ((List (ah × Bool))) (Int × (List (ah × Bool)))) :=
 bif decide (eZ.1 < (aW.L.length : Int)) then
  (aL aW.L eZ.1).bind fun t19 =>
  some (Sum.inr (aN .i64 eZ.1 1, iq eZ.2 t19 true))
 else
  some (Sum.inl eZ.2)
def iZ (aW : af) (l_1 : (List ah)) (Oo : Int) : Option (Sum ((Sum (af × Int) (Unit))) (Int)) :=
 bif decide (Oo < (l_1.length : Int)) then
  (aL l_1 Oo).bind fun t32 =>
  bif decide (t32.bw < 0) then
   some (Sum.inl (Sum.inl ((af.mk 0 []), 1)))
  else
   bif decide (t32.bw ≥ aW.N) then
    some (Sum.inl (Sum.inl ((af.mk 0 []), 1)))
   else
    bif decide (t32.To < 0) then
     some (Sum.inl (Sum.inl ((af.mk 0 []), 1)))
    else
     bif decide (t32.To ≥ aW.N) then
      some (Sum.inl (Sum.inl ((af.mk 0 []), 1)))
     else
      some (Sum.inr (aN .i64 Oo 1))
 else
  some (Sum.inl (Sum.inr ()))
def fO (l_1 : (List ah)) (Om : Int × (List (ah × Bool)) × (List (ah × Bool))) : Option (Sum ((Sum (af × Int) ((List (ah × Bool))))) (Int × (List (ah × Bool)) × (List (ah × Bool)))) :=
 bif decide (Om.1 < (l_1.length : Int)) then
  (aL l_1 Om.1).bind fun t53 =>
  bif (cF Om.2.2 t53 false) then
   some (Sum.inl (Sum.inl ((af.mk 0 []), 5)))
  else
   some (Sum.inr (aN .i64 Om.1 1, iq Om.2.1 t53 (!(cF Om.2.1 t53 false)), iq Om.2.2 t53 true))
 else
  some (Sum.inl (Sum.inr Om.2.1))
def cr  (s72 : (List ah)) (Vq : ah × Bool) : Option ((List ah)) :=
 bif Vq.2 then
  (dh 16 s72 [Vq.1]).bind fun t76 =>
  some t76
 else
  some s72
def eY (aW : af) (l_1 : (List ah)) : Option (af × Int) :=
 (b_ aW).bind fun e3 =>
 bif e3 != 0 then
  some ((af.mk 0 []), e3)
 else
  (aI (i_ aW) (0, [])).bind fun Vr : (List (ah × Bool)) =>
  (aI (iZ aW l_1) 0).bind (eH (fun a : af × Int => some a) fun q35 : Unit =>
   (aI (fO l_1) (0, Vr, [])).bind (eH (fun a : af × Int => some a) fun Zu : (List (ah × Bool)) =>
    TB Zu (cr) [] fun q78 : (List ah) =>
    ((gX bN) q78).bind fun t79 =>
    some ((af.mk aW.N t79), 0)))
theorem FB [aq] {aW : af} {l_1 : (List ah)} {r : af × Int} (hm : eY aW l_1 = some r) :
  gw prog 8 [ag [iv .i64 aW.N, eN ak aW.L], eN ak l_1] [] (fun (x : Unit) => [ag [iv .i64 r.1.N, eN ak r.1.L], iv .i64 r.2]) (fun (x : Unit) => []) := by
 refine A6 (fn := Tryz.f8) (N := 106) (res := fun r x => [ag [iv .i64 r.1.N, eN ak r.1.L], iv .i64 r.2]) (lB := fun r x => []) Tryz.func8 rfl rfl hm rfl (fun E hM => ?_)
 unfold eY
 refine aF (az (mz (L9 (fc (fQ := [iv .i64 aW.N, eN ak aW.L]) rfl ⟨.inl jy, .inl Jm, trivial⟩)) rfl (fun b1 => mz (uS Yw) rfl (fun b2 => Ad rfl rfl (bg (aH (aF (aF (az (br (iT Tryz.isAgg27 Tryz.sizeOf27 rfl (j := 0) rfl rfl rfl) rfl (pull fun e3 h_e3 => ?_)))))))))))
 refine mz (s_call (ψ := fun (_ : Unit) => iv .i64 e3) (args := [.tmp 18]) Tryz.call19 rfl (Fo h_e3) ⟨arg rfl, trivial⟩ (fun _ _ _ _ h => h)) rfl (fun _ => Ad rfl rfl (bg (aH (aF (az (tC rfl rfl (br (Zo rfl rfl) rfl (bg (aH ?_)))))))))
 refine e7 rfl (fun hb4 => ?_) (fun hb4 => ?_)
 ·refine aF (az ?_)
  refine br (zf (ps := []) (rs := []) Gp Gj trivial rfl rfl) rfl (tC rfl rfl (tN (gm (out := [iv .i64 0, pv (.slice none 0 0)]) Tryz.sizeOf27 rfl (j := 1) rfl (fc (fQ := [iv .i64 0, pv (.slice none 0 0)]) rfl ⟨.inl jy, .inl (lN rfl), trivial⟩) rfl rfl rfl) (fun _ => Ad rfl rfl (bg (pE (nrm [oc b1 [iv .i64 aW.N, eN ak aW.L], oc b2 [iv .i64 0, pv (.slice none 0 0)]] rfl) (aH (d_ (fG ?_))))))))
  refine pE (ocW 1 [iv .i64 0, eN ak []] rfl ⟨E2, BX, trivial⟩) ?_
  exact Uw (.inl rfl) () [] rfl trivial rfl (ze rfl (j := 1) rfl Tryz.isAgg27 Tryz.sizeOf27 rfl rfl) (gA rfl)
 refine dS (aH (aF (az (mz (Lu ak rB) rfl (fun b5 => Ad rfl rfl (bg (pE (nrm [oc b1 [iv .i64 aW.N, eN ak aW.L], oc b2 [iv .i64 0, pv (.slice none 0 0)], om ak rB b5 []] rfl) (aH (aF (aF (az (br (kF (fo := 1) Tryz.underlying27 rfl rfl Tryz.sizeOf25 rfl) rfl ?_))))))))))))
 refine br (iD Tryz.isAgg25 rfl (j := 0) rfl rfl) rfl (br (DI Tryz.underlying25 rfl) rfl (tC rfl rfl (bg (aH ?_))))
 refine Ot (f := (i_ aW)) (r_ := (fun (eZ : Int × (List (ah × Bool))) (x17 : Unit) => [(1, eN ak l_1), (2, pv (ptr b1 0)), (4, pv (ptr b2 0)), (7, pv (.map (some b5))), (26, eN ak aW.L), (27, iv .i64 (aW.L.length : Int)), (28, iv .i64 eZ.1)])) (r9 := (fun (eZ : Int × (List (ah × Bool))) (x17 : Unit) => [oc b1 [iv .i64 aW.N, eN ak aW.L], oc b2 [iv .i64 0, pv (.slice none 0 0)], om ak rB b5 eZ.2])) (CS := (fun (Vr : (List (ah × Bool))) (y22 : Unit) => [(1, eN ak l_1), (2, pv (ptr b1 0)), (4, pv (ptr b2 0)), (7, pv (.map (some b5)))])) (CR := (fun (Vr : (List (ah × Bool))) (y22 : Unit) => [oc b1 [iv .i64 aW.N, eN ak aW.L], oc b2 [iv .i64 0, pv (.slice none 0 0)], om ak rB b5 Vr])) (0, []) () (weak [0, 1, 2] ⟨rfl, rfl, rfl, rfl, rfl, rfl, rfl, trivial⟩ ⟨rfl, rfl, rfl, trivial⟩) (fun eZ x17 => ?_) (fun Vr y22 => ?_)
 ·unfold i_
  refine aF (az (br (Cw rfl rfl) rfl (bg (aH (aF ?_)))))
  refine e7 rfl (fun hb18 => ?_) (fun hb18 => ?_)
  ·refine dS (aH (aF (gB (aF (az ?_)))))
   refine pull fun t19 h_t19 => br (w6 h_t19 Tryz.underlying25 tv rfl rfl) rfl (br (BP tv rfl) rfl (mz (uS LM) rfl (fun b20 => tN (gm (out := [iv .i64 t19.bw, iv .i64 t19.To]) Tryz.sizeOf55 rfl (j := 3) rfl (fc (fQ := [iv .i64 t19.bw, iv .i64 t19.To]) rfl ⟨.inl jy, .inl jy, trivial⟩) rfl rfl rfl) (fun _ => bg (aH (az (tC rfl rfl ?_)))))))
   refine br (iT Tryz.isAgg55 Tryz.sizeOf55 rfl (j := 3) rfl rfl rfl) rfl (tN (L8 (x := t19) (y := true) Tryz.underlying60 B7 rfl (j := 2) rfl rfl rfl) (fun _ => bg (qC (aH (az (br (F5 rfl rfl) rfl (tC rfl rfl (bg ?_))))))))
   exact goB () (weak [0, 1, 2] ⟨rfl, rfl, rfl, rfl, rfl, rfl, rfl, trivial⟩ ⟨rfl, rfl, rfl, trivial⟩)
  refine ot (vT ?_)
  exact brkB () (weak [0, 1, 2] ⟨rfl, rfl, rfl, rfl, trivial⟩ ⟨rfl, rfl, rfl, trivial⟩)
 refine aH (aF (aF (az (tC rfl rfl (br (DI Tryz.underlying25 rfl) rfl (tC rfl rfl (bg (aH ?_))))))))
 refine nC (f := (iZ aW l_1)) (r_ := (fun (Oo : Int) (x30 : Unit) => [(1, eN ak l_1), (2, pv (ptr b1 0)), (4, pv (ptr b2 0)), (7, pv (.map (some b5))), (35, eN ak l_1), (36, iv .i64 (l_1.length : Int)), (37, iv .i64 Oo)])) (r9 := (fun (Oo : Int) (x30 : Unit) => [oc b1 [iv .i64 aW.N, eN ak aW.L], oc b2 [iv .i64 0, pv (.slice none 0 0)], om ak rB b5 Vr])) (CS := (fun (q35 : Unit) (y36 : Unit) => [(1, eN ak l_1), (2, pv (ptr b1 0)), (4, pv (ptr b2 0)), (7, pv (.map (some b5)))])) (CR := (fun (q35 : Unit) (y36 : Unit) => [oc b1 [iv .i64 aW.N, eN ak aW.L], oc b2 [iv .i64 0, pv (.slice none 0 0)], om ak rB b5 Vr])) (kr := (fun a : af × Int => some a)) 0 () (weak [0, 1, 2] ⟨rfl, rfl, rfl, rfl, rfl, rfl, rfl, trivial⟩ ⟨rfl, rfl, rfl, trivial⟩) (fun Oo x30 => ?_) (fun q35 y36 => ?_)
 ·unfold iZ
  refine aF (az (br (Cw rfl rfl) rfl (bg (aH (aF ?_)))))
  refine e7 rfl (fun hb31 => ?_) (fun hb31 => ?_)
  ·refine dS (aH (aF (gB (aF (az ?_)))))
   refine pull fun t32 h_t32 => br (w6 h_t32 Tryz.underlying25 tv rfl rfl) rfl (br (BP tv rfl) rfl (mz (uS LM) rfl (fun b33 => tN (gm (out := [iv .i64 t32.bw, iv .i64 t32.To]) Tryz.sizeOf55 rfl (j := 3) rfl (fc (fQ := [iv .i64 t32.bw, iv .i64 t32.To]) rfl ⟨.inl jy, .inl jy, trivial⟩) rfl rfl rfl) (fun _ => bg (aH (aF (az (br (kF (fo := 0) Tryz.underlying55 rfl rfl Tryz.sizeOf3 rfl) rfl ?_))))))))
   refine br (iD Tryz.isAgg3 rfl (j := 3) rfl rfl) rfl (br (Cw rfl rfl) rfl (tC rfl rfl ?_))
   refine E7 (t := 44) rfl (fun _ => ?_) (fun _ => ?_)
   ·refine kE rfl rfl rfl rfl rfl ?_
    refine kE rfl rfl rfl rfl rfl (kE rfl rfl rfl rfl rfl (kE rfl rfl rfl rfl rfl (kE rfl rfl rfl rfl rfl (br (BO rfl rfl) rfl (tC rfl rfl (kE rfl rfl rfl rfl rfl ?_))))))
    refine kE rfl rfl rfl rfl rfl (kE rfl rfl rfl rfl rfl (br (BO rfl rfl) rfl (tC rfl rfl (kE rfl rfl rfl rfl rfl (kE rfl rfl rfl rfl rfl (kE rfl rfl rfl rfl rfl ?_))))))
    refine kE rfl rfl rfl rfl rfl (kE rfl rfl rfl rfl rfl (br (BO rfl rfl) rfl (bg (aH (xB rfl rfl (aF (az (br (zf (ps := []) (rs := []) Gp Gj trivial rfl rfl) rfl ?_))))))))
    refine tN (gm (out := [iv .i64 0, pv (.slice none 0 0)]) Tryz.sizeOf27 rfl (j := 1) rfl (fc (fQ := [iv .i64 0, pv (.slice none 0 0)]) rfl ⟨.inl jy, .inl (lN rfl), trivial⟩) rfl rfl rfl) (fun _ => Ad rfl rfl (bg (aH (d_ (eG (fG ?_))))))
    refine Jq ?_
    refine eG (fG (pE (ocW 1 [iv .i64 0, eN ak []] rfl ⟨E2, BX, trivial⟩) ?_))
    exact Uw (.inl rfl) () [] rfl trivial rfl (ze rfl (j := 1) rfl Tryz.isAgg27 Tryz.sizeOf27 rfl rfl) (gA rfl)
   refine s_on rfl rfl rfl (br (kF (fo := 0) Tryz.underlying55 rfl rfl Tryz.sizeOf3 rfl) rfl (s_on rfl rfl rfl (br (iD Tryz.isAgg3 rfl (j := 3) rfl rfl) rfl (s_on rfl rfl rfl (br (kF (fo := 0) Tryz.underlying27 rfl rfl Tryz.sizeOf3 rfl) rfl (s_on rfl rfl rfl ?_))))))
   refine br (iD Tryz.isAgg3 rfl (j := 0) rfl rfl) rfl (s_on rfl rfl rfl (br (Ow rfl rfl) rfl (br (Lv rfl rfl) rfl (tC rfl rfl ?_))))
   refine E7 (t := 51) rfl (fun _ => ?_) (fun _ => ?_)
   ·refine kE rfl rfl rfl rfl rfl ?_
    refine kE rfl rfl rfl rfl rfl (kE rfl rfl rfl rfl rfl (br (BO rfl rfl) rfl (tC rfl rfl (kE rfl rfl rfl rfl rfl (kE rfl rfl rfl rfl rfl (kE rfl rfl rfl rfl rfl ?_))))))
    refine kE rfl rfl rfl rfl rfl (kE rfl rfl rfl rfl rfl (br (BO rfl rfl) rfl (bg (aH (xB rfl rfl (aF (az (br (zf (ps := []) (rs := []) Gp Gj trivial rfl rfl) rfl ?_))))))))
    refine tN (gm (out := [iv .i64 0, pv (.slice none 0 0)]) Tryz.sizeOf27 rfl (j := 1) rfl (fc (fQ := [iv .i64 0, pv (.slice none 0 0)]) rfl ⟨.inl jy, .inl (lN rfl), trivial⟩) rfl rfl rfl) (fun _ => Ad rfl rfl (bg (aH (d_ (eG (fG ?_))))))
    refine Jq ?_
    refine eG (fG (pE (ocW 1 [iv .i64 0, eN ak []] rfl ⟨E2, BX, trivial⟩) ?_))
    exact Uw (.inl rfl) () [] rfl trivial rfl (ze rfl (j := 1) rfl Tryz.isAgg27 Tryz.sizeOf27 rfl rfl) (gA rfl)
   refine s_on rfl rfl rfl (br (kF (fo := 1) Tryz.underlying55 rfl rfl Tryz.sizeOf3 rfl) rfl (s_on rfl rfl rfl (br (iD Tryz.isAgg3 rfl (j := 3) rfl rfl) rfl (s_on rfl rfl rfl (br (Cw rfl rfl) rfl (br (Lv rfl rfl) rfl ?_))))))
   refine tC rfl rfl ?_
   refine E7 (t := 56) rfl (fun _ => ?_) (fun _ => ?_)
   ·refine kE rfl rfl rfl rfl rfl ?_
    refine kE rfl rfl rfl rfl rfl (kE rfl rfl rfl rfl rfl (kE rfl rfl rfl rfl rfl (kE rfl rfl rfl rfl rfl (br (BO rfl rfl) rfl (bg (aH (xB rfl rfl ?_)))))))
    refine aF (az (br (zf (ps := []) (rs := []) Gp Gj trivial rfl rfl) rfl (tN (gm (out := [iv .i64 0, pv (.slice none 0 0)]) Tryz.sizeOf27 rfl (j := 1) rfl (fc (fQ := [iv .i64 0, pv (.slice none 0 0)]) rfl ⟨.inl jy, .inl (lN rfl), trivial⟩) rfl rfl rfl) (fun _ => Ad rfl rfl (bg (aH (d_ (eG (fG ?_)))))))))
    refine Jq ?_
    refine eG (fG (pE (ocW 1 [iv .i64 0, eN ak []] rfl ⟨E2, BX, trivial⟩) ?_))
    exact Uw (.inl rfl) () [] rfl trivial rfl (ze rfl (j := 1) rfl Tryz.isAgg27 Tryz.sizeOf27 rfl rfl) (gA rfl)
   refine s_on rfl rfl rfl (br (kF (fo := 1) Tryz.underlying55 rfl rfl Tryz.sizeOf3 rfl) rfl (s_on rfl rfl rfl (br (iD Tryz.isAgg3 rfl (j := 3) rfl rfl) rfl (s_on rfl rfl rfl (br (kF (fo := 0) Tryz.underlying27 rfl rfl Tryz.sizeOf3 rfl) rfl (s_on rfl rfl rfl ?_))))))
   refine br (iD Tryz.isAgg3 rfl (j := 0) rfl rfl) rfl (s_on rfl rfl rfl (br (Ow rfl rfl) rfl (br (Lv rfl rfl) rfl (bg (aH ?_)))))
   refine e7 rfl (fun hb34 => ?_) (fun hb34 => ?_)
   ·refine aF (az ?_)
    refine br (zf (ps := []) (rs := []) Gp Gj trivial rfl rfl) rfl (tN (gm (out := [iv .i64 0, pv (.slice none 0 0)]) Tryz.sizeOf27 rfl (j := 1) rfl (fc (fQ := [iv .i64 0, pv (.slice none 0 0)]) rfl ⟨.inl jy, .inl (lN rfl), trivial⟩) rfl rfl rfl) (fun _ => Ad rfl rfl (bg (aH (d_ (eG (fG ?_)))))))
    refine Jq ?_
    refine eG (fG (pE (ocW 1 [iv .i64 0, eN ak []] rfl ⟨E2, BX, trivial⟩) ?_))
    exact Uw (.inl rfl) () [] rfl trivial rfl (ze rfl (j := 1) rfl Tryz.isAgg27 Tryz.sizeOf27 rfl rfl) (gA rfl)
   refine dS (qC (aH (az (br (F5 rfl rfl) rfl (tC rfl rfl (bg ?_))))))
   exact goX () (weak [0, 1, 2] ⟨rfl, rfl, rfl, rfl, rfl, rfl, rfl, trivial⟩ ⟨rfl, rfl, rfl, trivial⟩)
  refine ot (vT ?_)
  exact N6 () (weak [0, 1, 2] ⟨rfl, rfl, rfl, rfl, trivial⟩ ⟨rfl, rfl, rfl, trivial⟩)
 refine aH (aF (az (mz (Lu ak rB) rfl (fun b37 => Ad rfl rfl (bg (aH (aF (aF (az (tC rfl rfl (br (DI Tryz.underlying25 rfl) rfl (tC rfl rfl ?_))))))))))))
 refine bg (aH ?_)
 refine nC (f := (fO l_1)) (r_ := (fun (Om : Int × (List (ah × Bool)) × (List (ah × Bool))) (x51 : Unit) => [(2, pv (ptr b1 0)), (4, pv (ptr b2 0)), (7, pv (.map (some b5))), (12, pv (.map (some b37))), (66, eN ak l_1), (67, iv .i64 (l_1.length : Int)), (68, iv .i64 Om.1)])) (r9 := (fun (Om : Int × (List (ah × Bool)) × (List (ah × Bool))) (x51 : Unit) => [oc b1 [iv .i64 aW.N, eN ak aW.L], oc b2 [iv .i64 0, pv (.slice none 0 0)], om ak rB b5 Om.2.1, om ak rB b37 Om.2.2])) (CS := (fun (Zu : (List (ah × Bool))) (y57 : Unit) => [(2, pv (ptr b1 0)), (4, pv (ptr b2 0)), (7, pv (.map (some b5)))])) (CR := (fun (Zu : (List (ah × Bool))) (y57 : Unit) => [oc b1 [iv .i64 aW.N, eN ak aW.L], oc b2 [iv .i64 0, pv (.slice none 0 0)], om ak rB b5 Zu])) (kr := (fun a : af × Int => some a)) (0, Vr, []) () (weak [0, 1, 2, 3] ⟨rfl, rfl, rfl, rfl, rfl, rfl, rfl, trivial⟩ ⟨rfl, rfl, rfl, rfl, trivial⟩) (fun Om x51 => ?_) (fun Zu y57 => ?_)
 ·unfold fO
  refine aF (az (br (Cw rfl rfl) rfl (bg (aH (aF ?_)))))
  refine e7 rfl (fun hb52 => ?_) (fun hb52 => ?_)
  ·refine dS (aH (aF (gB (aF (az ?_)))))
   refine pull fun t53 h_t53 => br (w6 h_t53 Tryz.underlying25 tv rfl rfl) rfl (br (BP tv rfl) rfl (mz (uS LM) rfl (fun b54 => tN (gm (out := [iv .i64 t53.bw, iv .i64 t53.To]) Tryz.sizeOf55 rfl (j := 4) rfl (fc (fQ := [iv .i64 t53.bw, iv .i64 t53.To]) rfl ⟨.inl jy, .inl jy, trivial⟩) rfl rfl rfl) (fun _ => bg (aH (aF (aF (az (tC rfl rfl ?_)))))))))
   refine br (iT Tryz.isAgg55 Tryz.sizeOf55 rfl (j := 4) rfl rfl rfl) rfl (br (PR (x := t53) (z := false) Tryz.underlying60 B7 ZW rfl (j := 3) rfl rfl) rfl (bg (aH ?_)))
   refine e7 rfl (fun hb55 => ?_) (fun hb55 => ?_)
   ·refine aF (az ?_)
    refine br (zf (ps := []) (rs := []) Gp Gj trivial rfl rfl) rfl (tN (gm (out := [iv .i64 0, pv (.slice none 0 0)]) Tryz.sizeOf27 rfl (j := 1) rfl (fc (fQ := [iv .i64 0, pv (.slice none 0 0)]) rfl ⟨.inl jy, .inl (lN rfl), trivial⟩) rfl rfl rfl) (fun _ => Ad rfl rfl (bg (pE (nrm [oc b1 [iv .i64 aW.N, eN ak aW.L], oc b2 [iv .i64 0, pv (.slice none 0 0)], om ak rB b5 Om.2.1, om ak rB b37 Om.2.2, oc b54 [iv .i64 t53.bw, iv .i64 t53.To]] rfl) (aH (d_ (fG (eG (fG ?_)))))))))
    refine Jq ?_
    refine eG (fG (pE (ocW 1 [iv .i64 0, eN ak []] rfl ⟨E2, BX, trivial⟩) ?_))
    exact Uw (.inl rfl) () [] rfl trivial rfl (ze rfl (j := 1) rfl Tryz.isAgg27 Tryz.sizeOf27 rfl rfl) (gA rfl)
   refine dS (aH ?_)
   refine Me [0, 1, 2, 3, 4, 5, 6, 7] rfl (by kernel_rfl) (fun hok => ?_)
   refine Hp (i := 0) hok rfl (by kernel_rfl) rfl (xO rfl) rfl ?_
   refine Hp (i := 1) hok rfl (by kernel_rfl) rfl (iT Tryz.isAgg55 Tryz.sizeOf55 rfl (j := 4) rfl rfl rfl) rfl ?_
   refine Hp (i := 2) hok rfl (by kernel_rfl) rfl (xO rfl) rfl ?_
   refine Hp (i := 3) hok rfl (by kernel_rfl) rfl (iT Tryz.isAgg55 Tryz.sizeOf55 rfl (j := 4) rfl rfl rfl) rfl ?_
   refine Hp (i := 4) hok rfl (by kernel_rfl) rfl (xO rfl) rfl ?_
   refine Hp (i := 5) hok rfl (by kernel_rfl) rfl (iT Tryz.isAgg55 Tryz.sizeOf55 rfl (j := 4) rfl rfl rfl) rfl ?_
   refine Hp (i := 6) hok rfl (by kernel_rfl) rfl (PR (x := t53) (z := false) Tryz.underlying60 B7 ZW rfl (j := 2) rfl rfl) rfl ?_
   refine Hp (i := 7) hok rfl (by kernel_rfl) rfl (Ru rfl) rfl ?_
   refine Km hok 8 [] (by kernel_rfl) ?_ trivial
   refine a_st (i := 8) hok rfl rfl (L8 (x := t53) (y := true) Tryz.underlying60 B7 rfl (j := 3) rfl rfl rfl) (by intro _ h; cases h) (fun _ => ⟨trivial, ⟨trivial, ⟨⟨⟨rfl, rfl⟩, trivial⟩, ⟨trivial, ⟨⟨⟨rfl, rfl⟩, trivial⟩, ⟨trivial, ⟨trivial, ⟨trivial, trivial⟩⟩⟩⟩⟩⟩⟩⟩) (fun _ => ?_)
   refine Km hok 9 [] (by kernel_rfl) ?_ trivial
   refine a_st (i := 9) hok rfl rfl (L8 (x := t53) (y := !(cF Om.2.1 t53 false)) Tryz.underlying60 B7 rfl (j := 2) rfl rfl rfl) (by intro _ h; cases h) (fun _ => ⟨trivial, ⟨trivial, ⟨trivial, ⟨trivial, ⟨trivial, ⟨trivial, ⟨trivial, ⟨trivial, trivial⟩⟩⟩⟩⟩⟩⟩⟩) (fun _ => ?_)
   refine a_fin hok (by kernel_rfl) ?_
   refine pE (nrm [oc b1 [iv .i64 aW.N, eN ak aW.L], oc b2 [iv .i64 0, pv (.slice none 0 0)], om ak rB b5 (iq Om.2.1 t53 (!(cF Om.2.1 t53 false))), om ak rB b37 (iq Om.2.2 t53 true), oc b54 [iv .i64 t53.bw, iv .i64 t53.To]] rfl) (qC (aH (az (br (F5 rfl rfl) rfl (tC rfl rfl (bg ?_))))))
   exact goX () (weak [0, 1, 2, 3] ⟨rfl, rfl, rfl, rfl, rfl, rfl, rfl, trivial⟩ ⟨rfl, rfl, rfl, rfl, trivial⟩)
  refine ot (vT ?_)
  exact N6 () (weak [0, 1, 2] ⟨rfl, rfl, rfl, trivial⟩ ⟨rfl, rfl, rfl, trivial⟩)
 refine aH (aF (az (br (kF (fo := 0) Tryz.underlying27 rfl rfl Tryz.sizeOf3 rfl) rfl (br (iD Tryz.isAgg3 rfl (j := 0) rfl rfl) rfl (br (zf (ps := [(0, .tmp 86)]) (rs := [(0, [iv .i64 aW.N])]) Gp Gj ⟨rfl, (PW rfl jy), trivial⟩ rfl rfl) rfl (mz (uS Yw) rfl (fun b58 => tN (gm (out := [iv .i64 aW.N, pv (.slice none 0 0)]) Tryz.sizeOf27 rfl (j := 3) rfl (fc (fQ := [iv .i64 aW.N, pv (.slice none 0 0)]) rfl ⟨.inl jy, .inl (lN rfl), trivial⟩) rfl rfl rfl) (fun _ => bg (aH (aF (aF (az ?_))))))))))))
 refine tC rfl rfl (mz (s_range Tryz.underlying60 rfl (j := 2) rfl) rfl (fun R1 => bg (aH (pE (LA ak) ?_))))
 refine ref_rng (f := (cr)) (r_ := (fun (s72 : (List ah)) (x72 : (Value × List Nat)) => [(4, pv (ptr b2 0)), (15, pv (ptr b58 0)), (89, pv (ptr R1 0))])) (r9 := (fun (s72 : (List ah)) (x72 : (Value × List Nat)) (NW : List Nat) => [oc b2 [iv .i64 0, pv (.slice none 0 0)], oc b58 [iv .i64 aW.N, pv x72.1], oa ak x72.1 x72.2 s72, JA ak rB b5 R1 Zu NW])) (CS := (fun (q78 : (List ah)) (Tj : (Value × List Nat)) => [(4, pv (ptr b2 0)), (15, pv (ptr b58 0)), (89, pv (ptr R1 0))])) (CR := (fun (q78 : (List ah)) (Tj : (Value × List Nat)) (NW : List Nat) => [oc b2 [iv .i64 0, pv (.slice none 0 0)], oc b58 [iv .i64 aW.N, pv Tj.1], oa ak Tj.1 Tj.2 q78, JA ak rB b5 R1 Zu NW])) [] ((.slice none 0 0), []) (weak [1, 3, 4, 2] ⟨rfl, rfl, rfl, trivial⟩ ⟨rfl, rfl, rfl, rfl, trivial⟩) (fun NW s72 x72 H72 => ?_) (fun q78 Tj NW => ?_)
 ·refine aF (az ?_)
  refine mz (s_next rfl (j := 3) rfl) rfl (fun o73 => br (r_nxt0 rfl) rfl (bg (pE (nrm [oc b2 [iv .i64 0, pv (.slice none 0 0)], oc b58 [iv .i64 aW.N, pv x72.1], oa ak x72.1 x72.2 s72, JA ak rB b5 R1 Zu (ixn NW o73.1)] rfl) (aH (aF ?_)))))
  obtain ⟨_ | ⟨i72, Vq⟩, ho72⟩ := o73
  ·refine Jr rfl rfl (ot (vT ?_))
   exact Zg ho72 x72 (weak [0, 1, 2, 3] ⟨rfl, rfl, rfl, trivial⟩ ⟨rfl, rfl, rfl, rfl, trivial⟩)
  refine xB rfl rfl (dS (aH (Zf H72 ho72.1 ho72.2 ?_)))
  unfold cr
  refine gB (aF (az (br (r_entry (ix := NW) (i := i72) (u := Vq.1) (v := Vq.2) rfl (j := 3) rfl ho72.2) rfl (br (Av rfl rfl) rfl (br (Av rfl rfl) rfl (mz (uS LM) rfl (fun b74 => tN (gm (out := [iv .i64 Vq.1.bw, iv .i64 Vq.1.To]) Tryz.sizeOf55 rfl (j := 4) rfl (fc (fQ := [iv .i64 Vq.1.bw, iv .i64 Vq.1.To]) rfl ⟨.inl jy, .inl jy, trivial⟩) rfl rfl rfl) (fun _ => Ad rfl rfl ?_))))))))
  refine bg (aH (aF (az (tC rfl rfl (bg (aH ?_))))))
  refine e7 rfl (fun hb75 => ?_) (fun hb75 => ?_)
  ·refine az ?_
   refine br (kF (fo := 1) Tryz.underlying27 rfl rfl Tryz.sizeOf25 rfl) rfl (br (iD Tryz.isAgg25 rfl (j := 1) rfl rfl) rfl (br (iT Tryz.isAgg55 Tryz.sizeOf55 rfl (j := 4) rfl rfl rfl) rfl (mz (Rl (xs := [.tmp 98]) (ds := [Vq.1]) Tryz.underlying25 tv rfl (Nat.le_of_ble_eq_true rfl) ⟨(fc (fQ := [iv .i64 Vq.1.bw, iv .i64 Vq.1.To]) rfl ⟨.inl jy, .inl jy, trivial⟩), trivial⟩) rfl (fun _ => pull fun t76 h_t76 => mz (DD h_t76 Tryz.underlying25 tv rfl (j := 2) rfl rfl) rfl (fun o77 => br (kF (fo := 1) Tryz.underlying27 rfl rfl Tryz.sizeOf25 rfl) rfl ?_)))))
   refine tN (gm (out := [iv .i64 aW.N, pv o77.1]) Tryz.sizeOf25 rfl (j := 1) rfl (ZE rfl (j := 2) rfl) rfl rfl rfl) (fun _ => bg (pE (nrm [oc b2 [iv .i64 0, pv (.slice none 0 0)], oc b58 [iv .i64 aW.N, pv o77.1], oa ak o77.1 o77.2 t76, JA ak rB b5 R1 Zu (NW ++ [i72]), oc b74 [iv .i64 Vq.1.bw, iv .i64 Vq.1.To]] rfl) (qC ?_)))
   exact Zh o77 (weak [0, 1, 2, 3] ⟨rfl, rfl, rfl, trivial⟩ ⟨rfl, rfl, rfl, rfl, trivial⟩)
  refine dS (qC ?_)
  exact Zh x72 (weak [0, 1, 2, 3] ⟨rfl, rfl, rfl, trivial⟩ ⟨rfl, rfl, rfl, rfl, trivial⟩)
 refine aH (aF (az (br (kF (fo := 1) Tryz.underlying27 rfl rfl Tryz.sizeOf25 rfl) rfl (br (iD Tryz.isAgg25 rfl (j := 1) rfl rfl) rfl (pull fun t79 h_t79 => mz (zd [2] [true] (fun (_ : Unit) => [oa ak Tj.1 Tj.2 t79]) (fun (_ : Unit) => []) (fun (_ : Unit) => I9 []) (args := [.tmp 103, .func 21]) (caps := []) Tryz.call20 rfl (iL h_t79) ⟨rfl, rfl, trivial⟩ (fun _ => rfl) (fun _ => trivial) (fun _ => rfl) ⟨arg rfl, arg rfl, trivial⟩ (fun _ _ _ _ h => h)) rfl (fun _ => bg (pE (nrm [oc b2 [iv .i64 0, pv (.slice none 0 0)], oc b58 [iv .i64 aW.N, pv Tj.1], oa ak Tj.1 Tj.2 t79, JA ak rB b5 R1 Zu NW] rfl) ?_)))))))
 refine aH (aF (az (br (iT Tryz.isAgg27 Tryz.sizeOf27 rfl (j := 1) rfl rfl rfl) rfl (tN (gm (out := [iv .i64 aW.N, pv Tj.1]) Tryz.sizeOf27 rfl (j := 0) rfl (fc (fQ := [iv .i64 aW.N, pv Tj.1]) rfl ⟨.inl jy, .inr ⟨_, _, _, _, _, 2, rfl, rfl⟩, trivial⟩) rfl rfl rfl) (fun _ => Ad rfl rfl (bg (aH (d_ (pE (frzGL [(103, eN ak t79), (105, ag [iv .i64 aW.N, eN ak t79])] [(0, b2, [iv .i64 aW.N, eN ak t79]), (1, b58, [iv .i64 aW.N, eN ak t79])] (j := 2) rfl ⟨⟨_, rfl, .inl ⟨rfl, rfl⟩⟩, ⟨_, rfl, .inr ⟨_, _, rfl, rfl, ⟨.inl rfl, .inr ⟨rfl, rfl⟩, trivial⟩⟩⟩, trivial⟩ ⟨⟨_, rfl, ⟨.inl rfl, .inr ⟨rfl, rfl⟩, trivial⟩⟩, ⟨_, rfl, ⟨.inl rfl, .inr ⟨rfl, rfl⟩, trivial⟩⟩, trivial⟩) (pE (nrm [oc b2 [iv .i64 aW.N, eN ak t79], oc b58 [iv .i64 aW.N, eN ak t79], dead, JA ak rB b5 R1 Zu NW] rfl) ?_))))))))))
 exact Uw (.inl rfl) () [] rfl trivial rfl (ze rfl (j := 0) rfl Tryz.isAgg27 Tryz.sizeOf27 rfl rfl) (gA rfl)
def uK : bI := ⟨[(.st 2), (.sl (.st 1))], [(.st 2), (.int .i64)], fun (a : af × (List ah)) => eY a.1 a.2, [(true, [.d 0 0, .d 0 1]), (false, [.d 1 0])], [], [(true, [.d 0 0, .d 0 1]), (false, [.d 1 0])], [], 0, 0⟩
theorem zH [aq] : aG prog 8 uK := ⟨Tryz.call8, fun a r h hs => (FB h).re fun x F w _ => ⟨⟨hs, fun i hi => absurd hi (Nat.not_lt_zero i)⟩, rfl, rfl⟩⟩
def eX (cG : av) (s_1 : Int) : Option (Bool) :=
(dn cG s_1).bind fun t1 =>
 some ((cE .u64 t1 s_1 : Int) == 0)
def qT : bI := ⟨[(.st 3), (.int .u64)], [.bool], fun (a : av × Int) => eX a.1 a.2, [(true, [.d 0 0, .d 0 1, .d 0 2]), (false, [.d 1 0])], [], [(false, [.d 0 0])], [], 0, 0⟩
def GK : Hints := ⟨[], [], [], [], []⟩
theorem wG : aG prog 101 qT := au (H := GK) (fin := []) Tryz.func101 Tryz.call101 (aD (l := [(89, iI)]) ⟨jL, trivial⟩) rfl rfl rfl (fun a => by kernel_rfl)
def dr (cG : av) (s_1 : Int) : Option (Bool) :=
(eX cG s_1).bind fun t1 =>
 bif t1 then
(dn cG s_1).bind fun t2 =>
 some ((s_ .u64 (s_ .u64 cG.All s_1) t2 : Int) == 0)
 else
 some false
def oD : bI := ⟨[(.st 3), (.int .u64)], [.bool], fun (a : av × Int) => dr a.1 a.2, [(true, [.d 0 0, .d 0 1, .d 0 2]), (false, [.d 1 0])], [], [(false, [.d 0 0])], [], 0, 0⟩
def D6 : Hints := ⟨[], [], [], [], []⟩
theorem tQ : aG prog 50 oD := au (H := D6) (fin := []) Tryz.func50 Tryz.call50 (aD (l := [(101, qT), (89, iI)]) ⟨wG, jL, trivial⟩) rfl rfl rfl (fun a => by kernel_rfl)
def eP (cG : av) (t1 : ((List Int))) (s8 : Int × Int) : Option (Sum (Int) (Int × Int)) :=
 bif decide (s8.2 < ((t1.length : Int))) then
(aL t1 s8.2).bind fun t9 =>
(aL cG.By t9).bind fun t10 =>
 some (Sum.inr ((Yo .u64 s8.1 t10, aN .i64 s8.2 1)))
 else
 some (Sum.inl s8.1)
def dP (cG : av) (s_1 : Int) : Option (Int) :=
(cQ s_1).bind fun t1 =>
(aI (eP cG t1) ((0, 0))).bind fun q11 : Int =>
 some q11
def rL : bI := ⟨[(.st 3), (.int .u64)], [(.int .u64)], fun (a : av × Int) => dP a.1 a.2, [(true, [.d 0 0, .d 0 1, .d 0 2]), (false, [.d 1 0])], [], [(false, [.d 0 0])], [], 0, 0⟩
def AL : Hints := ⟨[(0, ⟨[], ⟨[(.int .u64), (.int .i64)], [(2, none), (4, none), (5, some (false, [.d 0 0])), (9, none), (10, none), (11, some (false, [.d 1 0]))], [.keep, .keep], 0⟩, [], some ([], ⟨[(.int .u64)], [(4, none), (5, some (false, [.d 0 0]))], [.dead, .dead], 0⟩), false, none⟩)], [], [], [], []⟩
theorem zS : aG prog 102 rL := au (H := AL) (fin := []) Tryz.func102 Tryz.call102 (aD (l := [(82, gE)]) ⟨iV, trivial⟩) rfl rfl rfl (fun a => by kernel_rfl)
def cR (cG : av) (s_1 : Int) : Option (Bool) :=
(eX cG s_1).bind fun t1 =>
 bif t1 then
(dP cG s_1).bind fun t2 =>
(dn cG s_1).bind fun t3 =>
 some ((s_ .u64 t2 t3 : Int) == 0)
 else
 some false
def k8 : bI := ⟨[(.st 3), (.int .u64)], [.bool], fun (a : av × Int) => cR a.1 a.2, [(true, [.d 0 0, .d 0 1, .d 0 2]), (false, [.d 1 0])], [], [(false, [.d 0 0])], [], 0, 0⟩
def zT : Hints := ⟨[], [], [], [], []⟩
theorem pO : aG prog 51 k8 := au (H := zT) (fin := []) Tryz.func51 Tryz.call51 (aD (l := [(101, qT), (102, rL), (89, iI)]) ⟨wG, zS, jL, trivial⟩) rfl rfl rfl (fun a => by kernel_rfl)
def kT (aW : af) (s_1 : (List Int)) (bu : Int) : Option (Bool) :=
(dX aW).bind fun t1 =>
(dW s_1).bind fun in_2 =>
 bif (bu : Int) == 2 then
(dr t1 in_2).bind fun t3 =>
 some t3
 else
(cR t1 in_2).bind fun t4 =>
 some t4
def vJ : bI := ⟨[(.st 2), (.sl (.int .i64)), (.int .i64)], [.bool], fun (a : af × (List Int) × Int) => kT a.1 a.2.1 a.2.2, [(true, [.d 0 0, .d 0 1]), (false, [.d 1 0]), (false, [.d 2 0])], [], [(false, [.d 0 0])], [], 0, 0⟩
def Ev : Hints := ⟨[], [], [], [], []⟩
theorem Dp : aG prog 22 vJ := au (H := Ev) (fin := []) Tryz.func22 Tryz.call22 (aD (l := [(49, uT), (40, nq), (50, oD), (51, k8)]) ⟨xW, o0, tQ, pO, trivial⟩) rfl rfl rfl (fun a => by kernel_rfl)
def zc : List Int := [0, 1, 56, 2, 57, 49, 28, 3, 61, 58, 42, 50, 38, 29, 17, 4, 62, 47, 59, 36, 45, 43, 51, 22, 53, 39, 33, 30, 24, 18, 12, 5, 63, 55, 48, 27, 60, 41, 37, 16, 46, 35, 44, 21, 52, 32, 23, 11, 54, 26, 40, 15, 34, 20, 31, 10, 25, 14, 19, 9, 13, 8, 7, 6]
theorem J6 : Hr prog 25 (wC ak) 24 := ⟨⟨_, Tryz.type25, rfl, rfl, _, rfl, rfl⟩, Tryz.isAgg25, by decide, by decide⟩
theorem zto_25 : ∃ i z, prog.info? 25 = some i ∧ i.zero = some z ∧ ∀ F w, bZ F w [pv (.slice none 0 0)] z.cells.toList := ⟨_, _, Tryz.type25, rfl, fun _ _ => ⟨rfl, trivial⟩⟩
theorem Fz {aW : af} {s_1 : (List Int)} {bu : Int} {r : List (List ah)} (hm : cW aW s_1 bu = some r) :
  gw prog 42 [ag [iv .i64 aW.N, eN ak aW.L], eN (rI .i64) s_1, iv .i64 bu] [Pt (rI .u8) 0 zc] (fun (x : (Value × List Nat)) => [pv x.1]) (fun (x : (Value × List Nat)) => [Pt (rI .u8) 0 zc, oa (wC ak) x.1 x.2 r]) := gw.addTab ((zF.2 (aW, s_1, bu) r hm (fun _ => ⟨.bool true, [], 0, rfl⟩)).re fun x F w hx => ⟨((x.1 0).hv, (x.1 0).S), rfl, rfl⟩)
def cA (bO : (List ah)) (v_1 : ah) (s7 : Int) : Option (Sum ((Sum (Int) (Unit))) (Int)) :=
 bif decide (s7 < (bO.length : Int)) then
  (aL bO s7).bind fun t10 =>
  bif decide (v_1 = t10) then
   some (Sum.inl (Sum.inl s7))
  else
   some (Sum.inr (aN .i64 s7 1))
 else
  some (Sum.inl (Sum.inr ()))
def dy (bO : (List ah)) (v_1 : ah) : Option (Int) :=
 (aI (cA bO v_1) 0).bind (eH (fun a : Int => some a) fun q12 : Unit =>
  some (-1))
theorem qi [aq] {bO : (List ah)} {v_1 : ah} {r : Int} (hm : dy bO v_1 = some r) :
  gw prog 105 [eN ak bO, ag [iv .i64 v_1.bw, iv .i64 v_1.To]] [] (fun (x : Unit) => [iv .i64 r]) (fun (x : Unit) => []) := by
 refine A6 (fn := Tryz.f105) (N := 19) (res := fun r x => [iv .i64 r]) (lB := fun r x => []) Tryz.func105 rfl rfl hm rfl (fun E hM => ?_)
 unfold dy
 refine aF (az (mz (L9 (fc (fQ := [iv .i64 v_1.bw, iv .i64 v_1.To]) rfl ⟨.inl jy, .inl jy, trivial⟩)) rfl (fun b1 => Ad rfl rfl (bg (aH (aF (aF (az (tC rfl rfl (br (DI Tryz.underlying25 rfl) rfl (tC rfl rfl ?_)))))))))))
 refine bg (aH ?_)
 refine nC (f := (cA bO v_1)) (r_ := (fun (s7 : Int) (x8 : Unit) => [(0, eN ak bO), (3, pv (ptr b1 0)), (7, iv .i64 (bO.length : Int)), (8, iv .i64 s7)])) (r9 := (fun (s7 : Int) (x8 : Unit) => [oc b1 [iv .i64 v_1.bw, iv .i64 v_1.To]])) (CS := (fun (q12 : Unit) (y13 : Unit) => [])) (CR := (fun (q12 : Unit) (y13 : Unit) => [])) (kr := (fun a : Int => some a)) 0 () (weak [0] ⟨rfl, rfl, rfl, rfl, trivial⟩ ⟨rfl, trivial⟩) (fun s7 x8 => ?_) (fun q12 y13 => ?_)
 ·unfold cA
  refine aF (az (br (Cw rfl rfl) rfl (bg (aH (aF ?_)))))
  refine e7 rfl (fun hb9 => ?_) (fun hb9 => ?_)
  ·refine dS (aH (aF (gB (aF (az ?_)))))
   refine tC rfl rfl (Ad rfl rfl (bg (aH (aF ?_))))
   refine Me [0, 1, 2, 3, 4, 5] rfl (by kernel_rfl) (fun hok => ?_)
   refine Hp (i := 0) hok rfl (by kernel_rfl) rfl (iT Tryz.isAgg55 Tryz.sizeOf55 rfl (j := 0) rfl rfl rfl) rfl ?_
   refine Hp (i := 1) hok rfl (by kernel_rfl) rfl (xO rfl) rfl ?_
   refine Hp (i := 2) hok rfl (by kernel_rfl) rfl (xO rfl) rfl ?_
   refine pull fun t10 OX => ?_
   refine Hp (i := 3) hok rfl (by kernel_rfl) rfl (w6 OX Tryz.underlying25 tv rfl rfl) rfl ?_
   refine Hp (i := 4) hok rfl (by kernel_rfl) rfl (BP tv rfl) rfl ?_
   refine Hp (i := 5) hok rfl (by kernel_rfl) rfl (PO (u := v_1) (v := t10) eqo_55 rfl rfl rfl rfl) rfl ?_
   refine a_fin hok (by kernel_rfl) ?_
   refine aH ?_
   refine e7 rfl (fun hb11 => ?_) (fun hb11 => ?_)
   ·refine aF (az ?_)
    refine tC rfl rfl (Ad rfl rfl (bg (aH (d_ (eG (fG ?_))))))
    refine Jq ?_
    refine eG (fG ?_)
    exact Cg (.inl rfl) () [] rfl trivial rfl (gA rfl)
   refine dS (qC (aH (az (br (F5 rfl rfl) rfl (tC rfl rfl (bg ?_))))))
   exact goX () (weak [0] ⟨rfl, rfl, rfl, rfl, trivial⟩ ⟨rfl, trivial⟩)
  refine ot (vT ?_)
  exact N6 () (weak [] trivial trivial)
 refine aH (aF (az (Ad rfl rfl (bg (aH (d_ ?_))))))
 exact Cg (.inl rfl) () [] rfl trivial rfl (gA rfl)
def b7 (bO : (List ah)) (v_1 : ah) : Option (Bool) :=
 (dy bO v_1).bind fun t2 =>
 T4 (decide (t2 ≥ 0)) fun t3 =>
 some t3
theorem oq [aq] {bO : (List ah)} {v_1 : ah} {r : Bool} (hm : b7 bO v_1 = some r) :
  gw prog 56 [eN ak bO, ag [iv .i64 v_1.bw, iv .i64 v_1.To]] [] (fun (x : Unit) => [bv r]) (fun (x : Unit) => []) := by
 refine A6 (fn := Tryz.f56) (N := 9) (res := fun r x => [bv r]) (lB := fun r x => []) Tryz.func56 rfl rfl hm rfl (fun E hM => ?_)
 unfold b7
 refine aF (az (mz (L9 (fc (fQ := [iv .i64 v_1.bw, iv .i64 v_1.To]) rfl ⟨.inl jy, .inl jy, trivial⟩)) rfl (fun b1 => Ad rfl rfl (bg (aH (aF (az (tC rfl rfl (br (iT Tryz.isAgg55 Tryz.sizeOf55 rfl (j := 0) rfl rfl rfl) rfl (pull fun t2 h_t2 => ?_))))))))))
 refine mz (s_call (ψ := fun (_ : Unit) => iv .i64 t2) (args := [.tmp 5, .tmp 6]) Tryz.call105 rfl (qi h_t2) ⟨arg rfl, arg rfl, trivial⟩ (fun _ _ _ _ h => h)) rfl (fun _ => br (Ow rfl rfl) rfl (Ad rfl rfl (b_let (f := bv) (t := 4) rfl fun t3 => bg (aH (d_ ?_)))))
 exact Cg (.inl rfl) () [] rfl trivial rfl (gA rfl)
def jr (p_0 : ah) (p_1 : (List ah)) : Option (Bool) :=
 (b7 p_1 p_0).bind fun t2 =>
 some (!t2)
theorem Bc [aq] {p_0 : ah} {p_1 : (List ah)} {b_1 : Nat} {r : Bool} (hm : jr p_0 p_1 = some r) :
  gw prog 55 [ag [iv .i64 p_0.bw, iv .i64 p_0.To], pv (ptr b_1 0)] [oc b_1 [eN ak p_1]] (fun (x : Unit) => [bv r]) (fun (x : Unit) => [oc b_1 [eN ak p_1]]) := by
 refine A6 (fn := Tryz.f55) (N := 8) (res := fun r x => [bv r]) (lB := fun r x => [oc b_1 [eN ak p_1]]) Tryz.func55 rfl rfl hm rfl (fun E hM => ?_)
 unfold jr
 refine aF (az (mz (L9 (fc (fQ := [iv .i64 p_0.bw, iv .i64 p_0.To]) rfl ⟨.inl jy, .inl jy, trivial⟩)) rfl (fun b1 => Ad rfl rfl (bg (aH (aF (az (br (iD Tryz.isAgg25 rfl (j := 0) rfl rfl) rfl (br (iT Tryz.isAgg55 Tryz.sizeOf55 rfl (j := 1) rfl rfl rfl) rfl (pull fun t2 h_t2 => ?_))))))))))
 refine mz (s_call (ψ := fun (_ : Unit) => bv t2) (args := [.tmp 4, .tmp 5]) Tryz.call56 rfl (oq h_t2) ⟨arg rfl, arg rfl, trivial⟩ (fun _ _ _ _ h => h)) rfl (fun _ => br (Ru rfl) rfl (Ad rfl rfl (bg (aH (d_ ?_)))))
 exact Cg (.inl rfl) () [0] rfl ⟨rfl, trivial⟩ rfl (gA rfl)
def bU (bO : (List ah)) (O3 : (List ah)) (s7 : Int) : Option (Sum ((Sum (Int) (Unit))) (Int)) :=
 bif decide (s7 < (bO.length : Int)) then
  (aL bO s7).bind fun t10 =>
  (jr t10 O3).bind fun t11 =>
  bif t11 then
   some (Sum.inl (Sum.inl s7))
  else
   some (Sum.inr (aN .i64 s7 1))
 else
  some (Sum.inl (Sum.inr ()))
def cH (bO : (List ah)) (O3 : (List ah)) : Option (Int) :=
 (aI (bU bO O3) 0).bind (eH (fun a : Int => some a) fun Js : Unit =>
  some (-1))
theorem nY [aq] {bO : (List ah)} {O3 : (List ah)} {FW : Nat} {r : Int} (hm : cH bO O3 = some r) :
  gw prog 104 [eN ak bO, pv (.func (.func 55) #[] #[(ptr FW 0)])] [oc FW [eN ak O3]] (fun (x : Unit) => [iv .i64 r]) (fun (x : Unit) => [oc FW [eN ak O3]]) := by
 refine A6 (fn := Tryz.f104) (N := 19) (res := fun r x => [iv .i64 r]) (lB := fun r x => [oc FW [eN ak O3]]) Tryz.func104 rfl rfl hm rfl (fun E hM => ?_)
 unfold cH
 refine aF (az (Ad rfl rfl (bg (aH (aF (aF (az (tC rfl rfl (br (DI Tryz.underlying25 rfl) rfl (tC rfl rfl (bg (aH ?_))))))))))))
 refine nC (f := (bU bO O3)) (r_ := (fun (s7 : Int) (x8 : Unit) => [(0, eN ak bO), (1, pv (.func (.func 55) #[] #[(ptr FW 0)])), (7, iv .i64 (bO.length : Int)), (8, iv .i64 s7)])) (r9 := (fun (s7 : Int) (x8 : Unit) => [oc FW [eN ak O3]])) (CS := (fun (Js : Unit) (y14 : Unit) => [(1, pv (.func (.func 55) #[] #[(ptr FW 0)]))])) (CR := (fun (Js : Unit) (y14 : Unit) => [oc FW [eN ak O3]])) (kr := (fun a : Int => some a)) 0 () (weak [0] ⟨rfl, rfl, rfl, rfl, trivial⟩ ⟨rfl, trivial⟩) (fun s7 x8 => ?_) (fun Js y14 => ?_)
 ·unfold bU
  refine aF (az (br (Cw rfl rfl) rfl (bg (aH (aF ?_)))))
  refine e7 rfl (fun hb9 => ?_) (fun hb9 => ?_)
  ·refine dS (aH (aF (gB (aF (az ?_)))))
   refine tC rfl rfl (Ad rfl rfl (bg (aH (aF (az (tC rfl rfl (tC rfl rfl (tC rfl rfl (pull fun t10 OX => ?_)))))))))
   refine br (w6 OX Tryz.underlying25 tv rfl rfl) rfl (br (BP tv rfl) rfl (pull fun t11 aaF => mz (zd [0] [true] (fun (_ : Unit) => [oc FW [eN ak O3]]) (fun (_ : Unit) => []) (fun (_ : Unit) => bv t11) (args := [.tmp 15]) (caps := [(ptr FW 0)]) Tryz.call55 rfl (Bc aaF) ⟨rfl, rfl, trivial⟩ (fun _ => rfl) (fun _ => trivial) (fun _ => rfl) ⟨arg rfl, arg rfl, trivial⟩ (fun _ _ _ _ h => h)) rfl (fun _ => bg (aH ?_))))
   refine e7 rfl (fun hb12 => ?_) (fun hb12 => ?_)
   ·refine aF (az ?_)
    refine tC rfl rfl (Ad rfl rfl (bg (aH (d_ (eG (fG ?_))))))
    refine Jq ?_
    refine eG (fG ?_)
    exact Cg (.inl rfl) () [0] rfl ⟨rfl, trivial⟩ rfl (gA rfl)
   refine dS (qC (aH (az (br (F5 rfl rfl) rfl (tC rfl rfl (bg ?_))))))
   exact goX () (weak [0] ⟨rfl, rfl, rfl, rfl, trivial⟩ ⟨rfl, trivial⟩)
  refine ot (vT ?_)
  exact N6 () (weak [0] ⟨rfl, trivial⟩ ⟨rfl, trivial⟩)
 refine aH (aF (az (Ad rfl rfl (bg (aH (d_ ?_))))))
 exact Cg (.inl rfl) () [0] rfl ⟨rfl, trivial⟩ rfl (gA rfl)
def bR (bO : (List ah)) (O3 : (List ah)) : Option (Bool) :=
 (cH bO O3).bind fun t1 =>
 T4 (decide (t1 ≥ 0)) fun t2 =>
 some t2
theorem mu [aq] {bO : (List ah)} {O3 : (List ah)} {FW : Nat} {r : Bool} (hm : bR bO O3 = some r) :
  gw prog 54 [eN ak bO, pv (.func (.func 55) #[] #[(ptr FW 0)])] [oc FW [eN ak O3]] (fun (x : Unit) => [bv r]) (fun (x : Unit) => [oc FW [eN ak O3]]) := by
 refine A6 (fn := Tryz.f54) (N := 9) (res := fun r x => [bv r]) (lB := fun r x => [oc FW [eN ak O3]]) Tryz.func54 rfl rfl hm rfl (fun E hM => ?_)
 unfold bR
 refine aF (az (Ad rfl rfl (bg (aH (aF (az (tC rfl rfl (tC rfl rfl (pull fun t1 aaG => mz (zd [0] [true] (fun (_ : Unit) => [oc FW [eN ak O3]]) (fun (_ : Unit) => []) (fun (_ : Unit) => iv .i64 t1) (args := [.tmp 5, .tmp 6]) (caps := []) Tryz.call104 rfl (nY aaG) ⟨rfl, rfl, trivial⟩ (fun _ => rfl) (fun _ => trivial) (fun _ => rfl) ⟨arg rfl, arg rfl, trivial⟩ (fun _ _ _ _ h => h)) rfl (fun _ => ?_))))))))))
 refine br (Ow rfl rfl) rfl (Ad rfl rfl (b_let (f := bv) (t := 4) rfl fun t2 => bg (aH (d_ ?_))))
 exact Cg (.inl rfl) () [0] rfl ⟨rfl, trivial⟩ rfl (gA rfl)
def kQ (Nf : (List ah)) (p_1 : (List ah)) : Option (Bool) :=
 (bR Nf p_1).bind fun t1 =>
 some (!t1)
theorem Dh [aq] {Nf : (List ah)} {p_1 : (List ah)} {b_1 : Nat} {r : Bool} (hm : kQ Nf p_1 = some r) :
  gw prog 53 [eN ak Nf, pv (ptr b_1 0)] [oc b_1 [eN ak p_1]] (fun (x : Unit) => [bv r]) (fun (x : Unit) => [oc b_1 [eN ak p_1]]) := by
 refine A6 (fn := Tryz.f53) (N := 8) (res := fun r x => [bv r]) (lB := fun r x => [oc b_1 [eN ak p_1]]) Tryz.func53 rfl rfl hm rfl (fun E hM => ?_)
 unfold kQ
 refine aF (az (Ad rfl rfl (bg (aH (aF (az (tC rfl rfl (br (TG (xs := [.tmp 1]) (vs := [(ptr b_1 0)]) ⟨rfl, trivial⟩) rfl (pull fun t1 aaG => mz (zd [0] [true] (fun (_ : Unit) => [oc b_1 [eN ak p_1]]) (fun (_ : Unit) => []) (fun (_ : Unit) => bv t1) (args := [.tmp 4, .tmp 5]) (caps := []) Tryz.call54 rfl (mu aaG) ⟨rfl, rfl, trivial⟩ (fun _ => rfl) (fun _ => trivial) (fun _ => rfl) ⟨arg rfl, arg rfl, trivial⟩ (fun _ _ _ _ h => h)) rfl (fun _ => ?_))))))))))
 refine br (Ru rfl) rfl (Ad rfl rfl (bg (aH (d_ ?_))))
 exact Cg (.inl rfl) () [0] rfl ⟨rfl, trivial⟩ rfl (gA rfl)
def bQ (bO : (List (List ah))) (e_1 : (List ah)) (s7 : Int) : Option (Sum ((Sum (Int) (Unit))) (Int)) :=
 bif decide (s7 < (bO.length : Int)) then
  (aL bO s7).bind fun t10 =>
  (kQ t10 e_1).bind fun t11 =>
  bif t11 then
   some (Sum.inl (Sum.inl s7))
  else
   some (Sum.inr (aN .i64 s7 1))
 else
  some (Sum.inl (Sum.inr ()))
def cD (bO : (List (List ah))) (e_1 : (List ah)) : Option (Int) :=
 (aI (bQ bO e_1) 0).bind (eH (fun a : Int => some a) fun Js : Unit =>
  some (-1))
theorem mZ [aq] {bO : (List (List ah))} {e_1 : (List ah)} {tG : Value × List Nat} {FV : Nat} {r : Int} (hm : cD bO e_1 = some r) :
  gw prog 103 [pv tG.1, pv (.func (.func 53) #[] #[(ptr FV 0)])] [oa (wC ak) tG.1 tG.2 bO, oc FV [eN ak e_1]] (fun (x : Unit) => [iv .i64 r]) (fun (x : Unit) => [oa (wC ak) tG.1 tG.2 bO, oc FV [eN ak e_1]]) := by
 refine A6 (fn := Tryz.f103) (N := 19) (res := fun r x => [iv .i64 r]) (lB := fun r x => [oa (wC ak) tG.1 tG.2 bO, oc FV [eN ak e_1]]) Tryz.func103 rfl rfl hm rfl (fun E hM => ?_)
 unfold cD
 refine aF (az (Ad rfl rfl (bg (aH (aF (aF (az (tC rfl rfl (br (Zn Tryz.underlying30 rfl (j := 0) rfl) rfl (tC rfl rfl (bg (aH ?_))))))))))))
 refine nC (f := (bQ bO e_1)) (r_ := (fun (s7 : Int) (x8 : Unit) => [(0, pv tG.1), (1, pv (.func (.func 53) #[] #[(ptr FV 0)])), (7, iv .i64 (bO.length : Int)), (8, iv .i64 s7)])) (r9 := (fun (s7 : Int) (x8 : Unit) => [oa (wC ak) tG.1 tG.2 bO, oc FV [eN ak e_1]])) (CS := (fun (Js : Unit) (y14 : Unit) => [(0, pv tG.1), (1, pv (.func (.func 53) #[] #[(ptr FV 0)]))])) (CR := (fun (Js : Unit) (y14 : Unit) => [oa (wC ak) tG.1 tG.2 bO, oc FV [eN ak e_1]])) (kr := (fun a : Int => some a)) 0 () (weak [0, 1] ⟨rfl, rfl, rfl, rfl, trivial⟩ ⟨rfl, rfl, trivial⟩) (fun s7 x8 => ?_) (fun Js y14 => ?_)
 ·unfold bQ
  refine aF (az (br (Cw rfl rfl) rfl (bg (aH (aF ?_)))))
  refine e7 rfl (fun hb9 => ?_) (fun hb9 => ?_)
  ·refine dS (aH (aF (gB (aF (az ?_)))))
   refine tC rfl rfl (Ad rfl rfl (bg (aH (aF (az (tC rfl rfl (tC rfl rfl (tC rfl rfl (pull fun t10 OX => ?_)))))))))
   refine br (Rt OX Tryz.underlying30 J6 rfl (j := 0) rfl rfl) rfl (br (Vp OX J6 rfl (j := 0) rfl) rfl (pull fun t11 aaF => mz (zd [1] [true] (fun (_ : Unit) => [oc FV [eN ak e_1]]) (fun (_ : Unit) => []) (fun (_ : Unit) => bv t11) (args := [.tmp 15]) (caps := [(ptr FV 0)]) Tryz.call53 rfl (Dh aaF) ⟨rfl, rfl, trivial⟩ (fun _ => rfl) (fun _ => trivial) (fun _ => rfl) ⟨arg rfl, arg rfl, trivial⟩ (fun _ _ _ _ h => h)) rfl (fun _ => bg (aH ?_))))
   refine e7 rfl (fun hb12 => ?_) (fun hb12 => ?_)
   ·refine aF (az ?_)
    refine tC rfl rfl (Ad rfl rfl (bg (aH (d_ (eG (fG ?_))))))
    refine Jq ?_
    refine eG (fG ?_)
    exact Cg (.inl rfl) () [0, 1] rfl ⟨rfl, rfl, trivial⟩ rfl (gA rfl)
   refine dS (qC (aH (az (br (F5 rfl rfl) rfl (tC rfl rfl (bg ?_))))))
   exact goX () (weak [0, 1] ⟨rfl, rfl, rfl, rfl, trivial⟩ ⟨rfl, rfl, trivial⟩)
  refine ot (vT ?_)
  exact N6 () (weak [0, 1] ⟨rfl, rfl, trivial⟩ ⟨rfl, rfl, trivial⟩)
 refine aH (aF (az (Ad rfl rfl (bg (aH (d_ ?_))))))
 exact Cg (.inl rfl) () [0, 1] rfl ⟨rfl, rfl, trivial⟩ rfl (gA rfl)
def bJ (bO : (List (List ah))) (e_1 : (List ah)) : Option (Bool) :=
 (cD bO e_1).bind fun t1 =>
 T4 (decide (t1 ≥ 0)) fun t2 =>
 some t2
theorem lK [aq] {bO : (List (List ah))} {e_1 : (List ah)} {tG : Value × List Nat} {FV : Nat} {r : Bool} (hm : bJ bO e_1 = some r) :
  gw prog 52 [pv tG.1, pv (.func (.func 53) #[] #[(ptr FV 0)])] [oa (wC ak) tG.1 tG.2 bO, oc FV [eN ak e_1]] (fun (x : Unit) => [bv r]) (fun (x : Unit) => [oa (wC ak) tG.1 tG.2 bO, oc FV [eN ak e_1]]) := by
 refine A6 (fn := Tryz.f52) (N := 9) (res := fun r x => [bv r]) (lB := fun r x => [oa (wC ak) tG.1 tG.2 bO, oc FV [eN ak e_1]]) Tryz.func52 rfl rfl hm rfl (fun E hM => ?_)
 unfold bJ
 refine aF (az (Ad rfl rfl (bg (aH (aF (az (tC rfl rfl (tC rfl rfl (pull fun t1 aaG => mz (zd [0, 1] [true, true] (fun (_ : Unit) => [oa (wC ak) tG.1 tG.2 bO, oc FV [eN ak e_1]]) (fun (_ : Unit) => []) (fun (_ : Unit) => iv .i64 t1) (args := [.tmp 5, .tmp 6]) (caps := []) Tryz.call103 rfl (mZ aaG) ⟨rfl, rfl, ⟨rfl, rfl, trivial⟩⟩ (fun _ => rfl) (fun _ => trivial) (fun _ => rfl) ⟨arg rfl, arg rfl, trivial⟩ (fun _ _ _ _ h => h)) rfl (fun _ => ?_))))))))))
 refine br (Ow rfl rfl) rfl (Ad rfl rfl (b_let (f := bv) (t := 4) rfl fun t2 => bg (aH (d_ ?_))))
 exact Cg (.inl rfl) () [0, 1] rfl ⟨rfl, rfl, trivial⟩ rfl (gA rfl)
def iX (l56 : (List ah)) (Yi : Int × (List (ah × Bool))) : Option (Sum ((Sum (Bool) ((List (ah × Bool))))) (Int × (List (ah × Bool)))) :=
 bif decide (Yi.1 < (l56.length : Int)) then
  (aL l56 Yi.1).bind fun t72 =>
  bif (cF Yi.2 t72 false) then
   some (Sum.inl (Sum.inl false))
  else
   some (Sum.inr (aN .i64 Yi.1 1, iq Yi.2 t72 true))
 else
  some (Sum.inl (Sum.inr Yi.2))
def iY (e_2 : aJ) (Yk : Int × (List (ah × Bool))) : Option (Sum ((Sum (Bool) (Unit))) (Int × (List (ah × Bool)))) :=
 bif decide (Yk.1 < (e_2.aS.length : Int)) then
  (aL e_2.aS Yk.1).bind fun l56 =>
  (aI (iX l56) (0, Yk.2)).bind (eH (fun a : Bool => some (Sum.inl (Sum.inl a))) fun q75 : (List (ah × Bool)) =>
   some (Sum.inr (aN .i64 Yk.1 1, q75)))
 else
  some (Sum.inl (Sum.inr ()))
def iW (e_2 : aJ) (I5 : List (List ah)) (s88 : Int) : Option (Sum ((Sum (Bool) (Unit))) (Int)) :=
 bif decide (s88 < (e_2.aS.length : Int)) then
  (aL e_2.aS s88).bind fun t91 =>
  (bJ I5 t91).bind fun t93 =>
  bif !t93 then
   some (Sum.inl (Sum.inl false))
  else
   some (Sum.inr (aN .i64 s88 1))
 else
  some (Sum.inl (Sum.inr ()))
def gI (aW : af) (wj : Int) (e_2 : aJ) : Option (Bool) :=
 bif (e_2.aS.length : Int) != (e_2.jt.length : Int) then
  some false
 else
  (aI (iY e_2) (0, [])).bind (eH (fun a : Bool => some a) fun q77 : Unit =>
   (cW aW e_2.Set wj).bind fun I5 =>
   (aI (iW e_2 I5) 0).bind (eH (fun a : Bool => some a) fun q95 : Unit =>
    some true))
theorem Fy {aW : af} {wj : Int} {e_2 : aJ} {r : Bool} (hm : gI aW wj e_2 = some r) :
  gw prog 23 [ag [iv .i64 aW.N, eN ak aW.L], iv .i64 wj, ag [eN (rI .i64) e_2.Set, eN ak e_2.jt, eN (wC ak) e_2.aS]] [Pt (rI .u8) 0 zc] (fun (x : Unit) => [bv r]) (fun (x : Unit) => [Pt (rI .u8) 0 zc]) := by
 refine A6 (fn := Tryz.f23) (N := 60) (res := fun r x => [bv r]) (lB := fun r x => [Pt (rI .u8) 0 zc]) Tryz.func23 rfl rfl hm rfl (fun E hM => ?_)
 unfold gI
 refine aF (az (mz (L9 (fc (fQ := [iv .i64 aW.N, eN ak aW.L]) rfl ⟨.inl jy, .inl Jm, trivial⟩)) rfl (fun b1 => mz (L9 (fc (fQ := [eN (rI .i64) e_2.Set, eN ak e_2.jt, eN (wC ak) e_2.aS]) rfl ⟨.inl Jm, .inl Jm, .inl Jm, trivial⟩)) rfl (fun b2 => Ad rfl rfl (bg (aH (aF (aF (az (br (kF (fo := 2) Tryz.underlying32 rfl rfl Tryz.sizeOf30 rfl) rfl (br (iD Tryz.isAgg30 rfl (j := 2) rfl rfl) rfl ?_)))))))))))
 refine br (DI Tryz.underlying30 rfl) rfl (br (kF (fo := 1) Tryz.underlying32 rfl rfl Tryz.sizeOf25 rfl) rfl (br (iD Tryz.isAgg25 rfl (j := 2) rfl rfl) rfl (br (DI Tryz.underlying25 rfl) rfl (br (Zo rfl rfl) rfl (bg (aH ?_))))))
 refine e7 rfl (fun hb3 => ?_) (fun hb3 => ?_)
 ·refine aF (az ?_)
  refine Ad rfl rfl (bg (aH (d_ (fG ?_))))
  exact Cg (.inl rfl) () [0] rfl ⟨rfl, trivial⟩ rfl (gA rfl)
 refine dS (aH (aF (az (mz (Lu ak rB) rfl (fun b4 => Ad rfl rfl (bg (aH (aF (aF (az (br (kF (fo := 2) Tryz.underlying32 rfl rfl Tryz.sizeOf30 rfl) rfl (br (iD Tryz.isAgg30 rfl (j := 2) rfl rfl) rfl (br (DI Tryz.underlying30 rfl) rfl ?_)))))))))))))
 refine tC rfl rfl (bg (aH ?_))
 refine nC (f := (iY e_2)) (r_ := (fun (Yk : Int × (List (ah × Bool))) (x54 : Unit) => [(1, iv .i64 wj), (3, pv (ptr b1 0)), (5, pv (ptr b2 0)), (7, pv (.map (some b4))), (24, eN (wC ak) e_2.aS), (25, iv .i64 (e_2.aS.length : Int)), (26, iv .i64 Yk.1)])) (r9 := (fun (Yk : Int × (List (ah × Bool))) (x54 : Unit) => [Pt (rI .u8) 0 zc, oc b1 [iv .i64 aW.N, eN ak aW.L], oc b2 [eN (rI .i64) e_2.Set, eN ak e_2.jt, eN (wC ak) e_2.aS], om ak rB b4 Yk.2])) (CS := (fun (q77 : Unit) (Tj : Unit) => [(1, iv .i64 wj), (3, pv (ptr b1 0)), (5, pv (ptr b2 0))])) (CR := (fun (q77 : Unit) (Tj : Unit) => [oc b1 [iv .i64 aW.N, eN ak aW.L], oc b2 [eN (rI .i64) e_2.Set, eN ak e_2.jt, eN (wC ak) e_2.aS], Pt (rI .u8) 0 zc])) (kr := (fun a : Bool => some a)) (0, []) () (weak [0, 1, 2, 3] ⟨rfl, rfl, rfl, rfl, rfl, rfl, rfl, trivial⟩ ⟨rfl, rfl, rfl, rfl, trivial⟩) (fun Yk x54 => ?_) (fun q77 Tj => ?_)
 ·unfold iY
  refine aF (az (br (Cw rfl rfl) rfl (bg (aH (aF ?_)))))
  refine e7 rfl (fun hb55 => ?_) (fun hb55 => ?_)
  ·refine dS (aH (aF (gB (aF (az ?_)))))
   refine pull fun l56 h_l56 => br (w6 h_l56 Tryz.underlying30 J6 rfl rfl) rfl (br (BP J6 rfl) rfl (Ad rfl rfl (bg (aH (aF (az (tC rfl rfl (br (DI Tryz.underlying25 rfl) rfl ?_))))))))
   refine tC rfl rfl (bg (aH ?_))
   refine nC (f := (iX l56)) (r_ := (fun (Yi : Int × (List (ah × Bool))) (x70 : Unit) => [(1, iv .i64 wj), (3, pv (ptr b1 0)), (5, pv (ptr b2 0)), (7, pv (.map (some b4))), (24, eN (wC ak) e_2.aS), (25, iv .i64 (e_2.aS.length : Int)), (26, iv .i64 Yk.1), (30, eN ak l56), (31, iv .i64 (l56.length : Int)), (32, iv .i64 Yi.1)])) (r9 := (fun (Yi : Int × (List (ah × Bool))) (x70 : Unit) => [Pt (rI .u8) 0 zc, oc b1 [iv .i64 aW.N, eN ak aW.L], oc b2 [eN (rI .i64) e_2.Set, eN ak e_2.jt, eN (wC ak) e_2.aS], om ak rB b4 Yi.2])) (CS := (fun (q75 : (List (ah × Bool))) (y76 : Unit) => [(1, iv .i64 wj), (3, pv (ptr b1 0)), (5, pv (ptr b2 0)), (7, pv (.map (some b4))), (24, eN (wC ak) e_2.aS), (25, iv .i64 (e_2.aS.length : Int)), (26, iv .i64 Yk.1)])) (CR := (fun (q75 : (List (ah × Bool))) (y76 : Unit) => [oc b1 [iv .i64 aW.N, eN ak aW.L], oc b2 [eN (rI .i64) e_2.Set, eN ak e_2.jt, eN (wC ak) e_2.aS], om ak rB b4 q75, Pt (rI .u8) 0 zc])) (kr := (fun a : Bool => some (Sum.inl (Sum.inl a)))) (0, Yk.2) () (weak [0, 1, 2, 3] ⟨rfl, rfl, rfl, rfl, rfl, rfl, rfl, rfl, rfl, rfl, trivial⟩ ⟨rfl, rfl, rfl, rfl, trivial⟩) (fun Yi x70 => ?_) (fun q75 y76 => ?_)
   ·unfold iX
    refine aF (az (br (Cw rfl rfl) rfl (bg (aH (aF ?_)))))
    refine e7 rfl (fun hb71 => ?_) (fun hb71 => ?_)
    ·refine dS (aH (aF (gB (aF (az ?_)))))
     refine pull fun t72 h_t72 => br (w6 h_t72 Tryz.underlying25 tv rfl rfl) rfl (br (BP tv rfl) rfl (mz (uS LM) rfl (fun b73 => tN (gm (out := [iv .i64 t72.bw, iv .i64 t72.To]) Tryz.sizeOf55 rfl (j := 4) rfl (fc (fQ := [iv .i64 t72.bw, iv .i64 t72.To]) rfl ⟨.inl jy, .inl jy, trivial⟩) rfl rfl rfl) (fun _ => bg (pE (nrm [Pt (rI .u8) 0 zc, oc b1 [iv .i64 aW.N, eN ak aW.L], oc b2 [eN (rI .i64) e_2.Set, eN ak e_2.jt, eN (wC ak) e_2.aS], om ak rB b4 Yi.2, oc b73 [iv .i64 t72.bw, iv .i64 t72.To]] rfl) ?_)))))
     refine aH (aF (aF (az (tC rfl rfl (br (iT Tryz.isAgg55 Tryz.sizeOf55 rfl (j := 4) rfl rfl rfl) rfl (br (PR (x := t72) (z := false) Tryz.underlying60 B7 ZW rfl (j := 3) rfl rfl) rfl (bg (aH ?_))))))))
     refine e7 rfl (fun hb74 => ?_) (fun hb74 => ?_)
     ·refine aF (az ?_)
      refine Ad rfl rfl (bg (aH (d_ (fG (eG (fG ?_))))))
      refine Jq ?_
      refine eG (eG (fG ?_))
      refine Jq ?_
      refine eG (fG ?_)
      exact Cg (.inl rfl) () [0] rfl ⟨rfl, trivial⟩ rfl (gA rfl)
     refine dS (aH (az (tC rfl rfl (br (iT Tryz.isAgg55 Tryz.sizeOf55 rfl (j := 4) rfl rfl rfl) rfl (tN (L8 (x := t72) (y := true) Tryz.underlying60 B7 rfl (j := 3) rfl rfl rfl) (fun _ => bg (qC (aH (az (br (F5 rfl rfl) rfl (tC rfl rfl ?_)))))))))))
     refine bg ?_
     exact goX () (weak [0, 1, 2, 3] ⟨rfl, rfl, rfl, rfl, rfl, rfl, rfl, rfl, rfl, rfl, trivial⟩ ⟨rfl, rfl, rfl, rfl, trivial⟩)
    refine ot (vT ?_)
    exact N6 () (weak [1, 2, 3, 0] ⟨rfl, rfl, rfl, rfl, rfl, rfl, rfl, trivial⟩ ⟨rfl, rfl, rfl, rfl, trivial⟩)
   refine qC (aH (az (br (F5 rfl rfl) rfl (tC rfl rfl (bg ?_)))))
   exact goX () (weak [3, 0, 1, 2] ⟨rfl, rfl, rfl, rfl, rfl, rfl, rfl, trivial⟩ ⟨rfl, rfl, rfl, rfl, trivial⟩)
  refine ot (vT ?_)
  exact N6 () (weak [1, 2, 0] ⟨rfl, rfl, rfl, trivial⟩ ⟨rfl, rfl, rfl, trivial⟩)
 refine aH (aF (az (br (iT Tryz.isAgg27 Tryz.sizeOf27 rfl (j := 0) rfl rfl rfl) rfl (br (kF (fo := 0) Tryz.underlying32 rfl rfl Tryz.sizeOf22 rfl) rfl (br (iD Tryz.isAgg22 rfl (j := 1) rfl rfl) rfl (tC rfl rfl (pull fun I5 h_all79 => mz (zd [2] [true] (fun (WB : (Value × List Nat)) => [Pt (rI .u8) 0 zc]) (fun (WB : (Value × List Nat)) => [oa (wC ak) WB.1 WB.2 I5]) (fun (WB : (Value × List Nat)) => pv WB.1) (args := [.tmp 43, .tmp 45, .tmp 46]) (caps := []) Tryz.call42 rfl (Fz h_all79) ⟨rfl, rfl, trivial⟩ (fun _ => rfl) (fun _ => trivial) (fun _ => rfl) ⟨arg rfl, arg rfl, arg rfl, trivial⟩ (fun _ _ _ _ h => h)) rfl (fun WB => ?_))))))))
 refine Ad rfl rfl (bg (aH (aF (aF (az (br (kF (fo := 2) Tryz.underlying32 rfl rfl Tryz.sizeOf30 rfl) rfl (br (iD Tryz.isAgg30 rfl (j := 1) rfl rfl) rfl (br (DI Tryz.underlying30 rfl) rfl (tC rfl rfl (bg (aH ?_)))))))))))
 refine nC (f := (iW e_2 I5)) (r_ := (fun (s88 : Int) (x89 : Unit) => [(12, pv WB.1), (49, eN (wC ak) e_2.aS), (50, iv .i64 (e_2.aS.length : Int)), (51, iv .i64 s88)])) (r9 := (fun (s88 : Int) (x89 : Unit) => [Pt (rI .u8) 0 zc, oa (wC ak) WB.1 WB.2 I5])) (CS := (fun (q95 : Unit) (y96 : Unit) => [])) (CR := (fun (q95 : Unit) (y96 : Unit) => [Pt (rI .u8) 0 zc])) (kr := (fun a : Bool => some a)) 0 () (weak [2, 3] ⟨rfl, rfl, rfl, rfl, trivial⟩ ⟨rfl, rfl, trivial⟩) (fun s88 x89 => ?_) (fun q95 y96 => ?_)
 ·unfold iW
  refine aF (az (br (Cw rfl rfl) rfl (bg (aH (aF ?_)))))
  refine e7 rfl (fun hb90 => ?_) (fun hb90 => ?_)
  ·refine dS (aH (aF (gB (aF (az ?_)))))
   refine pull fun t91 h_t91 => br (w6 h_t91 Tryz.underlying30 J6 rfl rfl) rfl (br (BP J6 rfl) rfl (mz (uS zto_25) rfl (fun b92 => tN (gm (out := [eN ak t91]) Tryz.sizeOf25 rfl (j := 2) rfl (PW rfl Jm) rfl rfl rfl) (fun _ => bg (aH (aF (az (tC rfl rfl ?_))))))))
   refine br (TG (xs := [.tmp 14]) (vs := [(ptr b92 0)]) ⟨rfl, trivial⟩) rfl (pull fun t93 h_t93 => mz (zd [1, 2] [true, true] (fun (_ : Unit) => [oa (wC ak) WB.1 WB.2 I5, oc b92 [eN ak t91]]) (fun (_ : Unit) => []) (fun (_ : Unit) => bv t93) (args := [.tmp 55, .tmp 56]) (caps := []) Tryz.call52 rfl (lK h_t93) ⟨rfl, rfl, ⟨rfl, rfl, trivial⟩⟩ (fun _ => rfl) (fun _ => trivial) (fun _ => rfl) ⟨arg rfl, arg rfl, trivial⟩ (fun _ _ _ _ h => h)) rfl (fun _ => br (Ru rfl) rfl (bg (pE (nrm [Pt (rI .u8) 0 zc, oa (wC ak) WB.1 WB.2 I5, oc b92 [eN ak t91]] rfl) (aH ?_)))))
   refine e7 rfl (fun hb94 => ?_) (fun hb94 => ?_)
   ·refine aF (az ?_)
    refine Ad rfl rfl (bg (aH (d_ (eG (fG ?_)))))
    refine Jq ?_
    refine eG (fG ?_)
    exact Cg (.inl rfl) () [0] rfl ⟨rfl, trivial⟩ rfl (gA rfl)
   refine dS (qC (aH (az (br (F5 rfl rfl) rfl (tC rfl rfl (bg ?_))))))
   exact goX () (weak [0, 1] ⟨rfl, rfl, rfl, rfl, trivial⟩ ⟨rfl, rfl, trivial⟩)
  refine ot (vT ?_)
  exact N6 () (weak [0] trivial ⟨rfl, trivial⟩)
 refine aH (aF (az (Ad rfl rfl (bg (aH (d_ ?_))))))
 exact Cg (.inl rfl) () [0] rfl ⟨rfl, trivial⟩ rfl (gA rfl)
def Bb : bI := ⟨[(.st 2), (.int .i64), (.st 4)], [.bool], fun (a : af × Int × aJ) => gI a.1 a.2.1 a.2.2, [(true, [.d 0 0, .d 0 1]), (false, [.d 1 0]), (true, [.d 2 0, .d 2 1, .d 2 2])], [], [(false, [.d 0 0])], [], 0, 0⟩
theorem IE : aG prog 23 Bb := ⟨Tryz.call23, fun a r h hs => (gw.noTab (Fy h) (cs := EL) (by first | exact .head _ | exact .tail _ (.head _)) (by kernel_rfl)).re fun x F w _ => ⟨⟨hs, fun i hi => absurd hi (Nat.not_lt_zero i)⟩, rfl, rfl⟩⟩
def qG (aW : af) (wj : Int) (e_2 : aJ) : Option (Int) :=
(dF aW e_2.Set wj).bind fun bad2 =>
 bif (bad2 : Int) != 0 then
 some bad2
 else
(eY aW e_2.jt).bind fun t3 =>
 bif (t3.2 : Int) != 0 then
 some t3.2
 else
(kT t3.1 e_2.Set wj).bind fun t4 =>
 bif !t4 then
 some 7
 else
(gI aW wj e_2).bind fun t5 =>
 bif !t5 then
 some 11
 else
 some 0
def CK : bI := ⟨[(.st 2), (.int .i64), (.st 4)], [(.int .i64)], fun (a : af × Int × aJ) => qG a.1 a.2.1 a.2.2, [(true, [.d 0 0, .d 0 1]), (false, [.d 1 0]), (true, [.d 2 0, .d 2 1, .d 2 2])], [], [(false, [.d 0 0])], [], 0, 0⟩
def La : Hints := ⟨[], [], [], [], []⟩
theorem J5 : aG prog 9 CK := au (H := La) (fin := []) Tryz.func9 Tryz.call9 (aD (l := [(16, mR), (8, uK), (22, vJ), (23, Bb)]) ⟨rW, zH, Dp, IE, trivial⟩) rfl rfl rfl (fun a => by kernel_rfl)
def kf (aW : af) (n_1 : Int) : Option (Int) :=
(b_ aW).bind fun t1 =>
 bif (t1 : Int) != 0 then
 some 1
 else
 bif decide (n_1 < 0) then
 some 1
 else
 bif decide (n_1 ≥ aW.N) then
 some 1
 else
 some 0
def qw : bI := ⟨[(.st 2), (.int .i64)], [(.int .i64)], fun (a : af × Int) => kf a.1 a.2, [(true, [.d 0 0, .d 0 1]), (false, [.d 1 0])], [], [(false, [.d 0 0])], [], 0, 0⟩
def KV : Hints := ⟨[], [], [], [], []⟩
theorem uc [aq] : aG prog 24 qw := au (H := KV) (fin := []) Tryz.func24 Tryz.call24 (aD (l := [(19, gG)]) ⟨fI, trivial⟩) rfl rfl rfl (fun a => by kernel_rfl)
def uE (a0 : af) : Option ((List Int)) :=
 none
def uF : bI := ⟨[(.st 2)], [(.sl (.int .i64))], fun (a : af) => uE a, [(true, [.d 0 0, .d 0 1])], [], [(false, [.d 0 0])], [], 0, 0⟩
theorem zC [aq] : aG prog 25 uF := ⟨Tryz.call25, fun a r h => by cases h⟩
def A2 (a0 : af) : Option ((List Int)) :=
 none
def A3 : bI := ⟨[(.st 2)], [(.sl (.int .i64))], fun (a : af) => A2 a, [(true, [.d 0 0, .d 0 1])], [], [(false, [.d 0 0])], [], 0, 0⟩
theorem Iv [aq] : aG prog 26 A3 := ⟨Tryz.call26, fun a r h => by cases h⟩
def gW (u6 : Int) (i_1 : Int) : Option (Int) :=
 some (aN .i64 i_1 1)
def n4 : bI := ⟨[(.int .i64), (.int .i64)], [(.int .i64)], fun (a : Int × Int) => gW a.1 a.2, [(false, [.ptr 0]), (false, [.d 1 0])], [.oc 0 [.d 0 0, .nl]], [(false, [.d 0 0])], [.same], 1, 1⟩
def Dw : Hints := ⟨[], [], [], [], []⟩
theorem tJ [aq] : aG prog 58 n4 := au (H := Dw) (fin := []) Tryz.func58 Tryz.call58 (aD (l := []) trivial) rfl rfl rfl (fun a => by kernel_rfl)
def oL (aW : af) : Option (af) :=
(b_ aW).bind fun t1 =>
 bif (t1 : Int) != 0 then
 some ((af.mk 0 []))
 else
 some aW
def x5 : bI := ⟨[(.st 2)], [(.st 2)], fun (a : af) => oL a, [(true, [.d 0 0, .d 0 1])], [], [(true, [.d 0 0, .d 0 1])], [], 0, 0⟩
def M4 : Hints := ⟨[], [], [], [], []⟩
theorem CG [aq] : aG prog 155 x5 := au (H := M4) (fin := []) Tryz.func155 Tryz.call155 (aD (l := [(19, gG)]) ⟨fI, trivial⟩) rfl rfl rfl (fun a => by kernel_rfl)
def iO (x : ah) : List Value := [.int .i64 x.bw, .int .i64 x.To]
theorem lX : EncT ak iO 2 where
 size := rfl
 pos := by decide
 agg := rfl
 len := fun x => rfl
 one := fun x v hv => by simp only [iO, List.mem_cons, List.not_mem_nil, or_false] at hv; rcases hv with rfl | rfl <;> rfl
 to := fun x F w cs h => by
  match cs, h with
  | [v0, v1], ⟨h0, h1, _⟩ => cases (show v0 = .int .i64 x.bw from h0); cases (show v1 = .int .i64 x.To from h1); rfl
 of := fun x F w => ⟨rfl, rfl, trivial⟩
theorem n9 [aq] {bO r : List ah} (hm : (gX bA) bO = some r) {tG : Value × List Nat} :
  gw prog 20 [pv tG.1, pv (.func (.func 44) #[] #[])] [oa ak tG.1 tG.2 bO] (fun _ : Unit => []) (fun _ : Unit => [oa ak tG.1 tG.2 r]) :=
 L2 lX (X := Unit) (fun x y r h => Qy (t := .st 1) (@uG u7) h fun _ => rfl)
  (fun hO blk off cap d w hc hH hb hs hT => AnyQ.slices_SortFunc_total Jl 2 Tryz.isAgg55 Tryz.sizeOf55 iO (fun _ => rfl) lX.one _ hO 44 #[] blk off cap d w (enters_of Tryz.func44 (by kernel_rfl) rfl) hc hH hb hs hT)
  (fun p cap fv w => AnyF.slices_SortFunc_none Jl p cap fv w) hm
def iS : bI := SG (P := prog) (.st 1) (gX bA) [(false, [.fn 44 []])]
theorem oW [aq] : aG prog 20 iS := ⟨Tryz.call20, E6 fun s r hm h0 => n9 hm⟩
def uH (t1 : (af)) (WX : Int × (List ah)) : Option (Sum ((List ah)) (Int × (List ah))) :=
 bif decide (WX.1 < ((t1.L.length : Int))) then
(aL t1.L WX.1).bind fun t12 =>
(dh 16 WX.2 [(ah.mk t12.To t12.bw)]).bind fun t13 =>
 some (Sum.inr ((aN .i64 WX.1 1, t13)))
 else
 some (Sum.inl WX.2)
def qE (aW : af) : Option (af) :=
(oL aW).bind fun t1 =>
(aI (uH t1) ((0, []))).bind fun HQ : (List ah) =>
((gX bA) HQ).bind fun t15 =>
 some ((af.mk t1.N t15))
def CH : bI := ⟨[(.st 2)], [(.st 2)], fun (a : af) => qE a, [(true, [.d 0 0, .d 0 1])], [], [(true, [.d 0 0, .d 0 1])], [], 0, 0⟩
def K9 : Hints := ⟨[(0, ⟨[.own (.st 1) (.cell 2 1)], ⟨[(.int .i64), (.sl (.st 1))], [(2, none), (3, none), (12, none), (13, none), (14, some (false, [.d 0 0]))], [.dead, .keep, .cells [none, some (.own 4)], .dead, .jw 0 (.d 1 0)], 1⟩, [], some ([], ⟨[(.sl (.st 1))], [(2, none), (3, none)], [.dead, .keep, .cells [none, some (.own 4)], .dead, .jw 0 (.d 0 0)], 1⟩), false, none⟩)], [], [], [], []⟩
theorem JV [aq] : aG prog 158 CH := au (H := K9) (fin := [.sl (.st 1) (.cell 1 1)]) Tryz.func158 Tryz.call158 (aD (l := [(20, iS), (155, x5), (44, wm)]) ⟨oW, CG, uG, trivial⟩) rfl rfl rfl (fun a => by kernel_rfl)
def Eh (aW : af) (Tb : Int × (List Int)) : Option (Sum ((List Int)) (Int × (List Int))) :=
 bif decide (Tb.1 < ((aW.L.length : Int))) then
(aL aW.L Tb.1).bind fun t13 =>
(aL Tb.2 t13.bw).bind fun t14 =>
(Ed .u64 1 t13.To).bind fun t15 =>
(aL Tb.2 t13.bw).bind fun t16 =>
 some (Sum.inr ((aN .i64 Tb.1 1, Tb.2.set (Int.toNat t13.bw) (Yo .u64 t14 t15))))
 else
 some (Sum.inl Tb.2)
def uY (aW : af) : Option ((List Int)) :=
(uB 8 0 aW.N).bind fun out1 =>
(aI (Eh aW) ((0, out1))).bind fun q17 : (List Int) =>
 some q17
def Gb : bI := ⟨[(.st 2)], [(.sl (.int .u64))], fun (a : af) => uY a, [(true, [.d 0 0, .d 0 1])], [], [(false, [.own 0])], [.oa 0 (.d 0 0)], 0, 1⟩
def NY : Hints := ⟨[(0, ⟨[], ⟨[(.int .i64), (.sl (.int .u64))], [(2, none), (3, none), (10, none), (11, none), (12, some (false, [.d 0 0]))], [.dead, .data (.d 1 0)], 0⟩, [], some ([], ⟨[(.sl (.int .u64))], [(2, none), (3, none)], [.dead, .data (.d 0 0)], 0⟩), false, none⟩)], [], [], [], []⟩
theorem M5 [aq] : aG prog 157 Gb := au (H := NY) (fin := []) Tryz.func157 Tryz.call157 (aD (l := []) trivial) rfl rfl rfl (fun a => by kernel_rfl)
def Gc  (lu : Int × (List Int)) : Option (Sum ((List Int)) (Int × (List Int))) :=
 bif (lu.1 : Int) != 0 then
(YK lu.1).bind fun t11 =>
(dh 8 lu.2 [t11]).bind fun DT =>
 some (Sum.inr ((cE .u64 lu.1 (qq .u64 lu.1 1), DT)))
 else
 some (Sum.inl lu.2)
def td (set__0 : Int) : Option ((List Int)) :=
(aI Gc ((set__0, []))).bind fun Js : (List Int) =>
 some Js
def Iw : bI := ⟨[(.int .u64)], [(.sl (.int .i64))], fun (a : Int) => td a, [(false, [.d 0 0])], [], [(false, [.own 0])], [.oa 0 (.d 0 0)], 0, 1⟩
def Qt : Hints := ⟨[(0, ⟨[.own (.int .i64) (.slot 3 0)], ⟨[(.int .u64), (.sl (.int .i64))], [(0, some (false, [.d 0 0])), (2, none), (3, some (false, [.own 1]))], [.dead, .jw 0 (.d 1 0)], 1⟩, [], some ([], ⟨[(.sl (.int .i64))], [(2, none), (3, some (false, [.own 1]))], [.dead, .jw 0 (.d 0 0)], 1⟩), false, none⟩)], [], [], [], []⟩
theorem NZ : aG prog 156 Iw := au (H := Qt) (fin := []) Tryz.func156 Tryz.call156 (aD (l := [(143, jl)]) ⟨nr, trivial⟩) rfl rfl rfl (fun a => by kernel_rfl)
def pg (aW : af) (i_1 : Int) : Option ((List Int)) :=
(oL aW).bind fun t1 =>
 bif decide (i_1 < 0) then
 some []
 else
 bif decide (i_1 ≥ t1.N) then
 some []
 else
(uY t1).bind fun t2 =>
(aL t2 i_1).bind fun t3 =>
(td t3).bind fun t4 =>
 some t4
def A4 : bI := ⟨[(.st 2), (.int .i64)], [(.sl (.int .i64))], fun (a : af × Int) => pg a.1 a.2, [(true, [.d 0 0, .d 0 1]), (false, [.d 1 0])], [], [(false, [.own 0])], [.oa 0 (.d 0 0)], 0, 1⟩
def JW : Hints := ⟨[], [], [], [], []⟩
theorem Iy : aG prog 107 A4 := au (H := JW) (fin := [.own (.int .i64) (.slot 4 0)]) Tryz.func107 Tryz.call107 (aD (l := [(155, x5), (157, Gb), (156, Iw)]) ⟨CG, M5, NZ, trivial⟩) rfl rfl rfl (fun a => by kernel_rfl)
def fJ (aW : af) (i_1 : Int) : Option ((List Int)) :=
(qE aW).bind fun t1 =>
(pg t1 i_1).bind fun t2 =>
 some t2
def kL : bI := ⟨[(.st 2), (.int .i64)], [(.sl (.int .i64))], fun (a : af × Int) => fJ a.1 a.2, [(true, [.d 0 0, .d 0 1]), (false, [.d 1 0])], [], [(false, [.own 0])], [.oa 0 (.d 0 0)], 0, 1⟩
def Ix : Hints := ⟨[], [], [], [], []⟩
theorem mL : aG prog 108 kL := au (H := Ix) (fin := []) Tryz.func108 Tryz.call108 (aD (l := [(158, CH), (107, A4)]) ⟨JV, Iy, trivial⟩) rfl rfl rfl (fun a => by kernel_rfl)
def tH (u6 : Int) (i_1 : Int) : Option (Int) :=
 some (aN .i64 (aN .i64 u6 i_1) 1)
def tI : bI := ⟨[(.int .i64), (.int .i64)], [(.int .i64)], fun (a : Int × Int) => tH a.1 a.2, [(false, [.ptr 0]), (false, [.d 1 0])], [.oc 0 [.d 0 0, .nl]], [(false, [.d 0 0])], [.same], 1, 1⟩
def CT : Hints := ⟨[], [], [], [], []⟩
theorem Bz [aq] : aG prog 109 tI := au (H := CT) (fin := []) Tryz.func109 Tryz.call109 (aD (l := []) trivial) rfl rfl rfl (fun a => by kernel_rfl)
def tK (u6 : Int) (Ll : (List Int)) : Option (Int × (List (List Int))) :=
(dh 24 [] [Ll]).bind fun t1 =>
 some ((u6, t1))
def tL : bI := ⟨[(.int .i64), (.sl (.int .i64))], [(.int .i64), (.sl (.sl (.int .i64)))], fun (a : Int × (List Int)) => tK a.1 a.2, [(false, [.ptr 0]), (false, [.d 1 0])], [.oc 0 [.d 0 0, .nl]], [], [.oc 0 [.d 0 0, .own 1], .oa 1 (.d 1 0)], 1, 2⟩
def CU : Hints := ⟨[], [], [], [], []⟩
theorem BD [aq] : aG prog 60 tL := au (H := CU) (fin := []) Tryz.func60 Tryz.call60 (aD (l := []) trivial) rfl rfl rfl (fun a => by kernel_rfl)
def bf (u6 : Int) (LP : (List (List Int))) (i_1 : Int) : Option (Int) :=
 some (aN .i64 i_1 1)
def lG : bI := ⟨[(.int .i64), (.sl (.sl (.int .i64))), (.int .i64)], [(.int .i64)], fun (a : Int × (List (List Int)) × Int) => bf a.1 a.2.1 a.2.2, [(false, [.ptr 0]), (false, [.d 2 0])], [.oc 0 [.d 0 0, .own 1], .oa 1 (.d 1 0)], [(false, [.d 0 0])], [.same, .same], 2, 2⟩
def Al : Hints := ⟨[], [], [], [], []⟩
theorem qh [aq] : aG prog 58 lG := au (H := Al) (fin := []) Tryz.func58 Tryz.call58 (aD (l := []) trivial) rfl rfl rfl (fun a => by kernel_rfl)
def aX (u6 : Int) (LP : (List (List Int))) (i_1 : Int) : Option (Int) :=
 some (aN .i64 (aN .i64 u6 i_1) 1)
def kW : bI := ⟨[(.int .i64), (.sl (.sl (.int .i64))), (.int .i64)], [(.int .i64)], fun (a : Int × (List (List Int)) × Int) => aX a.1 a.2.1 a.2.2, [(false, [.ptr 0]), (false, [.d 2 0])], [.oc 0 [.d 0 0, .own 1], .oa 1 (.d 1 0)], [(false, [.d 0 0])], [.same, .same], 2, 2⟩
def zK : Hints := ⟨[], [], [], [], []⟩
theorem pH [aq] : aG prog 109 kW := au (H := zK) (fin := []) Tryz.func109 Tryz.call109 (aD (l := []) trivial) rfl rfl rfl (fun a => by kernel_rfl)
def aR (u6 : Int) (LP : (List (List Int))) (Ll : (List Int)) : Option (Int × (List (List Int))) :=
(dh 24 LP [Ll]).bind fun t1 =>
 some ((u6, t1))
def gT : bI := ⟨[(.int .i64), (.sl (.sl (.int .i64))), (.sl (.int .i64))], [(.int .i64), (.sl (.sl (.int .i64)))], fun (a : Int × (List (List Int)) × (List Int)) => aR a.1 a.2.1 a.2.2, [(false, [.ptr 0]), (false, [.d 2 0])], [.oc 0 [.d 0 0, .own 1], .oa 1 (.d 1 0)], [], [.oc 0 [.d 0 0, .own 2], .dead, .oa 2 (.d 1 0)], 2, 3⟩
def zL : Hints := ⟨[], [], [], [], []⟩
theorem jZ [aq] : aG prog 60 gT := au (H := zL) (fin := []) Tryz.func60 Tryz.call60 (aD (l := []) trivial) rfl rfl rfl (fun a => by kernel_rfl)
def Ak (i_2 : Int) (cw : ((List Int))) (DE : Int × Int × (List Int) × (List Int) × (List (List Int))) : Option (Sum (Int × (List Int) × (List Int) × (List (List Int))) (Int × Int × (List Int) × (List Int) × (List (List Int)))) :=
 bif decide (DE.1 < ((cw.length : Int))) then
(aL cw DE.1).bind fun t45 =>
(bf DE.2.1 DE.2.2.2.2 i_2).bind fun t46 =>
(aX DE.2.1 DE.2.2.2.2 t45).bind fun t47 =>
(aR DE.2.1 DE.2.2.2.2 [pZ .i64 t46, t47]).bind fun t48 =>
(aX t48.1 t48.2 t45).bind fun t49 =>
(dh 8 DE.2.2.1 [pZ .i64 t49]).bind fun Ho =>
(bf t48.1 t48.2 t45).bind fun t51 =>
(dh 8 DE.2.2.2.1 [t51]).bind fun Gr =>
 some (Sum.inr ((aN .i64 DE.1 1, t48.1, Ho, Gr, t48.2)))
 else
 some (Sum.inl ((DE.2.1, DE.2.2.1, DE.2.2.2.1, DE.2.2.2.2)))
def Aj (i_2 : Int) (cw : ((List Int))) (L_ : Int × Int × (List (List Int))) : Option (Sum (Int × (List (List Int))) (Int × Int × (List (List Int)))) :=
 bif decide (L_.1 < ((cw.length : Int))) then
(aL cw L_.1).bind fun t78 =>
(bf L_.2.1 L_.2.2 t78).bind fun t79 =>
(aX L_.2.1 L_.2.2 i_2).bind fun t80 =>
(aR L_.2.1 L_.2.2 [pZ .i64 t79, t80]).bind fun t81 =>
 some (Sum.inr ((aN .i64 L_.1 1, t81.1, t81.2)))
 else
 some (Sum.inl ((L_.2.1, L_.2.2)))
def BA (u6 : Int) (g_1 : af) (i_2 : Int) (L1 : Bool) : Option (Int × (List (List Int))) :=
(fJ g_1 i_2).bind fun cw =>
(gW u6 i_2).bind fun t2 =>
(tH u6 i_2).bind fun t3 =>
(tK u6 [pZ .i64 t2, pZ .i64 t3]).bind fun t4 =>
(bf t4.1 t4.2 i_2).bind fun t5 =>
(aI (Ak i_2 cw) ((0, t4.1, [t5], [], t4.2))).bind fun q53 : Int × (List Int) × (List Int) × (List (List Int)) =>
(aR q53.1 q53.2.2.2 q53.2.1).bind fun t54 =>
(aI (Aj i_2 cw) ((0, t54.1, t54.2))).bind fun q82 : Int × (List (List Int)) =>
(aX q82.1 q82.2 i_2).bind fun t83 =>
(dh 8 q53.2.2.1 [pZ .i64 t83]).bind fun t84 =>
(aR q82.1 q82.2 t84).bind fun t85 =>
 bif L1 then
(bf t85.1 t85.2 i_2).bind fun t86 =>
(aX t85.1 t85.2 i_2).bind fun t87 =>
(aR t85.1 t85.2 [t86, t87]).bind fun t88 =>
 some ((t88.1, t88.2))
 else
 some ((t85.1, t85.2))
def sq : bI := ⟨[(.int .i64), (.st 2), (.int .i64), .bool], [(.int .i64), (.sl (.sl (.int .i64)))], fun (a : Int × af × Int × Bool) => BA a.1 a.2.1 a.2.2.1 a.2.2.2, [(false, [.ptr 0]), (true, [.d 1 0, .d 1 1]), (false, [.d 2 0]), (false, [.d 3 0])], [.oc 0 [.d 0 0, .nl]], [], [.oc 0 [.d 0 0, .own 1], .oa 1 (.d 1 0)], 1, 2⟩
def BB : Hints := ⟨[(0, ⟨[], ⟨[(.int .i64), (.int .i64), (.sl (.int .i64)), (.sl (.int .i64)), (.sl (.sl (.int .i64)))], [(0, none), (2, none), (3, none), (8, none), (9, some (false, [.own 6])), (10, some (false, [.own 7])), (34, none), (35, none), (36, some (false, [.d 0 0]))], [.cells [some (.d 1 0), some (.own 8)], .dead, .keep, .dead, .dead, .dead, .jw 0 (.d 2 0), .jw 1 (.d 3 0), .jw 2 (.d 4 0)], 3⟩, [], some ([], ⟨[(.int .i64), (.sl (.int .i64)), (.sl (.int .i64)), (.sl (.sl (.int .i64)))], [(0, none), (2, none), (3, none), (8, none), (9, some (false, [.own 6])), (10, some (false, [.own 7]))], [.cells [some (.d 0 0), some (.own 8)], .dead, .keep, .dead, .dead, .dead, .jw 0 (.d 1 0), .jw 1 (.d 2 0), .jw 2 (.d 3 0)], 3⟩), false, none⟩), (2, ⟨[], ⟨[(.int .i64), (.int .i64), (.sl (.sl (.int .i64)))], [(0, none), (2, none), (3, none), (10, none), (67, none), (68, none), (69, some (false, [.d 0 0]))], [.cells [some (.d 1 0), some (.own 10)], .dead, .keep, .dead, .dead, .dead, .dead, .keep, .dead, .dead, .jw 0 (.d 2 0)], 1⟩, [], some ([], ⟨[(.int .i64), (.sl (.sl (.int .i64)))], [(0, none), (2, none), (3, none), (10, none)], [.cells [some (.d 0 0), some (.own 10)], .dead, .dead, .dead, .dead, .dead, .dead, .keep, .dead, .dead, .jw 0 (.d 1 0)], 1⟩), false, none⟩)], [], [32, 33], [], []⟩
theorem Ai : aG prog 59 sq := au (H := BB) (fin := []) Tryz.func59 Tryz.call59 (aD (l := [(108, kL), (58, n4), (109, tI), (60, tL), (58, lG), (109, kW), (60, gT)]) ⟨mL, tJ, Bz, BD, qh, pH, jZ, trivial⟩) rfl rfl rfl (fun a => by kernel_rfl)
def jE (i_2 : Int) (cw : ((List Int))) (DE : Int × Int × (List Int) × (List Int) × (List (List Int))) : Option (Sum (Int × (List Int) × (List Int) × (List (List Int))) (Int × Int × (List Int) × (List Int) × (List (List Int)))) :=
 bif decide (DE.1 < ((cw.length : Int))) then
(aL cw DE.1).bind fun t45 =>
(bf DE.2.1 DE.2.2.2.2 i_2).bind fun t46 =>
(aX DE.2.1 DE.2.2.2.2 t45).bind fun t47 =>
(aR DE.2.1 DE.2.2.2.2 [pZ .i64 t46, t47]).bind fun t48 =>
(aX t48.1 t48.2 t45).bind fun t49 =>
(dh 8 DE.2.2.1 [pZ .i64 t49]).bind fun Ho =>
(bf t48.1 t48.2 t45).bind fun t51 =>
(dh 8 DE.2.2.2.1 [t51]).bind fun Gr =>
 some (Sum.inr ((aN .i64 DE.1 1, t48.1, Ho, Gr, t48.2)))
 else
 some (Sum.inl ((DE.2.1, DE.2.2.1, DE.2.2.2.1, DE.2.2.2.2)))
def jD (i_2 : Int) (cw : ((List Int))) (L_ : Int × Int × (List (List Int))) : Option (Sum (Int × (List (List Int))) (Int × Int × (List (List Int)))) :=
 bif decide (L_.1 < ((cw.length : Int))) then
(aL cw L_.1).bind fun t78 =>
(bf L_.2.1 L_.2.2 t78).bind fun t79 =>
(aX L_.2.1 L_.2.2 i_2).bind fun t80 =>
(aR L_.2.1 L_.2.2 [pZ .i64 t79, t80]).bind fun t81 =>
 some (Sum.inr ((aN .i64 L_.1 1, t81.1, t81.2)))
 else
 some (Sum.inl ((L_.2.1, L_.2.2)))
def f_ (u6 : Int) (LP : (List (List Int))) (g_1 : af) (i_2 : Int) (L1 : Bool) : Option (Int × (List (List Int))) :=
(fJ g_1 i_2).bind fun cw =>
(bf u6 LP i_2).bind fun t2 =>
(aX u6 LP i_2).bind fun t3 =>
(aR u6 LP [pZ .i64 t2, pZ .i64 t3]).bind fun t4 =>
(bf t4.1 t4.2 i_2).bind fun t5 =>
(aI (jE i_2 cw) ((0, t4.1, [t5], [], t4.2))).bind fun q53 : Int × (List Int) × (List Int) × (List (List Int)) =>
(aR q53.1 q53.2.2.2 q53.2.1).bind fun t54 =>
(aI (jD i_2 cw) ((0, t54.1, t54.2))).bind fun q82 : Int × (List (List Int)) =>
(aX q82.1 q82.2 i_2).bind fun t83 =>
(dh 8 q53.2.2.1 [pZ .i64 t83]).bind fun t84 =>
(aR q82.1 q82.2 t84).bind fun t85 =>
 bif L1 then
(bf t85.1 t85.2 i_2).bind fun t86 =>
(aX t85.1 t85.2 i_2).bind fun t87 =>
(aR t85.1 t85.2 [t86, t87]).bind fun t88 =>
 some ((t88.1, t88.2))
 else
 some ((t85.1, t85.2))
def pI : bI := ⟨[(.int .i64), (.sl (.sl (.int .i64))), (.st 2), (.int .i64), .bool], [(.int .i64), (.sl (.sl (.int .i64)))], fun (a : Int × (List (List Int)) × af × Int × Bool) => f_ a.1 a.2.1 a.2.2.1 a.2.2.2.1 a.2.2.2.2, [(false, [.ptr 0]), (true, [.d 2 0, .d 2 1]), (false, [.d 3 0]), (false, [.d 4 0])], [.oc 0 [.d 0 0, .own 1], .oa 1 (.d 1 0)], [], [.oc 0 [.d 0 0, .own 2], .dead, .oa 2 (.d 1 0)], 2, 3⟩
def yO : Hints := ⟨[(0, ⟨[], ⟨[(.int .i64), (.int .i64), (.sl (.int .i64)), (.sl (.int .i64)), (.sl (.sl (.int .i64)))], [(0, none), (2, none), (3, none), (8, none), (9, some (false, [.own 7])), (10, some (false, [.own 8])), (34, none), (35, none), (36, some (false, [.d 0 0]))], [.cells [some (.d 1 0), some (.own 9)], .dead, .dead, .keep, .dead, .dead, .dead, .jw 0 (.d 2 0), .jw 1 (.d 3 0), .jw 2 (.d 4 0)], 3⟩, [], some ([], ⟨[(.int .i64), (.sl (.int .i64)), (.sl (.int .i64)), (.sl (.sl (.int .i64)))], [(0, none), (2, none), (3, none), (8, none), (9, some (false, [.own 7])), (10, some (false, [.own 8]))], [.cells [some (.d 0 0), some (.own 9)], .dead, .dead, .keep, .dead, .dead, .dead, .jw 0 (.d 1 0), .jw 1 (.d 2 0), .jw 2 (.d 3 0)], 3⟩), false, none⟩), (2, ⟨[], ⟨[(.int .i64), (.int .i64), (.sl (.sl (.int .i64)))], [(0, none), (2, none), (3, none), (10, none), (67, none), (68, none), (69, some (false, [.d 0 0]))], [.cells [some (.d 1 0), some (.own 11)], .dead, .dead, .keep, .dead, .dead, .dead, .dead, .keep, .dead, .dead, .jw 0 (.d 2 0)], 1⟩, [], some ([], ⟨[(.int .i64), (.sl (.sl (.int .i64)))], [(0, none), (2, none), (3, none), (10, none)], [.cells [some (.d 0 0), some (.own 11)], .dead, .dead, .dead, .dead, .dead, .dead, .dead, .keep, .dead, .dead, .jw 0 (.d 1 0)], 1⟩), false, none⟩)], [], [32, 33], [], []⟩
theorem xF : aG prog 59 pI := au (H := yO) (fin := []) Tryz.func59 Tryz.call59 (aD (l := [(108, kL), (58, lG), (109, kW), (60, gT)]) ⟨mL, qh, pH, jZ, trivial⟩) rfl rfl rfl (fun a => by kernel_rfl)
def nL (aW : af) (aO : Int) (s22 : Int × Int × (List (List Int))) : Option (Sum (Int × (List (List Int))) (Int × Int × (List (List Int)))) :=
 bif decide (s22.1 < aW.N) then
(f_ s22.2.1 s22.2.2 aW s22.1 ((aO : Int) != 1)).bind fun t23 =>
 some (Sum.inr ((aN .i64 s22.1 1, t23.1, t23.2)))
 else
 some (Sum.inl ((s22.2.1, s22.2.2)))
def oU (aW : af) (aO : Int) (n_2 : Int) : Option (Int × Int × (List (List Int))) :=
(kf aW n_2).bind fun e2 =>
 bif (e2 : Int) != 0 then
 some ((0, e2, []))
 else
(gW aW.N n_2).bind fun last3 =>
 dx (fun j7 : Int =>
(aI (nL aW aO) ((0, aW.N, []))).bind fun q24 : Int × (List (List Int)) =>
(aR q24.1 q24.2 [j7]).bind fun t25 =>
 some ((XE .i64 2 aW.N, 0, t25.2))) fun k6 =>
 dx (fun j27 : Bool =>
 bif j27 then
 k6 last3
 else
 bif (aO : Int) == 3 then
 k6 (pZ .i64 last3)
 else
 some ((0, 4, []))) fun k26 =>
 bif (aO : Int) == 1 then
 k26 ((aO : Int) == 1)
 else
 k26 ((aO : Int) == 2)
def Am : bI := ⟨[(.st 2), (.int .i64), (.int .i64)], [(.int .i64), (.int .i64), (.sl (.sl (.int .i64)))], fun (a : af × Int × Int) => oU a.1 a.2.1 a.2.2, [(true, [.d 0 0, .d 0 1]), (false, [.d 1 0]), (false, [.d 2 0])], [], [(false, [.d 0 0]), (false, [.own 0]), (false, [.d 1 0])], [.oa 0 (.d 2 0)], 0, 1⟩
def Jg : Hints := ⟨[(1, ⟨[.own (.sl (.int .i64)) (.cell 1 1)], ⟨[(.int .i64), (.int .i64), (.sl (.sl (.int .i64)))], [(1, none), (3, none), (6, none), (7, none), (8, none), (10, none), (11, none), (35, none), (36, some (false, [.d 0 0]))], [.keep, .cells [some (.d 1 0), some (.own 3)], .dead, .jw 0 (.d 2 0)], 1⟩, [], some ([], ⟨[(.int .i64), (.sl (.sl (.int .i64)))], [(3, none), (6, none), (7, none), (8, none), (10, none), (11, none)], [.keep, .cells [some (.d 0 0), some (.own 3)], .dead, .jw 0 (.d 1 0)], 1⟩), false, none⟩)], [(26, ([], ⟨[(.int .i64)], [(1, none), (3, none), (6, none), (7, none), (8, none), (10, none), (11, some (false, [.d 0 0]))], [.keep, .keep], 0⟩)), (22, ([], ⟨[.bool], [(1, none), (3, none), (6, none), (7, none), (8, none), (10, none), (11, none), (26, none), (27, some (false, [.d 0 0]))], [.keep, .keep], 0⟩))], [], [], []⟩
theorem Hy : aG prog 27 Am := au (H := Jg) (fin := [.own (.sl (.int .i64)) (.slot 7 0)]) Tryz.func27 Tryz.call27 (aD (l := [(24, qw), (58, n4), (59, sq), (59, pI), (60, gT)]) ⟨uc, tJ, Ai, xF, jZ, trivial⟩) rfl rfl rfl (fun a => by kernel_rfl)
def ia (Bw : Int) : Option (Int) :=
 some (imax Bw (pZ .i64 Bw))
def vB : bI := ⟨[(.int .i64)], [(.int .i64)], fun (a : Int) => ia a, [(false, [.d 0 0])], [], [(false, [.d 0 0])], [], 0, 0⟩
def Ry : Hints := ⟨[], [], [], [], []⟩
theorem w8 [aq] : aG prog 159 vB := au (H := Ry) (fin := []) Tryz.func159 Tryz.call159 (aD (l := []) trivial) rfl rfl rfl (fun a => by kernel_rfl)
def v7 (cG : Int) (Ll : (List Int)) (WX : Int) : Option (Sum (Sum (Int) (Unit)) (Int)) :=
 bif decide (WX < ((Ll.length : Int))) then
(aL Ll WX).bind fun t12 =>
 bif (t12 : Int) == 0 then
 some (Sum.inl (Sum.inl 1))
 else
 bif decide (t12 < (pZ .i64 cG)) then
 some (Sum.inl (Sum.inl 1))
 else
 bif decide (t12 > cG) then
 some (Sum.inl (Sum.inl 1))
 else
 some (Sum.inr (aN .i64 WX 1))
 else
 some (Sum.inl (Sum.inr (())))
def vZ (Ll : (List Int)) (s24 : Int) : Option (Sum (Sum (Int) (Unit)) (Int)) :=
 bif decide (s24 < ((Ll.length : Int))) then
(aL Ll (qq .i64 s24 1)).bind fun t25 =>
(aL Ll s24).bind fun t26 =>
(ia t25).bind fun t27 =>
(ia t26).bind fun t28 =>
 bif decide (t27 ≥ t28) then
 some (Sum.inl (Sum.inl 8))
 else
 some (Sum.inr (aN .i64 s24 1))
 else
 some (Sum.inl (Sum.inr (())))
def jH (cG : Int) (Ll : (List Int)) : Option (Int) :=
 bif decide (((Ll.length : Int)) > 50) then
 some 2
 else
(aI (v7 cG Ll) 0).bind (eH (fun a : Int => some a) fun Js : Unit =>
(aI (vZ Ll) 1).bind (eH (fun a : Int => some a) fun q29 : Unit =>
 some 0))
def xQ : bI := ⟨[(.int .i64), (.sl (.int .i64))], [(.int .i64)], fun (a : Int × (List Int)) => jH a.1 a.2, [(false, [.d 0 0]), (false, [.d 1 0])], [], [(false, [.d 0 0])], [], 0, 0⟩
def Mh : Hints := ⟨[(0, ⟨[], ⟨[(.int .i64)], [(0, none), (1, none), (4, none), (11, none), (12, none), (13, some (false, [.d 0 0]))], [], 0⟩, [], some ([], ⟨[], [(1, none), (4, none)], [], 0⟩), true, none⟩), (2, ⟨[], ⟨[(.int .i64)], [(1, none), (4, none), (7, some (false, [.d 0 0]))], [], 0⟩, [], some ([], ⟨[], [(4, none)], [], 0⟩), true, none⟩)], [], [], [], []⟩
theorem Cy [aq] : aG prog 110 xQ := au (H := Mh) (fin := []) Tryz.func110 Tryz.call110 (aD (l := [(159, vB)]) ⟨w8, trivial⟩) rfl rfl rfl (fun a => by kernel_rfl)
def b8 (Nf : List (List Int)) : Option (List (List Int)) := dh 24 [] Nf
theorem qt : Hr prog 22 (wC (rI .i64)) 24 := lg (P := prog) (c := (.sl (.int .i64))) (by kernel_rfl)
theorem zO [aq] {Nf r : List (List Int)} (hm : b8 Nf = some r) : gw prog 62 [eN (wC (rI .i64)) Nf] [] (fun (x : Value × List Nat) => [pv x.1]) (fun (x : Value × List Nat) => [oa (wC (rI .i64)) x.1 x.2 r]) := by
 have hm' : dh 24 [] Nf = some r := hm
 have hr : r = Nf := by have := (E8 hm').2; simpa using this
 subst hr
 refine A6 (X := Value × List Nat) (fn := Tryz.f62) (N := 8) (m := some ()) (r := ()) (res := fun _ x => [pv x.1]) (lB := fun _ x => [oa (wC (rI .i64)) x.1 x.2 r]) Tryz.func62 rfl rfl rfl rfl (fun E hM => ?_)
 refine aF (az (br (vq rfl) rfl (bg (aH (aF (aF ?_))))))
 refine az (br (xO rfl) rfl (mz (Vd Tryz.underlying45 rfl) rfl (fun b => bg (aH ?_))))
 refine Ou (b := b.1) rfl (fun hb => ?_) (fun hb => ?_)
 ·refine aF ?_
  refine az (br (vq rfl) rfl (bg (aH (d_ (fG ?_)))))
  have hd := b.2 hb
  subst hd
  refine pE (LA (wC (rI .i64))) ?_
  exact Cg (.inl rfl) (.slice none 0 0, []) [0] rfl ⟨rfl, trivial⟩ rfl (gA rfl)
 ·refine dS ?_
  refine aH (aF (az (mz (Jn (xs := []) (ds := []) Tryz.underlying45 qt rfl (Nat.le_of_ble_eq_true rfl) trivial) rfl (fun o => br (xO rfl) rfl (mz (DD hm' Tryz.underlying45 qt rfl (j := 0) rfl rfl) rfl (fun o2 => br (vq rfl) rfl ?_))))))
  refine bg (aH (d_ ?_))
  exact Cg (.inl rfl) o2 [0] rfl ⟨rfl, trivial⟩ rfl (gA rfl)
def rz : bI := conW3 (P := prog) (.sl (.int .i64)) b8
theorem zN [aq] : aG prog 62 rz := ⟨Tryz.call62, SF fun s r hm => zO hm⟩
def g_ (aT : (List Int)) (aP : (List (List Int))) (bh : (List (ByteArray × Int))) (bn : (List aB)) (bB : Int) (cq : Bool) (x_1 : Int) : Option (Int) :=
 bif decide (x_1 > 0) then
(aL aT (qq .i64 x_1 1)).bind fun t2 =>
 some t2
 else
(aL aT (qq .i64 (pZ .i64 x_1) 1)).bind fun t3 =>
 some (pZ .i64 t3)
def ou : bI := ⟨[(.sl (.int .i64)), (.sl (.sl (.int .i64))), (.mp .str (.int .i64)), (.sl (.st 5)), (.int .i64), .bool, (.int .i64)], [(.int .i64)], fun (a : (List Int) × (List (List Int)) × (List (ByteArray × Int)) × (List aB) × Int × Bool × Int) => g_ a.1 a.2.1 a.2.2.1 a.2.2.2.1 a.2.2.2.2.1 a.2.2.2.2.2.1 a.2.2.2.2.2.2, [(false, [.ptr 0]), (false, [.d 6 0])], [.oc 0 [.own 1, .own 2, .mp 3, .own 4, .d 4 0, .d 5 0], .oa 1 (.d 0 0), .oa 2 (.d 1 0), .oa 3 (.d 2 0), .oa 4 (.d 3 0)], [(false, [.d 0 0])], [.same, .same, .same, .same, .same], 5, 5⟩
def DK : Hints := ⟨[], [], [], [], []⟩
theorem tO [aq] : aG prog 160 ou := au (H := DK) (fin := []) Tryz.func160 Tryz.call160 (aD (l := []) trivial) rfl rfl rfl (fun a => by kernel_rfl)
def ox (aT : (List Int)) (aP : (List (List Int))) (bh : (List (ByteArray × Int))) (bn : (List aB)) (bB : Int) (cq : Bool) (t58 : (List Int)) (s82 : Int × Int) : Option (Sum (Sum (Sum (Int × Int) (Unit)) (Int)) (Int × Int)) :=
 bif decide (s82.2 < ((t58.length : Int))) then
(aL t58 s82.2).bind fun t83 =>
(g_ aT aP bh bn bB cq t83).bind fun v84 =>
 dx (fun j86 : Bool =>
 bif j86 then
 some (Sum.inl (Sum.inl (Sum.inr (()))))
 else
 bif (v84 : Int) == 0 then
 some (Sum.inr ((t83, aN .i64 s82.2 1)))
 else
 some (Sum.inr ((s82.1, aN .i64 s82.2 1)))) fun k85 =>
 bif decide (v84 > 0) then
 k85 (decide (v84 > 0))
 else
 bif (v84 : Int) == 0 then
 k85 ((s82.1 : Int) != 0)
 else
 k85 false
 else
 some (Sum.inl (Sum.inr s82.1))
def vw (aT : (List Int)) (aP : (List (List Int))) (bh : (List (ByteArray × Int))) (bn : (List aB)) (bB : Int) (cq : Bool) (Vh : Int × Int × Int) : Option (Sum (Sum (Int × Int) (Int × Int)) (Int × Int × Int)) :=
 bif decide (Vh.2.2 < ((aP.length : Int))) then
(aL aP Vh.2.2).bind fun t58 =>
(aI (ox aT aP bh bn bB cq t58) ((0, 0))).bind (eH (eH (fun a : Int × Int => some (Sum.inl (Sum.inl a))) fun o87 : Unit =>
 some (Sum.inr ((Vh.1, Vh.2.1, aN .i64 Vh.2.2 1)))) fun q88 : Int =>
 bif (q88 : Int) == 0 then
 some (Sum.inl (Sum.inl ((Vh.2.2, 0))))
 else
 bif decide (Vh.1 < 0) then
 some (Sum.inr ((Vh.2.2, q88, aN .i64 Vh.2.2 1)))
 else
 some (Sum.inr ((Vh.1, Vh.2.1, aN .i64 Vh.2.2 1))))
 else
 some (Sum.inl (Sum.inr ((Vh.1, Vh.2.1))))
def lC (aT : (List Int)) (aP : (List (List Int))) (bh : (List (ByteArray × Int))) (bn : (List aB)) (bB : Int) (cq : Bool) : Option (Int × Int) :=
(aI (vw aT aP bh bn bB cq) (((-1), 0, 0))).bind (eH (fun a : Int × Int => some a) fun q89 : Int × Int =>
 some ((q89.1, q89.2)))
def wD : bI := ⟨[(.sl (.int .i64)), (.sl (.sl (.int .i64))), (.mp .str (.int .i64)), (.sl (.st 5)), (.int .i64), .bool], [(.int .i64), (.int .i64)], fun (a : (List Int) × (List (List Int)) × (List (ByteArray × Int)) × (List aB) × Int × Bool) => lC a.1 a.2.1 a.2.2.1 a.2.2.2.1 a.2.2.2.2.1 a.2.2.2.2.2, [(false, [.ptr 0])], [.oc 0 [.own 1, .own 2, .mp 3, .own 4, .d 4 0, .d 5 0], .oa 1 (.d 0 0), .oa 2 (.d 1 0), .oa 3 (.d 2 0), .oa 4 (.d 3 0)], [(false, [.d 0 0]), (false, [.d 1 0])], [.same, .same, .same, .same, .same], 5, 5⟩
def Ff : Hints := ⟨[(0, ⟨[], ⟨[(.int .i64), (.int .i64), (.int .i64)], [(0, none), (2, none), (3, none), (4, some (false, [.d 0 0])), (5, some (false, [.d 1 0])), (15, none), (16, none), (17, some (false, [.d 2 0]))], [.keep, .keep, .keep, .keep, .keep], 0⟩, [], some ([], ⟨[(.int .i64), (.int .i64)], [(0, none), (2, none), (3, none), (4, some (false, [.d 0 0])), (5, some (false, [.d 1 0]))], [.keep, .keep, .keep, .keep, .keep], 0⟩), true, none⟩), (2, ⟨[], ⟨[(.int .i64), (.int .i64)], [(0, none), (2, none), (3, none), (4, none), (5, none), (6, none), (8, some (false, [.d 0 0])), (15, none), (16, none), (17, none), (22, none), (23, none), (24, some (false, [.d 1 0]))], [.keep, .keep, .keep, .keep, .keep], 0⟩, [], some ([], ⟨[(.int .i64)], [(0, none), (2, none), (3, none), (4, none), (5, none), (6, none), (8, some (false, [.d 0 0])), (15, none), (16, none), (17, none)], [.keep, .keep, .keep, .keep, .keep], 0⟩), false, some (1, ([], ⟨[], [(0, none), (2, none), (3, none), (4, none), (5, none), (15, none), (16, none), (17, none)], [.keep, .keep, .keep, .keep, .keep], 0⟩))⟩)], [(26, ([], ⟨[.bool], [(0, none), (2, none), (3, none), (4, none), (5, none), (6, none), (8, none), (10, none), (11, none), (15, none), (16, none), (17, none), (22, none), (23, none), (24, none), (31, some (false, [.d 0 0]))], [.keep, .keep, .keep, .keep, .keep], 0⟩))], [], [], []⟩
theorem DN [aq] : aG prog 111 wD := au (H := Ff) (fin := []) Tryz.func111 Tryz.call111 (aD (l := [(160, ou)]) ⟨tO, trivial⟩) rfl rfl rfl (fun a => by kernel_rfl)
def mA (aT : (List Int)) (aP : (List (List Int))) (bh : (List (ByteArray × Int))) (bn : (List aB)) (bB : Int) (cq : Bool) (t24 : (List Int)) (s31 : Int × Int) : Option (Sum (Sum (Sum (Int) (Unit)) (Int)) (Int × Int)) :=
 bif decide (s31.2 < ((t24.length : Int))) then
(aL t24 s31.2).bind fun t32 =>
(g_ aT aP bh bn bB cq t32).bind fun t33 =>
 bif (t33 : Int) == 1 then
 some (Sum.inl (Sum.inl (Sum.inr (()))))
 else
 bif (t33 : Int) == 0 then
 bif (s31.1 : Int) == 0 then
 some (Sum.inr ((t32, aN .i64 s31.2 1)))
 else
 some (Sum.inr ((s31.1, aN .i64 s31.2 1)))
 else
 some (Sum.inr ((s31.1, aN .i64 s31.2 1)))
 else
 some (Sum.inl (Sum.inr s31.1))
def sH (aT : (List Int)) (aP : (List (List Int))) (bh : (List (ByteArray × Int))) (bn : (List aB)) (bB : Int) (cq : Bool) (QY : Int) : Option (Sum (Sum (Int) (Unit)) (Int)) :=
 bif decide (QY < ((aP.length : Int))) then
(aL aP QY).bind fun t24 =>
(aI (mA aT aP bh bn bB cq t24) ((0, 0))).bind (eH (eH (fun a : Int => some (Sum.inl (Sum.inl a))) fun o34 : Unit =>
 some (Sum.inr (aN .i64 QY 1))) fun q35 : Int =>
 some (Sum.inl (Sum.inl q35)))
 else
 some (Sum.inl (Sum.inr (())))
def jT (aT : (List Int)) (aP : (List (List Int))) (bh : (List (ByteArray × Int))) (bn : (List aB)) (bB : Int) (cq : Bool) : Option (Int) :=
(aI (sH aT aP bh bn bB cq) 0).bind (eH (fun a : Int => some a) fun q36 : Unit =>
 some 0)
def tP : bI := ⟨[(.sl (.int .i64)), (.sl (.sl (.int .i64))), (.mp .str (.int .i64)), (.sl (.st 5)), (.int .i64), .bool], [(.int .i64)], fun (a : (List Int) × (List (List Int)) × (List (ByteArray × Int)) × (List aB) × Int × Bool) => jT a.1 a.2.1 a.2.2.1 a.2.2.2.1 a.2.2.2.2.1 a.2.2.2.2.2, [(false, [.ptr 0])], [.oc 0 [.own 1, .own 2, .mp 3, .own 4, .d 4 0, .d 5 0], .oa 1 (.d 0 0), .oa 2 (.d 1 0), .oa 3 (.d 2 0), .oa 4 (.d 3 0)], [(false, [.d 0 0])], [.same, .same, .same, .same, .same], 5, 5⟩
def C5 : Hints := ⟨[(0, ⟨[], ⟨[(.int .i64)], [(0, none), (2, none), (11, none), (12, none), (13, some (false, [.d 0 0]))], [.keep, .keep, .keep, .keep, .keep], 0⟩, [], some ([], ⟨[], [(0, none), (2, none)], [.keep, .keep, .keep, .keep, .keep], 0⟩), true, none⟩), (2, ⟨[], ⟨[(.int .i64), (.int .i64)], [(0, none), (2, none), (5, some (false, [.d 0 0])), (11, none), (12, none), (13, none), (17, none), (18, none), (19, some (false, [.d 1 0]))], [.keep, .keep, .keep, .keep, .keep], 0⟩, [], some ([], ⟨[(.int .i64)], [(0, none), (2, none), (5, some (false, [.d 0 0]))], [.keep, .keep, .keep, .keep, .keep], 0⟩), false, some (1, ([], ⟨[], [(0, none), (2, none), (11, none), (12, none), (13, none)], [.keep, .keep, .keep, .keep, .keep], 0⟩))⟩)], [], [], [], []⟩
theorem BR [aq] : aG prog 112 tP := au (H := C5) (fin := []) Tryz.func112 Tryz.call112 (aD (l := [(160, ou)]) ⟨tO, trivial⟩) rfl rfl rfl (fun a => by kernel_rfl)
def eU (aT : (List Int)) (aP : (List (List Int))) (bh : (List (ByteArray × Int))) (bn : (List aB)) (bB : Int) (cq : Bool) (x_1 : Int) (U6 : Int) : Option ((List Int)) :=
 bif decide (x_1 < 0) then
(aL aT (qq .i64 (pZ .i64 x_1) 1)).bind fun t1 =>
 some (aT.set (Int.toNat (qq .i64 (pZ .i64 x_1) 1)) (pZ .i64 U6))
 else
(aL aT (qq .i64 x_1 1)).bind fun t2 =>
 some (aT.set (Int.toNat (qq .i64 x_1 1)) U6)
def xP : bI := ⟨[(.sl (.int .i64)), (.sl (.sl (.int .i64))), (.mp .str (.int .i64)), (.sl (.st 5)), (.int .i64), .bool, (.int .i64), (.int .i64)], [(.sl (.int .i64))], fun (a : (List Int) × (List (List Int)) × (List (ByteArray × Int)) × (List aB) × Int × Bool × Int × Int) => eU a.1 a.2.1 a.2.2.1 a.2.2.2.1 a.2.2.2.2.1 a.2.2.2.2.2.1 a.2.2.2.2.2.2.1 a.2.2.2.2.2.2.2, [(false, [.ptr 0]), (false, [.d 6 0]), (false, [.d 7 0])], [.oc 0 [.own 1, .own 2, .mp 3, .own 4, .d 4 0, .d 5 0], .oa 1 (.d 0 0), .oa 2 (.d 1 0), .oa 3 (.d 2 0), .oa 4 (.d 3 0)], [], [.same, .oa 1 (.d 0 0), .same, .same, .same], 5, 5⟩
def Gt : Hints := ⟨[], [], [], [], []⟩
theorem Fe [aq] : aG prog 161 xP := au (H := Gt) (fin := []) Tryz.func161 Tryz.call161 (aD (l := []) trivial) rfl rfl rfl (fun a => by kernel_rfl)
def e8 : bI := ⟨[(.sl (.int .i64)), (.sl (.sl (.int .i64))), (.mp .str (.int .i64)), (.sl (.st 5)), (.int .i64), .bool], [(.int .i64), (.sl (.int .i64)), (.mp .str (.int .i64)), (.int .i64), .bool, (.sl (.sl (.int .i64))), (.sl (.st 5))], fun _ => none, [(false, [.ptr 0])], [.oc 0 [.own 1, .own 2, .mp 3, .own 4, .d 4 0, .d 5 0], .oa 1 (.d 0 0), .oa 2 (.d 1 0), .oa 3 (.d 2 0), .oa 4 (.d 3 0)], [(false, [.d 0 0])], [.oc 0 [.own 1, .own 5, .mp 3, .own 6, .d 3 0, .d 4 0], .oa 1 (.d 1 0), .dead, .oa 3 (.d 2 0), .dead, .oa 5 (.d 5 0), .oa 6 (.d 6 0)], 5, 7⟩
def cB (aU : (List Int) → (List (List Int)) → (List (ByteArray × Int)) → (List aB) → Int → Bool → Option (Int × (List Int) × (List (ByteArray × Int)) × Int × Bool × (List (List Int)) × (List aB))) (aT : (List Int)) (aP : (List (List Int))) (bh : (List (ByteArray × Int))) (bn : (List aB)) (bB : Int) (cq : Bool) (x_1 : Int) : Option (Int × (List Int) × (List (ByteArray × Int)) × Int × Bool × (List (List Int)) × (List aB)) :=
(eU aT aP bh bn bB cq x_1 1).bind fun t1 =>
(aU t1 aP bh bn bB cq).bind fun n2 =>
 bif decide (n2.1 ≥ 0) then
(eU n2.2.1 n2.2.2.2.2.2.1 n2.2.2.1 n2.2.2.2.2.2.2 n2.2.2.2.1 n2.2.2.2.2.1 x_1 0).bind fun t3 =>
 some ((n2.1, t3, n2.2.2.1, n2.2.2.2.1, n2.2.2.2.2.1, n2.2.2.2.2.2.1, n2.2.2.2.2.2.2))
 else
 bif n2.2.2.2.2.1 then
(eU n2.2.1 n2.2.2.2.2.2.1 n2.2.2.1 n2.2.2.2.2.2.2 n2.2.2.2.1 n2.2.2.2.2.1 x_1 0).bind fun t4 =>
 some ((n2.1, t4, n2.2.2.1, n2.2.2.2.1, n2.2.2.2.2.1, n2.2.2.2.2.2.1, n2.2.2.2.2.2.2))
 else
 some ((n2.1, n2.2.1, n2.2.2.1, n2.2.2.2.1, n2.2.2.2.2.1, n2.2.2.2.2.2.1, n2.2.2.2.2.2.2))
def vu (aU : (List Int) → (List (List Int)) → (List (ByteArray × Int)) → (List aB) → Int → Bool → Option (Int × (List Int) × (List (ByteArray × Int)) × Int × Bool × (List (List Int)) × (List aB))) : bI := ⟨[(.sl (.int .i64)), (.sl (.sl (.int .i64))), (.mp .str (.int .i64)), (.sl (.st 5)), (.int .i64), .bool, (.int .i64)], [(.int .i64), (.sl (.int .i64)), (.mp .str (.int .i64)), (.int .i64), .bool, (.sl (.sl (.int .i64))), (.sl (.st 5))], fun (a : (List Int) × (List (List Int)) × (List (ByteArray × Int)) × (List aB) × Int × Bool × Int) => cB aU a.1 a.2.1 a.2.2.1 a.2.2.2.1 a.2.2.2.2.1 a.2.2.2.2.2.1 a.2.2.2.2.2.2, [(false, [.ptr 0]), (false, [.d 6 0])], [.oc 0 [.own 1, .own 2, .mp 3, .own 4, .d 4 0, .d 5 0], .oa 1 (.d 0 0), .oa 2 (.d 1 0), .oa 3 (.d 2 0), .oa 4 (.d 3 0)], [(false, [.d 0 0])], [.oc 0 [.own 1, .own 5, .mp 3, .own 6, .d 3 0, .d 4 0], .oa 1 (.d 1 0), .dead, .oa 3 (.d 2 0), .dead, .oa 5 (.d 5 0), .oa 6 (.d 6 0)], 5, 7⟩
def DL : Hints := ⟨[], [], [], [], []⟩
theorem CZ {aU : (List Int) → (List (List Int)) → (List (ByteArray × Int)) → (List aB) → Int → Bool → Option (Int × (List Int) × (List (ByteArray × Int)) × Int × Bool × (List (List Int)) × (List aB))} (cT : aG prog 63 (e8.with fun (a : (List Int) × (List (List Int)) × (List (ByteArray × Int)) × (List aB) × Int × Bool) => aU a.1 a.2.1 a.2.2.1 a.2.2.2.1 a.2.2.2.2.1 a.2.2.2.2.2)) : aG prog 113 (vu aU) := au (H := DL) (fin := []) Tryz.func113 Tryz.call113 (aD (l := [(161, xP), (63, (e8.with fun (a : (List Int) × (List (List Int)) × (List (ByteArray × Int)) × (List aB) × Int × Bool) => aU a.1 a.2.1 a.2.2.1 a.2.2.2.1 a.2.2.2.2.1 a.2.2.2.2.2))]) ⟨Fe, cT, trivial⟩) rfl rfl rfl (fun a => by kernel_rfl)
def ry (bO : (List Int)) (v_1 : Int) (s5 : Int) : Option (Sum (Sum (Int) (Unit)) (Int)) :=
 bif decide (s5 < ((bO.length : Int))) then
(aL bO s5).bind fun t6 =>
 bif (v_1 : Int) == t6 then
 some (Sum.inl (Sum.inl s5))
 else
 some (Sum.inr (aN .i64 s5 1))
 else
 some (Sum.inl (Sum.inr (())))
def jd (bO : (List Int)) (v_1 : Int) : Option (Int) :=
(aI (ry bO v_1) 0).bind (eH (fun a : Int => some a) fun q7 : Unit =>
 some ((-1)))
def su : bI := ⟨[(.sl (.int .i64)), (.int .i64)], [(.int .i64)], fun (a : (List Int) × Int) => jd a.1 a.2, [(false, [.d 0 0]), (false, [.d 1 0])], [], [(false, [.d 0 0])], [], 0, 0⟩
def BE : Hints := ⟨[(0, ⟨[], ⟨[(.int .i64)], [(0, none), (1, none), (4, none), (7, none), (8, some (false, [.d 0 0]))], [], 0⟩, [], some ([], ⟨[], [(4, none)], [], 0⟩), true, none⟩)], [], [], [], []⟩
theorem Ao [aq] : aG prog 162 su := au (H := BE) (fin := []) Tryz.func162 Tryz.call162 (aD (l := []) trivial) rfl rfl rfl (fun a => by kernel_rfl)
def bE (bO : (List Int)) (v_1 : Int) : Option (Bool) :=
(jd bO v_1).bind fun t1 =>
 some (decide (t1 ≥ 0))
def j9 : bI := ⟨[(.sl (.int .i64)), (.int .i64)], [.bool], fun (a : (List Int) × Int) => bE a.1 a.2, [(false, [.d 0 0]), (false, [.d 1 0])], [], [(false, [.d 0 0])], [], 0, 0⟩
def yR : Hints := ⟨[], [], [], [], []⟩
theorem oo [aq] : aG prog 114 j9 := au (H := yR) (fin := []) Tryz.func114 Tryz.call114 (aD (l := [(162, su)]) ⟨Ao, trivial⟩) rfl rfl rfl (fun a => by kernel_rfl)
def bK (Bw : Int) (WA : Int) : Option (Int) :=
(ia Bw).bind fun t1 =>
(ia WA).bind fun t2 =>
(bT t1 t2).bind fun t3 =>
(bT Bw WA).bind fun t4 =>
(gU [t3, t4]).bind fun t5 =>
 some t5
def zh : bI := ⟨[(.int .i64), (.int .i64)], [(.int .i64)], fun (a : Int × Int) => bK a.1 a.2, [(false, [.d 0 0]), (false, [.d 1 0])], [], [(false, [.d 0 0])], [], 0, 0⟩
def HT : Hints := ⟨[], [], [], [], []⟩
theorem xR [aq] : aG prog 195 zh := au (H := HT) (fin := []) Tryz.func195 Tryz.call195 (aD (l := [(159, vB), (48, kV), (47, xm)]) ⟨w8, mS, Aa, trivial⟩) rfl rfl rfl (fun a => by kernel_rfl)
theorem wV [aq] {bO r : List Int} (hm : (gX bK) bO = some r) {tG : Value × List Nat} :
  gw prog 194 [pv tG.1, pv (.func (.func 195) #[] #[])] [oa (rI .i64) tG.1 tG.2 bO] (fun _ : Unit => []) (fun _ : Unit => [oa (rI .i64) tG.1 tG.2 r]) :=
 YV (X := Unit) (fun x y r h => Qy (t := .int .i64) (@xR u7) h fun _ => rfl)
  (fun hO blk off cap d w hc hH hb hs hT => Any.slices_SortFunc_total YY encI encI_one _ hO 195 #[] blk off cap d w (enters_of Tryz.func195 (by kernel_rfl) rfl) hc hH hb hs hT)
  (fun p cap fv w => AnyF.slices_SortFunc_none { YY with } p cap fv w) hm
def pJ : bI := SG (P := prog) (.int .i64) (gX bK) [(false, [.fn 195 []])]
theorem xG [aq] : aG prog 194 pJ := ⟨Tryz.call194, E6 fun s r hm h0 => wV hm⟩
def qk : bI := conW1 (P := prog) (.int .i64) ym
theorem yT [aq] : aG prog 196 qk := ⟨Tryz.call196, conW1_ok fun s r hm h0 => HH hm⟩
def Gw (cG : Int) (Ll : (List Int)) (WX : Int) : Option (Sum (Sum (Int) (Unit)) (Int)) :=
 bif decide (WX < ((Ll.length : Int))) then
(aL Ll WX).bind fun t12 =>
 bif (t12 : Int) == 0 then
 some (Sum.inl (Sum.inl 1))
 else
 bif decide (t12 < (pZ .i64 cG)) then
 some (Sum.inl (Sum.inl 1))
 else
 bif decide (t12 > cG) then
 some (Sum.inl (Sum.inl 1))
 else
 some (Sum.inr (aN .i64 WX 1))
 else
 some (Sum.inl (Sum.inr (())))
def Gv (Ll : (List Int)) (s24 : Int) : Option (Sum (Sum (Int) (Unit)) (Int)) :=
 bif decide (s24 < ((Ll.length : Int))) then
(aL Ll (qq .i64 s24 1)).bind fun t25 =>
(aL Ll s24).bind fun t26 =>
(ia t25).bind fun t27 =>
(ia t26).bind fun t28 =>
 bif decide (t27 ≥ t28) then
 some (Sum.inl (Sum.inl 8))
 else
 some (Sum.inr (aN .i64 s24 1))
 else
 some (Sum.inl (Sum.inr (())))
def sI (cG : Int) (Ll : (List Int)) : Option (Int) :=
 bif decide (((Ll.length : Int)) > 50) then
 some 2
 else
(aI (Gw cG Ll) 0).bind (eH (fun a : Int => some a) fun Js : Unit =>
(aI (Gv Ll) 1).bind (eH (fun a : Int => some a) fun q29 : Unit =>
 some 0))
def zg : bI := ⟨[(.int .i64), (.sl (.int .i64))], [(.int .i64)], fun (a : Int × (List Int)) => sI a.1 a.2, [(false, [.d 0 0]), (false, [.own 0])], [.oa 0 (.d 1 0)], [(false, [.d 0 0])], [.same], 1, 1⟩
def HR : Hints := ⟨[(0, ⟨[], ⟨[(.int .i64)], [(0, none), (1, none), (4, none), (11, none), (12, none), (13, some (false, [.d 0 0]))], [.keep], 0⟩, [], some ([], ⟨[], [(1, none), (4, none)], [.keep], 0⟩), true, none⟩), (2, ⟨[], ⟨[(.int .i64)], [(1, none), (4, none), (7, some (false, [.d 0 0]))], [.keep], 0⟩, [], some ([], ⟨[], [(1, none), (4, none)], [.keep], 0⟩), true, none⟩)], [], [], [], []⟩
theorem Gu [aq] : aG prog 110 zg := au (H := HR) (fin := []) Tryz.func110 Tryz.call110 (aD (l := [(159, vB)]) ⟨w8, trivial⟩) rfl rfl rfl (fun a => by kernel_rfl)
def uu (zj : Int) (t92 : (List Int)) (TA : Int × (List Int)) : Option (Sum ((List Int)) (Int × (List Int))) :=
 bif decide (TA.1 < ((t92.length : Int))) then
(aL t92 TA.1).bind fun t102 =>
(ia t102).bind fun t103 =>
 bif (t103 : Int) != zj then
(dh 8 TA.2 [t102]).bind fun out104 =>
 some (Sum.inr ((aN .i64 TA.1 1, out104)))
 else
 some (Sum.inr ((aN .i64 TA.1 1, TA.2)))
 else
 some (Sum.inl TA.2)
def gD (qg : (List Int)) (b_1 : (List Int)) (zj : Int) (s91 : Int × (List Int)) : Option (Sum ((List Int)) (Int × (List Int))) :=
 bif decide (s91.1 < (([qg, b_1].length : Int))) then
(aL [qg, b_1] s91.1).bind fun t92 =>
(aI (uu zj t92) ((0, s91.2))).bind fun Zw : (List Int) =>
 some (Sum.inr ((aN .i64 s91.1 1, Zw)))
 else
 some (Sum.inl s91.2)
def qB (qg : (List Int)) (b_1 : (List Int)) (zj : Int) : Option (Bool × (List Int)) :=
 bif decide (zj < 1) then
 some ((false, []))
 else
(jH 200 qg).bind fun t3 =>
 bif (t3 : Int) != 0 then
 some ((false, []))
 else
(jH 200 b_1).bind fun t4 =>
 bif (t4 : Int) != 0 then
 some ((false, []))
 else
(bE qg zj).bind fun t7 =>
 bif !t7 then
 some ((false, []))
 else
(bE b_1 (pZ .i64 zj)).bind fun t8 =>
 bif !t8 then
 some ((false, []))
 else
(aI (gD qg b_1 zj) ((0, []))).bind fun q106 : (List Int) =>
((gX bK) q106).bind fun t107 =>
(ym t107).bind fun ZI =>
(sI 200 ZI).bind fun t109 =>
 bif (t109 : Int) != 0 then
 some ((false, []))
 else
 some ((true, ZI))
def Cz : bI := ⟨[(.sl (.int .i64)), (.sl (.int .i64)), (.int .i64)], [.bool, (.sl (.int .i64))], fun (a : (List Int) × (List Int) × Int) => qB a.1 a.2.1 a.2.2, [(false, [.d 0 0]), (false, [.d 1 0]), (false, [.d 2 0])], [], [(false, [.own 0]), (false, [.d 0 0])], [.oa 0 (.d 1 0)], 0, 1⟩
def KX : Hints := ⟨[(0, ⟨[.own (.int .i64) (.slot 8 0)], ⟨[(.int .i64), (.sl (.int .i64))], [(2, none), (6, none), (7, none), (8, some (false, [.own 1])), (38, none), (39, none), (40, some (false, [.d 0 0]))], [.dead, .jw 0 (.d 1 0)], 1⟩, [], some ([], ⟨[(.sl (.int .i64))], [(6, none), (7, none), (8, some (false, [.own 1]))], [.dead, .jw 0 (.d 0 0)], 1⟩), false, none⟩), (2, ⟨[], ⟨[(.int .i64), (.sl (.int .i64))], [(2, none), (6, none), (7, none), (8, some (false, [.own 2])), (38, none), (39, none), (40, none), (44, none), (45, none), (46, some (false, [.d 0 0]))], [.dead, .dead, .jw 0 (.d 1 0)], 1⟩, [], some ([], ⟨[(.sl (.int .i64))], [(2, none), (6, none), (7, none), (8, some (false, [.own 2])), (38, none), (39, none), (40, none)], [.dead, .dead, .jw 0 (.d 0 0)], 1⟩), false, none⟩)], [], [], [], []⟩
theorem Ju [aq] : aG prog 163 Cz := au (H := KX) (fin := [.own (.int .i64) (.slot 6 0)]) Tryz.func163 Tryz.call163 (aD (l := [(194, pJ), (196, qk), (110, zg), (110, xQ), (114, j9), (159, vB), (195, zh)]) ⟨xG, yT, Gu, Cy, oo, w8, xR, trivial⟩) rfl rfl rfl (fun a => by kernel_rfl)
theorem keyM_ok : Pn prog 164 ⟨[.sl (.int .i64)], [.str], K3, [(false, [.d 0 0])], [], [(false, [.d 0 0])], [], 0, 0⟩ := fun a r h hs =>
 (keyM_fn (fun h => h) (g := 1) (by kernel_rfl) (by first | exact .head _ | exact .tail _ (.head _)) h).re fun x F w _ => ⟨⟨hs, fun i hi => absurd hi (Nat.not_lt_zero i)⟩, rfl, rfl⟩
def KD : bI := ⟨[.sl (.int .i64)], [.str], K3, [(false, [.d 0 0])], [], [(false, [.d 0 0])], [], 0, 0⟩
theorem PT : aG prog 164 KD := ⟨Tryz.call164, keyM_ok⟩
def dU (aT : (List Int)) (aP : (List (List Int))) (bh : (List (ByteArray × Int))) (bn : (List aB)) (bB : Int) (cq : Bool) (i_1 : Int) (k_2 : Int) (x_3 : Int) : Option (Int × (List (ByteArray × Int)) × Int × Bool × (List (List Int)) × (List aB)) :=
 dx (fun j2 : Int × Int × Int =>
(aL aP j2.1).bind fun t6 =>
(aL aP j2.2.1).bind fun t7 =>
(qB t6 t7 j2.2.2).bind fun t8 =>
 dx (fun LF : Bool =>
 bif LF then
 some (((-1), bh, bB, true, aP, bn))
 else
(K3 t8.2).bind fun t13 =>
 dx (fun j15 : Unit =>
(dh 24 bn [(aB.mk j2.1 j2.2.1 j2.2.2)]).bind fun t16 =>
(dh 24 aP [t8.2]).bind fun t17 =>
 some ((qq .i64 ((t17.length : Int)) 1, iq bh t13 (qq .i64 ((t17.length : Int)) 1), bB, cq, t17, t16))) fun k14 =>
 bif sU bh t13 then
 bif decide (((t8.2.length : Int)) > 0) then
 some ((cF bh t13 0, bh, bB, cq, aP, bn))
 else
 k14 (())
 else
 k14 (())) fun Ht =>
 bif !t8.1 then
 Ht true
 else
 Ht (((bn.length : Int) : Int) == 20000)) fun k1 =>
 bif decide (x_3 < 0) then
 k1 ((k_2, i_1, pZ .i64 x_3))
 else
 k1 ((i_1, k_2, x_3))
def vA : bI := ⟨[(.sl (.int .i64)), (.sl (.sl (.int .i64))), (.mp .str (.int .i64)), (.sl (.st 5)), (.int .i64), .bool, (.int .i64), (.int .i64), (.int .i64)], [(.int .i64), (.mp .str (.int .i64)), (.int .i64), .bool, (.sl (.sl (.int .i64))), (.sl (.st 5))], fun (a : (List Int) × (List (List Int)) × (List (ByteArray × Int)) × (List aB) × Int × Bool × Int × Int × Int) => dU a.1 a.2.1 a.2.2.1 a.2.2.2.1 a.2.2.2.2.1 a.2.2.2.2.2.1 a.2.2.2.2.2.2.1 a.2.2.2.2.2.2.2.1 a.2.2.2.2.2.2.2.2, [(false, [.ptr 0]), (false, [.d 6 0]), (false, [.d 7 0]), (false, [.d 8 0])], [.oc 0 [.own 1, .own 2, .mp 3, .own 4, .d 4 0, .d 5 0], .oa 1 (.d 0 0), .oa 2 (.d 1 0), .oa 3 (.d 2 0), .oa 4 (.d 3 0)], [(false, [.d 0 0])], [.oc 0 [.own 1, .own 5, .mp 3, .own 6, .d 2 0, .d 3 0], .same, .dead, .oa 3 (.d 1 0), .dead, .oa 5 (.d 4 0), .oa 6 (.d 5 0)], 5, 7⟩
def DP : Hints := ⟨[], [(8, ([], ⟨[(.int .i64), (.int .i64), (.int .i64)], [(0, none), (1, some (false, [.d 0 0])), (2, some (false, [.d 1 0])), (3, some (false, [.d 2 0])), (8, none)], [.keep, .keep, .keep, .keep, .keep], 0⟩)), (12, ([], ⟨[.bool], [(0, none), (1, none), (2, none), (3, none), (8, none), (9, none), (48, some (false, [.d 0 0]))], [.keep, .keep, .keep, .keep, .keep, .keep], 0⟩)), (24, ([], ⟨[], [(0, none), (1, none), (2, none), (3, none), (8, none), (9, none), (11, none)], [.keep, .keep, .keep, .keep, .keep, .dead], 0⟩))], [], [], []⟩
theorem C3 : aG prog 115 vA := au (H := DP) (fin := []) Tryz.func115 Tryz.call115 (aD (l := [(163, Cz), (164, KD)]) ⟨Ju, PT, trivial⟩) rfl rfl rfl (fun a => by kernel_rfl)
def eA (aU : (List Int) → (List (List Int)) → (List (ByteArray × Int)) → (List aB) → Int → Bool → Option (Int × (List Int) × (List (ByteArray × Int)) × Int × Bool × (List (List Int)) × (List aB))) (aT : (List Int)) (aP : (List (List Int))) (bh : (List (ByteArray × Int))) (bn : (List aB)) (bB : Int) (cq : Bool) : Option (Int × (List Int) × (List (ByteArray × Int)) × Int × Bool × (List (List Int)) × (List aB)) :=
 dx (fun j2 : Int × Bool =>
 bif j2.2 then
 some (((-1), aT, bh, j2.1, j2.2, aP, bn))
 else
(lC aT aP bh bn j2.1 j2.2).bind fun t3 =>
 dx (fun j5 : Unit =>
 dx (fun j8 : Int =>
(cB aU aT aP bh bn j2.1 j2.2 j8).bind fun aY =>
 bif decide (aY.1 < 0) then
 some ((aY.1, aY.2.1, aY.2.2.1, aY.2.2.2.1, aY.2.2.2.2.1, aY.2.2.2.2.2.1, aY.2.2.2.2.2.2))
 else
 bif aY.2.2.2.2.1 then
 some ((aY.1, aY.2.1, aY.2.2.1, aY.2.2.2.1, aY.2.2.2.2.1, aY.2.2.2.2.2.1, aY.2.2.2.2.2.2))
 else
(aL aY.2.2.2.2.2.1 aY.1).bind fun t12 =>
(bE t12 (pZ .i64 j8)).bind fun t13 =>
 bif !t13 then
 some ((aY.1, aY.2.1, aY.2.2.1, aY.2.2.2.1, aY.2.2.2.2.1, aY.2.2.2.2.2.1, aY.2.2.2.2.2.2))
 else
 bif decide (t3.1 < 0) then
(cB aU aY.2.1 aY.2.2.2.2.2.1 aY.2.2.1 aY.2.2.2.2.2.2 aY.2.2.2.1 aY.2.2.2.2.1 (pZ .i64 j8)).bind fun bq =>
 bif decide (bq.1 < 0) then
 some ((bq.1, bq.2.1, bq.2.2.1, bq.2.2.2.1, bq.2.2.2.2.1, bq.2.2.2.2.2.1, bq.2.2.2.2.2.2))
 else
 bif bq.2.2.2.2.1 then
 some ((bq.1, bq.2.1, bq.2.2.1, bq.2.2.2.1, bq.2.2.2.2.1, bq.2.2.2.2.2.1, bq.2.2.2.2.2.2))
 else
(aL bq.2.2.2.2.2.1 bq.1).bind fun t15 =>
(bE t15 j8).bind fun t16 =>
 bif !t16 then
 some ((bq.1, bq.2.1, bq.2.2.1, bq.2.2.2.1, bq.2.2.2.2.1, bq.2.2.2.2.2.1, bq.2.2.2.2.2.2))
 else
(dU bq.2.1 bq.2.2.2.2.2.1 bq.2.2.1 bq.2.2.2.2.2.2 bq.2.2.2.1 bq.2.2.2.2.1 bq.1 aY.1 j8).bind fun t17 =>
 some ((t17.1, bq.2.1, t17.2.1, t17.2.2.1, t17.2.2.2.1, t17.2.2.2.2.1, t17.2.2.2.2.2))
 else
(dU aY.2.1 aY.2.2.2.2.2.1 aY.2.2.1 aY.2.2.2.2.2.2 aY.2.2.2.1 aY.2.2.2.2.1 t3.1 aY.1 j8).bind fun t18 =>
 some ((t18.1, aY.2.1, t18.2.1, t18.2.2.1, t18.2.2.2.1, t18.2.2.2.2.1, t18.2.2.2.2.2))) fun k7 =>
 bif decide (t3.1 < 0) then
(jT aT aP bh bn j2.1 j2.2).bind fun x19 =>
 bif (x19 : Int) == 0 then
 some (((-1), aT, bh, j2.1, j2.2, aP, bn))
 else
 k7 x19
 else
 k7 t3.2) fun k4 =>
 bif decide (t3.1 ≥ 0) then
 bif (t3.2 : Int) == 0 then
 some ((t3.1, aT, bh, j2.1, j2.2, aP, bn))
 else
 k4 (())
 else
 k4 (())) fun k1 =>
 bif decide ((aN .i64 bB 1) > 9000) then
 k1 ((aN .i64 bB 1, true))
 else
 k1 ((aN .i64 bB 1, cq))
def cV (n : Nat) : (List Int) → (List (List Int)) → (List (ByteArray × Int)) → (List aB) → Int → Bool → Option (Int × (List Int) × (List (ByteArray × Int)) × Int × Bool × (List (List Int)) × (List aB)) := Nat.rec (fun _ _ _ _ _ _ => none) (fun _ f => eA f) n
def pS (aT : (List Int)) (aP : (List (List Int))) (bh : (List (ByteArray × Int))) (bn : (List aB)) (bB : Int) (cq : Bool) : Option (Int × (List Int) × (List (ByteArray × Int)) × Int × Bool × (List (List Int)) × (List aB)) := K0 (fun n (a : (List Int) × (List (List Int)) × (List (ByteArray × Int)) × (List aB) × Int × Bool) => cV n a.1 a.2.1 a.2.2.1 a.2.2.2.1 a.2.2.2.2.1 a.2.2.2.2.2) (aT, aP, bh, bn, bB, cq)
def wE : bI := e8.with (K0 fun n (a : (List Int) × (List (List Int)) × (List (ByteArray × Int)) × (List aB) × Int × Bool) => cV n a.1 a.2.1 a.2.2.1 a.2.2.2.1 a.2.2.2.2.1 a.2.2.2.2.2)
def Fg : Hints := ⟨[], [(10, ([], ⟨[(.int .i64), .bool], [(0, none), (2, none)], [.cells [none, none, none, none, some (.d 0 0), some (.d 1 0)], .keep, .keep, .keep, .keep], 0⟩)), (20, ([], ⟨[], [(0, none), (2, none), (3, none), (4, none)], [.keep, .keep, .keep, .keep, .keep], 0⟩)), (28, ([], ⟨[(.int .i64)], [(0, none), (2, none), (3, none), (4, some (false, [.d 0 0]))], [.keep, .keep, .keep, .keep, .keep], 0⟩))], [], [], []⟩
theorem C4 {aU : (List Int) → (List (List Int)) → (List (ByteArray × Int)) → (List aB) → Int → Bool → Option (Int × (List Int) × (List (ByteArray × Int)) × Int × Bool × (List (List Int)) × (List aB))} (cT : aG prog 63 (e8.with fun (a : (List Int) × (List (List Int)) × (List (ByteArray × Int)) × (List aB) × Int × Bool) => aU a.1 a.2.1 a.2.2.1 a.2.2.2.1 a.2.2.2.2.1 a.2.2.2.2.2)) : aG prog 63 (e8.with fun (a : (List Int) × (List (List Int)) × (List (ByteArray × Int)) × (List aB) × Int × Bool) => eA aU a.1 a.2.1 a.2.2.1 a.2.2.2.1 a.2.2.2.2.1 a.2.2.2.2.2) := au (H := Fg) (fin := []) Tryz.func63 Tryz.call63 (aD (l := [(111, wD), (112, tP), (113, (vu aU)), (114, j9), (115, vA)]) ⟨DN, BR, (CZ cT), oo, C3, trivial⟩) rfl rfl rfl (fun a => by kernel_rfl)
theorem DQ : aG prog 63 wE := O5 (P := prog) (f := 63) (C := e8) (m := fun n (a : (List Int) × (List (List Int)) × (List (ByteArray × Int)) × (List aB) × Int × Bool) => cV n a.1 a.2.1 a.2.2.1 a.2.2.2.1 a.2.2.2.2.1 a.2.2.2.2.2) Tryz.call63 rfl (fun n h => C4 h)
def nE (aT : (List Int)) (lu : Int × (List Bool)) : Option (Sum ((List Bool)) (Int × (List Bool))) :=
 bif decide (lu.1 < ((aT.length : Int))) then
(aL aT lu.1).bind fun t11 =>
(dh 1 lu.2 [decide (t11 > 0)]).bind fun DT =>
 some (Sum.inr ((aN .i64 lu.1 1, DT)))
 else
 some (Sum.inl lu.2)
def kG (aT : (List Int)) (aP : (List (List Int))) (bh : (List (ByteArray × Int))) (bn : (List aB)) (bB : Int) (cq : Bool) : Option ((List Bool)) :=
(aI (nE aT) ((0, []))).bind fun Js : (List Bool) =>
 some Js
def vv : bI := ⟨[(.sl (.int .i64)), (.sl (.sl (.int .i64))), (.mp .str (.int .i64)), (.sl (.st 5)), (.int .i64), .bool], [(.sl .bool)], fun (a : (List Int) × (List (List Int)) × (List (ByteArray × Int)) × (List aB) × Int × Bool) => kG a.1 a.2.1 a.2.2.1 a.2.2.2.1 a.2.2.2.2.1 a.2.2.2.2.2, [(false, [.ptr 0])], [.oc 0 [.own 1, .own 2, .mp 3, .own 4, .d 4 0, .d 5 0], .oa 1 (.d 0 0), .oa 2 (.d 1 0), .oa 3 (.d 2 0), .oa 4 (.d 3 0)], [(false, [.own 5])], [.same, .same, .same, .same, .same, .oa 5 (.d 0 0)], 5, 6⟩
def DM : Hints := ⟨[(0, ⟨[.own .bool (.slot 3 0)], ⟨[(.int .i64), (.sl .bool)], [(0, none), (2, none), (3, some (false, [.own 6])), (9, none), (10, none), (11, some (false, [.d 0 0]))], [.keep, .keep, .keep, .keep, .keep, .dead, .jw 0 (.d 1 0)], 1⟩, [], some ([], ⟨[(.sl .bool)], [(0, none), (2, none), (3, some (false, [.own 6]))], [.keep, .keep, .keep, .keep, .keep, .dead, .jw 0 (.d 0 0)], 1⟩), false, none⟩)], [], [], [], []⟩
theorem C0 [aq] : aG prog 64 vv := au (H := DM) (fin := []) Tryz.func64 Tryz.call64 (aD (l := []) trivial) rfl rfl rfl (fun a => by kernel_rfl)
def oy (cG : Int) (l_1 : (List (List Int))) (s7 : Int) : Option (Sum (Sum (Int) (Unit)) (Int)) :=
 bif decide (s7 < ((l_1.length : Int))) then
(aL l_1 s7).bind fun t8 =>
(jH cG t8).bind fun e9 =>
 bif (e9 : Int) != 0 then
 some (Sum.inl (Sum.inl e9))
 else
 some (Sum.inr (aN .i64 s7 1))
 else
 some (Sum.inl (Sum.inr (())))
def lD (cG : Int) (l_1 : (List (List Int))) : Option (Int) :=
 bif decide (cG < 0) then
 some 1
 else
 bif decide (cG > 200) then
 some 1
 else
 bif decide (((l_1.length : Int)) > 4000) then
 some 2
 else
(aI (oy cG l_1) 0).bind (eH (fun a : Int => some a) fun Ox : Unit =>
 some 0)
def wF : bI := ⟨[(.int .i64), (.sl (.sl (.int .i64)))], [(.int .i64)], fun (a : Int × (List (List Int))) => lD a.1 a.2, [(false, [.d 0 0]), (false, [.d 1 0])], [], [(false, [.d 0 0])], [], 0, 0⟩
def Fh : Hints := ⟨[(0, ⟨[], ⟨[(.int .i64)], [(0, none), (4, none), (17, none), (18, none), (19, some (false, [.d 0 0]))], [], 0⟩, [], some ([], ⟨[], [(4, none)], [], 0⟩), true, none⟩)], [], [], [], []⟩
theorem DR [aq] : aG prog 61 wF := au (H := Fh) (fin := []) Tryz.func61 Tryz.call61 (aD (l := [(110, xQ)]) ⟨Cy, trivial⟩) rfl rfl rfl (fun a => by kernel_rfl)
def sJ (l_1 : (List (List Int))) (Rm : Int) : Option (Sum (Sum (bW × Int) (Unit)) (Int)) :=
 bif decide (Rm < ((l_1.length : Int))) then
(aL l_1 Rm).bind fun t14 =>
 bif ((t14.length : Int) : Int) == 0 then
 some (Sum.inl (Sum.inl (((bW.mk false [] []), 0))))
 else
 some (Sum.inr (aN .i64 Rm 1))
 else
 some (Sum.inl (Sum.inr (())))
def oZ (cG : Int) (l_1 : (List (List Int))) : Option (bW × Int) :=
(lD cG l_1).bind fun e2 =>
 bif (e2 : Int) != 0 then
 some (((bW.mk false [] []), e2))
 else
(aI (sJ l_1) 0).bind (eH (fun a : bW × Int => some a) fun q15 : Unit =>
 dx (fun j27 : (List Int) × (List (List Int)) × (List (ByteArray × Int)) × (List aB) =>
(pS j27.1 j27.2.1 j27.2.2.1 j27.2.2.2 0 false).bind fun xl =>
 bif xl.2.2.2.2.1 then
 some (((bW.mk false [] []), 2))
 else
 bif decide (xl.1 < 0) then
(kG xl.2.1 xl.2.2.2.2.2.1 xl.2.2.1 xl.2.2.2.2.2.2 xl.2.2.2.1 xl.2.2.2.2.1).bind fun t30 =>
 some (((bW.mk true t30 []), 0))
 else
 some (((bW.mk false [] xl.2.2.2.2.2.2), 0))) fun k26 =>
 mg (
(uB 8 0 cG).bind fun t31 =>
 mg (
(b8 l_1).bind fun t32 =>
 k26 ((t31, t32, [], []))) (
(b8 l_1).bind fun t33 =>
 k26 ((t31, t33, [], [])))) (
 mg (
(b8 l_1).bind fun t34 =>
 mg (
(uB 8 0 cG).bind fun t35 =>
 k26 ((t35, t34, [], []))) (
(uB 8 0 cG).bind fun t36 =>
 k26 ((t36, t34, [], [])))) (
 mg (
(uB 8 0 cG).bind fun t37 =>
(b8 l_1).bind fun t38 =>
 k26 ((t37, t38, [], []))) (
(b8 l_1).bind fun t39 =>
(uB 8 0 cG).bind fun t40 =>
 k26 ((t40, t39, [], []))))))
def Az : bI := ⟨[(.int .i64), (.sl (.sl (.int .i64)))], [(.st 6), (.int .i64)], fun (a : Int × (List (List Int))) => oZ a.1 a.2, [(false, [.d 0 0]), (false, [.d 1 0])], [], [(true, [.d 0 0, .d 0 1, .d 0 2]), (false, [.d 1 0])], [], 0, 0⟩
def Jt : Hints := ⟨[(0, ⟨[], ⟨[(.int .i64)], [(0, none), (1, none), (4, none), (5, none), (18, none), (19, none), (20, some (false, [.d 0 0]))], [.keep], 0⟩, [], some ([], ⟨[], [(0, none), (1, none), (4, none), (5, none)], [.keep], 0⟩), true, none⟩)], [(24, ([.own (.st 5) (.cell 4 3)], ⟨[(.sl (.int .i64)), (.sl (.sl (.int .i64))), (.mp .str (.int .i64)), (.sl (.st 5))], [(4, none), (5, none), (9, some (false, [.ptr 1]))], [.keep, .ocN 0 [.own 2, .own 3, .mp 4, .own 5, .fx (.ci .i64 0), .fx (.cb false)], .jw 1 (.d 0 0), .jw 2 (.d 1 0), .jw 3 (.d 2 0), .jw 4 (.d 3 0)], 5⟩))], [], [], []⟩
theorem HS : aG prog 28 Az := au (H := Jt) (fin := [.sl .bool (.cell 0 1), .sl (.st 5) (.cell 0 2)]) Tryz.func28 Tryz.call28 (aD (l := [(61, wF), (62, rz), (63, wE), (64, vv)]) ⟨DR, zN, DQ, C0, trivial⟩) rfl rfl rfl (fun a => by kernel_rfl)
def zb (cG : Int) (LC : (List Bool)) (Ta : Int × (List Int)) : Option (Sum ((List Int)) (Int × (List Int))) :=
 bif decide (Ta.1 < cG) then
(aL LC Ta.1).bind fun t20 =>
 bif t20 then
(dh 8 Ta.2 [1]).bind fun out21 =>
 some (Sum.inr ((aN .i64 Ta.1 1, out21)))
 else
(aL LC (aN .i64 cG Ta.1)).bind fun t22 =>
 bif t22 then
(dh 8 Ta.2 [2]).bind fun out23 =>
 some (Sum.inr ((aN .i64 Ta.1 1, out23)))
 else
(dh 8 Ta.2 [3]).bind fun out24 =>
 some (Sum.inr ((aN .i64 Ta.1 1, out24)))
 else
 some (Sum.inl Ta.2)
def oT (cG : Int) (LC : (List Bool)) : Option ((List Int)) :=
(aI (zb cG LC) ((0, []))).bind fun q25 : (List Int) =>
 some q25
def Ah : bI := ⟨[(.int .i64), (.sl .bool)], [(.sl (.int .i64))], fun (a : Int × (List Bool)) => oT a.1 a.2, [(false, [.d 0 0]), (false, [.d 1 0])], [], [(false, [.own 0])], [.oa 0 (.d 0 0)], 0, 1⟩
def Jf : Hints := ⟨[(0, ⟨[.own (.int .i64) (.slot 5 0)], ⟨[(.int .i64), (.sl (.int .i64))], [(0, none), (1, none), (4, none), (5, some (false, [.own 1])), (7, none), (8, some (false, [.d 0 0]))], [.dead, .jw 0 (.d 1 0)], 1⟩, [], some ([], ⟨[(.sl (.int .i64))], [(4, none), (5, some (false, [.own 1]))], [.dead, .jw 0 (.d 0 0)], 1⟩), false, none⟩)], [], [], [], []⟩
theorem Hx [aq] : aG prog 29 Ah := au (H := Jf) (fin := []) Tryz.func29 Tryz.call29 (aD (l := []) trivial) rfl rfl rfl (fun a => by kernel_rfl)
def lH (aW : af) (aO : Int) (n_2 : Int) : Option (aZ × Int) :=
(kf aW n_2).bind fun e2 =>
 bif (e2 : Int) != 0 then
 some (((aZ.mk false [] [] []), e2))
 else
 bif (aO : Int) == 4 then
(uE aW).bind fun l6 =>
(aL l6 n_2).bind fun t7 =>
(A2 aW).bind fun t8 =>
 some (((aZ.mk ((t7 : Int) == 1) l6 t8 []), 0))
 else
(oU aW aO n_2).bind fun t9 =>
 bif (t9.2.1 : Int) != 0 then
 some (((aZ.mk false [] [] []), t9.2.1))
 else
(oZ t9.1 t9.2.2).bind fun t10 =>
 bif (t10.2 : Int) != 0 then
 some (((aZ.mk false [] [] []), 2))
 else
 bif t10.1.Sat then
(oT aW.N t10.1.Model).bind fun t12 =>
 some (((aZ.mk ((aO : Int) != 3) t12 [] []), 0))
 else
 some (((aZ.mk ((aO : Int) == 3) [] [] t10.1.Steps), 0))
def An : bI := ⟨[(.st 2), (.int .i64), (.int .i64)], [(.st 7), (.int .i64)], fun (a : af × Int × Int) => lH a.1 a.2.1 a.2.2, [(true, [.d 0 0, .d 0 1]), (false, [.d 1 0]), (false, [.d 2 0])], [], [(true, [.d 0 0, .d 0 1, .d 0 2, .d 0 3]), (false, [.d 1 0])], [], 0, 0⟩
def Jh : Hints := ⟨[], [], [], [], []⟩
theorem Hz : aG prog 10 An := au (H := Jh) (fin := [.sl (.int .i64) (.cell 1 1)]) Tryz.func10 Tryz.call10 (aD (l := [(24, qw), (25, uF), (26, A3), (27, Am), (28, Az), (29, Ah)]) ⟨uc, zC, Iv, Hy, HS, Hx, trivial⟩) rfl rfl rfl (fun a => by kernel_rfl)
def Ae (a0 : af) (a1 : Int) (a2 : Int) (a3 : aZ) : Option (Int) :=
 none
def Af : bI := ⟨[(.st 2), (.int .i64), (.int .i64), (.st 7)], [(.int .i64)], fun (a : af × Int × Int × aZ) => Ae a.1 a.2.1 a.2.2.1 a.2.2.2, [(true, [.d 0 0, .d 0 1]), (false, [.d 1 0]), (false, [.d 2 0]), (true, [.d 3 0, .d 3 1, .d 3 2, .d 3 3])], [], [(false, [.d 0 0])], [], 0, 0⟩
theorem Hw [aq] : aG prog 30 Af := ⟨Tryz.call30, fun a r h => by cases h⟩
def lE (Bw : Int) : Option (Bool) :=
 bif (Bw : Int) != 1 then
 bif (Bw : Int) != 2 then
 some ((Bw : Int) != 3)
 else
 some false
 else
 some false
def wH : bI := ⟨[(.int .i64)], [.bool], fun (a : Int) => lE a, [(false, [.d 0 0])], [], [(false, [.d 0 0])], [], 0, 0⟩
def Fl : Hints := ⟨[], [], [], [], []⟩
theorem D9 [aq] : aG prog 166 wH := au (H := Fl) (fin := []) Tryz.func166 Tryz.call166 (aD (l := []) trivial) rfl rfl rfl (fun a => by kernel_rfl)
def je (bO : (List Int)) (s7 : Int) : Option (Sum (Sum (Int) (Unit)) (Int)) :=
 bif decide (s7 < ((bO.length : Int))) then
(aL bO s7).bind fun t8 =>
(lE t8).bind fun t9 =>
 bif t9 then
 some (Sum.inl (Sum.inl s7))
 else
 some (Sum.inr (aN .i64 s7 1))
 else
 some (Sum.inl (Sum.inr (())))
def fF (bO : (List Int)) : Option (Int) :=
(aI (je bO) 0).bind (eH (fun a : Int => some a) fun Ox : Unit =>
 some ((-1)))
def oh : bI := ⟨[(.sl (.int .i64))], [(.int .i64)], fun (a : (List Int)) => fF a, [(false, [.d 0 0]), (false, [.fn 166 []])], [], [(false, [.d 0 0])], [], 0, 0⟩
def xJ : Hints := ⟨[(0, ⟨[], ⟨[(.int .i64)], [(0, none), (1, none), (4, none), (7, none), (8, some (false, [.d 0 0]))], [], 0⟩, [], some ([], ⟨[], [(1, none), (4, none)], [], 0⟩), true, none⟩)], [], [], [], []⟩
theorem wX [aq] : aG prog 142 oh := au (H := xJ) (fin := []) Tryz.func142 Tryz.call142 (aD (l := [(166, wH)]) ⟨D9, trivial⟩) rfl rfl rfl (fun a => by kernel_rfl)
def eE (bO : (List Int)) : Option (Bool) :=
(fF bO).bind fun t1 =>
 some (decide (t1 ≥ 0))
def l7 : bI := ⟨[(.sl (.int .i64))], [.bool], fun (a : (List Int)) => eE a, [(false, [.d 0 0]), (false, [.fn 166 []])], [], [(false, [.d 0 0])], [], 0, 0⟩
def vh : Hints := ⟨[], [], [], [], []⟩
theorem um [aq] : aG prog 165 l7 := au (H := vh) (fin := []) Tryz.func165 Tryz.call165 (aD (l := [(142, oh)]) ⟨wX, trivial⟩) rfl rfl rfl (fun a => by kernel_rfl)
def kK (aW : af) (l_1 : (List Int)) : Option (Bool) :=
 bif ((l_1.length : Int) : Int) == aW.N then
(eE l_1).bind fun t1 =>
 some (!t1)
 else
 some false
def sX : bI := ⟨[(.st 2), (.sl (.int .i64))], [.bool], fun (a : af × (List Int)) => kK a.1 a.2, [(true, [.d 0 0, .d 0 1]), (false, [.d 1 0])], [], [(false, [.d 0 0])], [], 0, 0⟩
def Io : Hints := ⟨[], [], [], [], []⟩
theorem xZ [aq] : aG prog 116 sX := au (H := Io) (fin := []) Tryz.func116 Tryz.call116 (aD (l := [(165, l7)]) ⟨um, trivial⟩) rfl rfl rfl (fun a => by kernel_rfl)
def qU (l_1 : (List Int)) (cw : ((List Int))) (eZ : Int × Int × Int × Int × Int) : Option (Sum (Int × Int × Int × Int) (Int × Int × Int × Int × Int)) :=
 bif decide (eZ.1 < ((cw.length : Int))) then
(aL cw eZ.1).bind fun t17 =>
(aL l_1 t17).bind fun t18 =>
 bif (t18 : Int) == 0 then
 bif (t18 : Int) == 0 then
 some (Sum.inr ((aN .i64 eZ.1 1, aN .i64 eZ.2.1 1, eZ.2.2.1, eZ.2.2.2.1, eZ.2.2.2.2)))
 else
 bif (t18 : Int) == 1 then
 some (Sum.inr ((aN .i64 eZ.1 1, eZ.2.1, aN .i64 eZ.2.1 1, eZ.2.2.2.1, eZ.2.2.2.2)))
 else
 bif (t18 : Int) == 2 then
 some (Sum.inr ((aN .i64 eZ.1 1, eZ.2.1, eZ.2.2.1, aN .i64 eZ.2.1 1, eZ.2.2.2.2)))
 else
 bif (t18 : Int) == 3 then
 some (Sum.inr ((aN .i64 eZ.1 1, eZ.2.1, eZ.2.2.1, eZ.2.2.2.1, aN .i64 eZ.2.1 1)))
 else
 none
 else
 bif (t18 : Int) == 1 then
 bif (t18 : Int) == 0 then
 some (Sum.inr ((aN .i64 eZ.1 1, aN .i64 eZ.2.2.1 1, eZ.2.2.1, eZ.2.2.2.1, eZ.2.2.2.2)))
 else
 bif (t18 : Int) == 1 then
 some (Sum.inr ((aN .i64 eZ.1 1, eZ.2.1, aN .i64 eZ.2.2.1 1, eZ.2.2.2.1, eZ.2.2.2.2)))
 else
 bif (t18 : Int) == 2 then
 some (Sum.inr ((aN .i64 eZ.1 1, eZ.2.1, eZ.2.2.1, aN .i64 eZ.2.2.1 1, eZ.2.2.2.2)))
 else
 bif (t18 : Int) == 3 then
 some (Sum.inr ((aN .i64 eZ.1 1, eZ.2.1, eZ.2.2.1, eZ.2.2.2.1, aN .i64 eZ.2.2.1 1)))
 else
 none
 else
 bif (t18 : Int) == 2 then
 bif (t18 : Int) == 0 then
 some (Sum.inr ((aN .i64 eZ.1 1, aN .i64 eZ.2.2.2.1 1, eZ.2.2.1, eZ.2.2.2.1, eZ.2.2.2.2)))
 else
 bif (t18 : Int) == 1 then
 some (Sum.inr ((aN .i64 eZ.1 1, eZ.2.1, aN .i64 eZ.2.2.2.1 1, eZ.2.2.2.1, eZ.2.2.2.2)))
 else
 bif (t18 : Int) == 2 then
 some (Sum.inr ((aN .i64 eZ.1 1, eZ.2.1, eZ.2.2.1, aN .i64 eZ.2.2.2.1 1, eZ.2.2.2.2)))
 else
 bif (t18 : Int) == 3 then
 some (Sum.inr ((aN .i64 eZ.1 1, eZ.2.1, eZ.2.2.1, eZ.2.2.2.1, aN .i64 eZ.2.2.2.1 1)))
 else
 none
 else
 bif (t18 : Int) == 3 then
 bif (t18 : Int) == 0 then
 some (Sum.inr ((aN .i64 eZ.1 1, aN .i64 eZ.2.2.2.2 1, eZ.2.2.1, eZ.2.2.2.1, eZ.2.2.2.2)))
 else
 bif (t18 : Int) == 1 then
 some (Sum.inr ((aN .i64 eZ.1 1, eZ.2.1, aN .i64 eZ.2.2.2.2 1, eZ.2.2.2.1, eZ.2.2.2.2)))
 else
 bif (t18 : Int) == 2 then
 some (Sum.inr ((aN .i64 eZ.1 1, eZ.2.1, eZ.2.2.1, aN .i64 eZ.2.2.2.2 1, eZ.2.2.2.2)))
 else
 bif (t18 : Int) == 3 then
 some (Sum.inr ((aN .i64 eZ.1 1, eZ.2.1, eZ.2.2.1, eZ.2.2.2.1, aN .i64 eZ.2.2.2.2 1)))
 else
 none
 else
 none
 else
 some (Sum.inl ((eZ.2.1, eZ.2.2.1, eZ.2.2.2.1, eZ.2.2.2.2)))
def nU (aW : af) (l_1 : (List Int)) (i_2 : Int) : Option (Bool) :=
(fJ aW i_2).bind fun cw =>
(aI (qU l_1 cw) ((0, 0, 0, 0, 0))).bind fun q19 : Int × Int × Int × Int =>
(aL l_1 i_2).bind fun t21 =>
 bif (t21 : Int) == 1 then
 some ((q19.2.2.1 : Int) == ((cw.length : Int)))
 else
 bif (t21 : Int) == 2 then
 some (decide (q19.2.1 > 0))
 else
 bif decide (q19.2.2.1 < ((cw.length : Int))) then
 some ((q19.2.1 : Int) == 0)
 else
 some false
def zq : bI := ⟨[(.st 2), (.sl (.int .i64)), (.int .i64)], [.bool], fun (a : af × (List Int) × Int) => nU a.1 a.2.1 a.2.2, [(true, [.d 0 0, .d 0 1]), (false, [.d 1 0]), (false, [.d 2 0])], [], [(false, [.d 0 0])], [], 0, 0⟩
def Im : Hints := ⟨[(0, ⟨[], ⟨[(.int .i64), (.int .i64), (.int .i64), (.int .i64), (.int .i64)], [(1, none), (2, none), (6, none), (7, none), (8, none), (14, none), (15, none), (16, some (false, [.d 0 0]))], [.dead, .keep, .cells [some (.d 1 0), some (.d 2 0), some (.d 3 0), some (.d 4 0)]], 0⟩, [], some ([], ⟨[(.int .i64), (.int .i64), (.int .i64), (.int .i64)], [(1, none), (2, none), (6, none), (7, none), (8, none)], [.dead, .keep, .cells [some (.d 0 0), some (.d 1 0), some (.d 2 0), some (.d 3 0)]], 0⟩), false, none⟩)], [], [], [], []⟩
theorem GM : aG prog 201 zq := au (H := Im) (fin := []) Tryz.func201 Tryz.call201 (aD (l := [(108, kL)]) ⟨mL, trivial⟩) rfl rfl rfl (fun a => by kernel_rfl)
def oI (aW : af) (l_1 : (List Int)) (Tb : Int × (List Int)) : Option (Sum ((List Int)) (Int × (List Int))) :=
 bif decide (Tb.1 < ((l_1.length : Int))) then
(nU aW l_1 Tb.1).bind fun t13 =>
 bif !t13 then
(dh 8 Tb.2 [Tb.1]).bind fun out14 =>
 some (Sum.inr ((aN .i64 Tb.1 1, out14)))
 else
 some (Sum.inr ((aN .i64 Tb.1 1, Tb.2)))
 else
 some (Sum.inl Tb.2)
def pX (aW : af) (l_1 : (List Int)) : Option ((List Int)) :=
(kK aW l_1).bind fun t2 =>
 bif !t2 then
 some []
 else
(aI (oI aW l_1) ((0, []))).bind fun q15 : (List Int) =>
 some q15
def wI : bI := ⟨[(.st 2), (.sl (.int .i64))], [(.sl (.int .i64))], fun (a : af × (List Int)) => pX a.1 a.2, [(true, [.d 0 0, .d 0 1]), (false, [.d 1 0])], [], [(false, [.own 0])], [.oa 0 (.d 0 0)], 0, 1⟩
def Fm : Hints := ⟨[(0, ⟨[.own (.int .i64) (.slot 5 0)], ⟨[(.int .i64), (.sl (.int .i64))], [(1, none), (2, none), (4, none), (5, some (false, [.own 2])), (12, none), (13, some (false, [.d 0 0]))], [.keep, .dead, .jw 0 (.d 1 0)], 1⟩, [], some ([], ⟨[(.sl (.int .i64))], [(4, none), (5, some (false, [.own 2]))], [.dead, .dead, .jw 0 (.d 0 0)], 1⟩), false, none⟩)], [], [], [], []⟩
theorem D_ : aG prog 167 wI := au (H := Fm) (fin := [.own (.int .i64) (.slot 4 0)]) Tryz.func167 Tryz.call167 (aD (l := [(116, sX), (201, zq)]) ⟨xZ, GM, trivial⟩) rfl rfl rfl (fun a => by kernel_rfl)
def jm (aW : af) (l_1 : (List Int)) : Option (Bool) :=
(kK aW l_1).bind fun t1 =>
 bif t1 then
(pX aW l_1).bind fun t2 =>
 some (((t2.length : Int) : Int) == 0)
 else
 some false
def sY : bI := ⟨[(.st 2), (.sl (.int .i64))], [.bool], fun (a : af × (List Int)) => jm a.1 a.2, [(true, [.d 0 0, .d 0 1]), (false, [.d 1 0])], [], [(false, [.d 0 0])], [], 0, 0⟩
def B6 : Hints := ⟨[], [], [], [], []⟩
theorem AQ : aG prog 117 sY := au (H := B6) (fin := []) Tryz.func117 Tryz.call117 (aD (l := [(116, sX), (167, wI)]) ⟨xZ, D_, trivial⟩) rfl rfl rfl (fun a => by kernel_rfl)
def sW (lF : (List Int)) (Qi : Int) (lu : Int × (List Int)) : Option (Sum ((List Int)) (Int × (List Int))) :=
 bif decide (lu.1 < ((lF.length : Int))) then
(aL lF lu.1).bind fun t11 =>
 bif (t11 : Int) == Qi then
(dh 8 lu.2 [lu.1]).bind fun DT =>
 some (Sum.inr ((aN .i64 lu.1 1, DT)))
 else
 some (Sum.inr ((aN .i64 lu.1 1, lu.2)))
 else
 some (Sum.inl lu.2)
def b9 (lF : (List Int)) (Qi : Int) : Option ((List Int)) :=
(aI (sW lF Qi) ((0, []))).bind fun Js : (List Int) =>
 some Js
def dJ : bI := ⟨[(.sl (.int .i64)), (.int .i64)], [(.sl (.int .i64))], fun (a : (List Int) × Int) => b9 a.1 a.2, [(false, [.d 0 0]), (false, [.d 1 0])], [], [(false, [.own 0])], [.oa 0 (.d 0 0)], 0, 1⟩
def JL : Hints := ⟨[(0, ⟨[.own (.int .i64) (.slot 5 0)], ⟨[(.int .i64), (.sl (.int .i64))], [(1, none), (4, none), (5, some (false, [.own 1])), (8, none), (9, none), (10, some (false, [.d 0 0]))], [.dead, .jw 0 (.d 1 0)], 1⟩, [], some ([], ⟨[(.sl (.int .i64))], [(4, none), (5, some (false, [.own 1]))], [.dead, .jw 0 (.d 0 0)], 1⟩), false, none⟩)], [], [], [], []⟩
theorem dL [aq] : aG prog 121 dJ := au (H := JL) (fin := []) Tryz.func121 Tryz.call121 (aD (l := []) trivial) rfl rfl rfl (fun a => by kernel_rfl)
def mX (aW : af) (aO : Int) (n_2 : Int) (l_3 : (List Int)) : Option (Bool) :=
 dx (fun j4 : Unit =>
(aL l_3 n_2).bind fun t5 =>
 some (((t5 : Int) == 1) == ((aO : Int) != 3))) fun k3 =>
(jm aW l_3).bind fun t6 =>
 bif !t6 then
 some false
 else
 bif (aO : Int) != 1 then
(b9 l_3 3).bind fun t7 =>
 bif decide (((t7.length : Int)) > 0) then
 some false
 else
 k3 (())
 else
 k3 (())
def Ct : bI := ⟨[(.st 2), (.int .i64), (.int .i64), (.sl (.int .i64))], [.bool], fun (a : af × Int × Int × (List Int)) => mX a.1 a.2.1 a.2.2.1 a.2.2.2, [(true, [.d 0 0, .d 0 1]), (false, [.d 1 0]), (false, [.d 2 0]), (false, [.d 3 0])], [], [(false, [.d 0 0])], [], 0, 0⟩
def KU : Hints := ⟨[], [(8, ([], ⟨[], [(1, none), (2, none), (3, none), (8, none)], [.dead], 0⟩))], [], [], []⟩
theorem Je : aG prog 67 Ct := au (H := KU) (fin := []) Tryz.func67 Tryz.call67 (aD (l := [(117, sY), (121, dJ)]) ⟨AQ, dL, trivial⟩) rfl rfl rfl (fun a => by kernel_rfl)
def mq (aW : af) (aO : Int) (n_2 : Int) (v_3 : aZ) : Option (Int) :=
 dx (fun j2 : Bool =>
 bif j2 then
 some 4
 else
(mX aW aO n_2 v_3.QN).bind fun t3 =>
 bif !t3 then
 some 11
 else
 some 0) fun k1 =>
 bif decide (((v_3.Ww.length : Int)) > 0) then
 k1 true
 else
 k1 (decide (((v_3.Steps.length : Int)) > 0))
def xE : bI := ⟨[(.st 2), (.int .i64), (.int .i64), (.st 7)], [(.int .i64)], fun (a : af × Int × Int × aZ) => mq a.1 a.2.1 a.2.2.1 a.2.2.2, [(true, [.d 0 0, .d 0 1]), (false, [.d 1 0]), (false, [.d 2 0]), (true, [.d 3 0, .d 3 1, .d 3 2, .d 3 3])], [], [(false, [.d 0 0])], [], 0, 0⟩
def Gm : Hints := ⟨[], [(6, ([], ⟨[.bool], [(1, none), (2, none), (4, none), (7, none), (8, none), (9, some (false, [.d 0 0]))], [.keep, .keep], 0⟩))], [], [], []⟩
theorem Fa : aG prog 32 xE := au (H := Gm) (fin := []) Tryz.func32 Tryz.call32 (aD (l := [(67, Ct)]) ⟨Je, trivial⟩) rfl rfl rfl (fun a => by kernel_rfl)
def sk (a0 : af) (a1 : Int) (a2 : Int) (a3 : aZ) : Option (Int) :=
 none
def za : bI := ⟨[(.st 2), (.int .i64), (.int .i64), (.st 7)], [(.int .i64)], fun (a : af × Int × Int × aZ) => sk a.1 a.2.1 a.2.2.1 a.2.2.2, [(true, [.d 0 0, .d 0 1]), (false, [.d 1 0]), (false, [.d 2 0]), (true, [.d 3 0, .d 3 1, .d 3 2, .d 3 3])], [], [(false, [.d 0 0])], [], 0, 0⟩
theorem Gl [aq] : aG prog 31 za := ⟨Tryz.call31, fun a r h => by cases h⟩
def mY (aW : af) (aO : Int) (n_2 : Int) (v_3 : aZ) : Option (Int) :=
(kf aW n_2).bind fun e2 =>
 bif (e2 : Int) != 0 then
 some e2
 else
 bif (aO : Int) == 4 then
(Ae aW aO n_2 v_3).bind fun t3 =>
 some t3
 else
 dx (fun j5 : Bool =>
 bif j5 then
 bif v_3.Holds == ((aO : Int) != 3) then
(mq aW aO n_2 v_3).bind fun t6 =>
 some t6
 else
(sk aW aO n_2 v_3).bind fun t7 =>
 some t7
 else
 some 4) fun k4 =>
 bif (aO : Int) == 1 then
 k4 ((aO : Int) == 1)
 else
 bif (aO : Int) == 2 then
 k4 ((aO : Int) == 2)
 else
 k4 ((aO : Int) == 3)
def Cu : bI := ⟨[(.st 2), (.int .i64), (.int .i64), (.st 7)], [(.int .i64)], fun (a : af × Int × Int × aZ) => mY a.1 a.2.1 a.2.2.1 a.2.2.2, [(true, [.d 0 0, .d 0 1]), (false, [.d 1 0]), (false, [.d 2 0]), (true, [.d 3 0, .d 3 1, .d 3 2, .d 3 3])], [], [(false, [.d 0 0])], [], 0, 0⟩
def KW : Hints := ⟨[], [(26, ([], ⟨[.bool], [(1, none), (2, none), (4, none), (7, none), (8, none), (20, some (false, [.d 0 0]))], [.keep, .keep], 0⟩))], [], [], []⟩
theorem Ji : aG prog 11 Cu := au (H := KW) (fin := []) Tryz.func11 Tryz.call11 (aD (l := [(24, qw), (30, Af), (32, xE), (31, za)]) ⟨uc, Hw, Fa, Gl, trivial⟩) rfl rfl rfl (fun a => by kernel_rfl)
def Gf  : Option (Unit) :=
 some (())
def Gg : bI := ⟨[], [], fun (a : Unit) => Gf, [(false, [.fn 122 [some 0]])], [.oc 0 [.fn 69 []]], [(false, [.fn 123 [some 1]])], [.same, .oc 1 [.fn 122 [some 0]]], 1, 2⟩
def N4 : Hints := ⟨[], [], [], [], []⟩
theorem Ni [aq] : aG prog 70 Gg := au (H := N4) (fin := []) Tryz.func70 Tryz.call70 (aD (l := []) trivial) rfl rfl rfl (fun a => by kernel_rfl)
def CM  : Option (Unit) :=
(Gf).bind fun t1 =>
 some (())
def CN : bI := ⟨[], [], fun (a : Unit) => CM, [(false, [.fn 69 []])], [], [(false, [.fn 123 [some 0]])], [.oc 0 [.fn 122 [some 1]], .oc 1 [.fn 69 []]], 0, 2⟩
def Lh : Hints := ⟨[], [], [], [], []⟩
theorem Ka [aq] : aG prog 68 CN := au (H := Lh) (fin := []) Tryz.func68 Tryz.call68 (aD (l := [(70, Gg)]) ⟨Ni, trivial⟩) rfl rfl rfl (fun a => by kernel_rfl)
def Bp  : Option (Unit) :=
 some (())
def Bq : bI := ⟨[], [], fun (a : Unit) => Bp, [(false, [.fn 71 []])], [], [(false, [.fn 123 [some 0]])], [.oc 0 [.fn 71 []]], 0, 1⟩
def Kg : Hints := ⟨[], [], [], [], []⟩
theorem IY [aq] : aG prog 70 Bq := au (H := Kg) (fin := []) Tryz.func70 Tryz.call70 (aD (l := []) trivial) rfl rfl rfl (fun a => by kernel_rfl)
def Bn  : Option (Unit) :=
 some (())
def Bo : bI := ⟨[], [], fun (a : Unit) => Bn, [(false, [.fn 72 []])], [], [(false, [.fn 123 [some 0]])], [.oc 0 [.fn 72 []]], 0, 1⟩
def Kf : Hints := ⟨[], [], [], [], []⟩
theorem IX [aq] : aG prog 70 Bo := au (H := Kf) (fin := []) Tryz.func70 Tryz.call70 (aD (l := []) trivial) rfl rfl rfl (fun a => by kernel_rfl)
def Bl  : Option (Unit) :=
 some (())
def Bm : bI := ⟨[], [], fun (a : Unit) => Bl, [(false, [.fn 73 []])], [], [(false, [.fn 123 [some 0]])], [.oc 0 [.fn 73 []]], 0, 1⟩
def Ke : Hints := ⟨[], [], [], [], []⟩
theorem IW [aq] : aG prog 70 Bm := au (H := Ke) (fin := []) Tryz.func70 Tryz.call70 (aD (l := []) trivial) rfl rfl rfl (fun a => by kernel_rfl)
def Bi  : Option (Unit) :=
 some (())
def Bj : bI := ⟨[], [], fun (a : Unit) => Bi, [(false, [.fn 74 []])], [], [(false, [.fn 123 [some 0]])], [.oc 0 [.fn 74 []]], 0, 1⟩
def Kd : Hints := ⟨[], [], [], [], []⟩
theorem IV [aq] : aG prog 70 Bj := au (H := Kd) (fin := []) Tryz.func70 Tryz.call70 (aD (l := []) trivial) rfl rfl rfl (fun a => by kernel_rfl)
def Bg  : Option (Unit) :=
 some (())
def Bh : bI := ⟨[], [], fun (a : Unit) => Bg, [(false, [.fn 122 [some 0]])], [.oc 0 [.fn 75 []]], [(false, [.fn 123 [some 1]])], [.same, .oc 1 [.fn 122 [some 0]]], 1, 2⟩
def Kc : Hints := ⟨[], [], [], [], []⟩
theorem IU [aq] : aG prog 70 Bh := au (H := Kc) (fin := []) Tryz.func70 Tryz.call70 (aD (l := []) trivial) rfl rfl rfl (fun a => by kernel_rfl)
def yw  : Option (Unit) :=
(Bg).bind fun t1 =>
 some (())
def yx : bI := ⟨[], [], fun (a : Unit) => yw, [(false, [.fn 75 []])], [], [(false, [.fn 123 [some 0]])], [.oc 0 [.fn 122 [some 1]], .oc 1 [.fn 75 []]], 0, 2⟩
def G7 : Hints := ⟨[], [], [], [], []⟩
theorem FF [aq] : aG prog 68 yx := au (H := G7) (fin := []) Tryz.func68 Tryz.call68 (aD (l := [(70, Bh)]) ⟨IU, trivial⟩) rfl rfl rfl (fun a => by kernel_rfl)
def Be  : Option (Unit) :=
 some (())
def Bf : bI := ⟨[], [], fun (a : Unit) => Be, [(false, [.fn 122 [some 0]])], [.oc 0 [.fn 76 []]], [(false, [.fn 123 [some 1]])], [.same, .oc 1 [.fn 122 [some 0]]], 1, 2⟩
def Kb : Hints := ⟨[], [], [], [], []⟩
theorem IT [aq] : aG prog 70 Bf := au (H := Kb) (fin := []) Tryz.func70 Tryz.call70 (aD (l := []) trivial) rfl rfl rfl (fun a => by kernel_rfl)
def yq  : Option (Unit) :=
(Be).bind fun t1 =>
 some (())
def yu : bI := ⟨[], [], fun (a : Unit) => yq, [(false, [.fn 76 []])], [], [(false, [.fn 123 [some 0]])], [.oc 0 [.fn 122 [some 1]], .oc 1 [.fn 76 []]], 0, 2⟩
def G6 : Hints := ⟨[], [], [], [], []⟩
theorem FE [aq] : aG prog 68 yu := au (H := G6) (fin := []) Tryz.func68 Tryz.call68 (aD (l := [(70, Bf)]) ⟨IT, trivial⟩) rfl rfl rfl (fun a => by kernel_rfl)
def uM  : Option (Unit) :=
(CM).bind fun t1 =>
(Bp).bind fun t2 =>
(Bn).bind fun t3 =>
(Bl).bind fun t4 =>
(Bi).bind fun t5 =>
(yw).bind fun t6 =>
(yq).bind fun t7 =>
 some (())
def Br : bI := ⟨[], [], fun (a : Unit) => uM, [], [], [(false, [.fs 0 10])], [.oc 0 [.H8, .fn 123 [some 1], .fn 123 [some 2], .fn 123 [some 3], .fn 123 [some 4], .fn 123 [some 5], .fn 123 [some 6], .fn 123 [some 7], .fn 77 [], .fn 78 []], .oc 1 [.fn 122 [some 8]], .oc 2 [.fn 71 []], .oc 3 [.fn 72 []], .oc 4 [.fn 73 []], .oc 5 [.fn 74 []], .oc 6 [.fn 122 [some 9]], .oc 7 [.fn 122 [some 10]], .oc 8 [.fn 69 []], .oc 9 [.fn 75 []], .oc 10 [.fn 76 []]], 0, 11⟩
def Kj : Hints := ⟨[], [], [], [], []⟩
theorem IZ [aq] : aG prog 33 Br := au (H := Kj) (fin := []) Tryz.func33 Tryz.call33 (aD (l := [(68, CN), (70, Bq), (70, Bo), (70, Bm), (70, Bj), (68, yx), (68, yu)]) ⟨Ka, IY, IX, IW, IV, FF, FE, trivial⟩) rfl rfl rfl (fun a => by kernel_rfl)
def yI (aW : af) : Option ((List Int) × Int) :=
(uE aW).bind fun t1 =>
 some ((t1, 0))
def yJ : bI := ⟨[(.st 2)], [(.sl (.int .i64)), (.int .i64)], fun (a : af) => yI a, [(true, [.d 0 0, .d 0 1])], [], [(false, [.d 0 0]), (false, [.d 1 0])], [], 0, 0⟩
def Hi : Hints := ⟨[], [], [], [], []⟩
theorem FT [aq] : aG prog 69 yJ := au (H := Hi) (fin := []) Tryz.func69 Tryz.call69 (aD (l := [(25, uF)]) ⟨zC, trivial⟩) rfl rfl rfl (fun a => by kernel_rfl)
def zI (aW : af) : Option ((List (List Int)) × Int) :=
(yI aW).bind fun t1 =>
 bif (t1.2 : Int) != 0 then
 some (([], t1.2))
 else
 some (([t1.1], 0))
def zJ : bI := ⟨[(.st 2)], [(.sl (.sl (.int .i64))), (.int .i64)], fun (a : af) => zI a, [(true, [.d 0 0, .d 0 1]), (false, [.ptr 0])], [.oc 0 [.fn 69 []]], [(false, [.d 0 0]), (false, [.d 1 0])], [.same], 1, 1⟩
def IS : Hints := ⟨[], [], [], [], []⟩
theorem G8 [aq] : aG prog 122 zJ := au (H := IS) (fin := []) Tryz.func122 Tryz.call122 (aD (l := [(69, yJ)]) ⟨FT, trivial⟩) rfl rfl rfl (fun a => by kernel_rfl)
def Ki (t1 : ((List (List Int)) × Int)) (tF : Int × (List (List Int))) : Option (Sum ((List (List Int))) (Int × (List (List Int)))) :=
 bif decide (tF.1 < ((t1.1.length : Int))) then
(aL t1.1 tF.1).bind fun t15 =>
(b9 t15 1).bind fun t16 =>
(dh 24 tF.2 [t16]).bind fun oz =>
 some (Sum.inr ((aN .i64 tF.1 1, oz)))
 else
 some (Sum.inl tF.2)
def CO (aW : af) : Option (Int × (List (List Int))) :=
(zI aW).bind fun t1 =>
 bif (t1.2 : Int) != 0 then
 some ((t1.2, []))
 else
(aI (Ki t1) ((0, []))).bind fun Rv : (List (List Int)) =>
 some ((0, Rv))
def CP : bI := ⟨[(.st 2)], [(.int .i64), (.sl (.sl (.int .i64)))], fun (a : af) => CO a, [(true, [.d 0 0, .d 0 1]), (false, [.ptr 0])], [.oc 0 [.fn 122 [some 1]], .oc 1 [.fn 69 []]], [(false, [.own 2]), (false, [.d 0 0])], [.same, .same, .oa 2 (.d 1 0)], 2, 3⟩
def Lj : Hints := ⟨[(0, ⟨[.own (.sl (.int .i64)) (.slot 7 0)], ⟨[(.int .i64), (.sl (.sl (.int .i64)))], [(1, none), (3, none), (4, none), (7, some (false, [.own 4])), (19, none), (20, none), (21, some (false, [.d 0 0]))], [.keep, .keep, .dead, .dead, .jw 0 (.d 1 0)], 1⟩, [], some ([], ⟨[(.sl (.sl (.int .i64)))], [(1, none), (3, none), (4, none), (7, some (false, [.own 4]))], [.keep, .keep, .dead, .dead, .jw 0 (.d 0 0)], 1⟩), false, none⟩)], [], [], [], []⟩
theorem Kh [aq] : aG prog 123 CP := au (H := Lj) (fin := [.own (.sl (.int .i64)) (.slot 3 0)]) Tryz.func123 Tryz.call123 (aD (l := [(122, zJ), (121, dJ)]) ⟨G8, dL, trivial⟩) rfl rfl rfl (fun a => by kernel_rfl)
def vp (jR : (List Int)) (jU : (List Int)) (Qh : Int) (Rm : Int × (List Int)) : Option (Sum ((List Int)) (Int × (List Int))) :=
 bif decide (Rm.1 < ((jU.length : Int))) then
(aL jU Rm.1).bind fun t14 =>
(lq 40 jR t14).bind fun t15 =>
 bif (cE .i64 t15 Qh : Int) != 0 then
(dh 8 Rm.2 [t14]).bind fun l16 =>
 some (Sum.inr ((aN .i64 Rm.1 1, l16)))
 else
 some (Sum.inr ((aN .i64 Rm.1 1, Rm.2)))
 else
 some (Sum.inl Rm.2)
def cU (mj : Int) (aQ : (List (List Int))) (jR : (List Int)) (bP : (List (List Int))) (dM : Bool) (jU : (List Int)) (Qh : Int) : Option ((List Int)) :=
(aI (vp jR jU Qh) ((0, []))).bind fun q17 : (List Int) =>
 some q17
def pR : bI := ⟨[(.int .i64), (.sl (.sl (.int .i64))), (.vec .i64), (.sl (.sl (.int .i64))), .bool, (.sl (.int .i64)), (.int .i64)], [(.sl (.int .i64))], fun (a : Int × (List (List Int)) × (List Int) × (List (List Int)) × Bool × (List Int) × Int) => cU a.1 a.2.1 a.2.2.1 a.2.2.2.1 a.2.2.2.2.1 a.2.2.2.2.2.1 a.2.2.2.2.2.2, [(false, [.ptr 0]), (false, [.d 5 0]), (false, [.d 6 0])], [.oc 0 ([.d 0 0, .own 1] ++ Xe 2 0 40 ++ [.own 2, .d 4 0]), .oa 1 (.d 1 0), .oa 2 (.d 3 0)], [(false, [.own 3])], [.same, .same, .same, .oa 3 (.d 0 0)], 3, 4⟩
def Fc : Hints := ⟨[(0, ⟨[.own (.int .i64) (.slot 7 0)], ⟨[(.int .i64), (.sl (.int .i64))], [(0, none), (2, none), (6, none), (7, some (false, [.own 4])), (10, none), (11, none), (12, some (false, [.d 0 0]))], [.keep, .keep, .keep, .dead, .jw 0 (.d 1 0)], 1⟩, [], some ([], ⟨[(.sl (.int .i64))], [(0, none), (6, none), (7, some (false, [.own 4]))], [.keep, .keep, .keep, .dead, .jw 0 (.d 0 0)], 1⟩), false, none⟩)], [], [], [], []⟩
theorem vo [aq] : aG prog 229 pR := au (H := Fc) (fin := []) Tryz.func229 Tryz.call229 (aD (l := []) trivial) rfl rfl rfl (fun a => by kernel_rfl)
def eO (mj : Int) (aQ : (List (List Int))) (jR : (List Int)) (bP : (List (List Int))) (dM : Bool) (i_1 : Int) : Option (Int) :=
(aL aQ i_1).bind fun t1 =>
 dx (fun j4 : Int =>
 dx (fun j7 : Int =>
(cU mj aQ jR bP dM t1 12).bind fun t8 =>
 bif decide (((t8.length : Int)) < ((t1.length : Int))) then
 some (s_ .i64 j7 8)
 else
(cU mj aQ jR bP dM t1 8).bind fun t9 =>
 bif ((t9.length : Int) : Int) == 0 then
 some (s_ .i64 j7 8)
 else
 some j7) fun k6 =>
(cU mj aQ jR bP dM t1 2).bind fun t10 =>
 bif ((t10.length : Int) : Int) == 0 then
 k6 (s_ .i64 j4 4)
 else
 k6 j4) fun k3 =>
(cU mj aQ jR bP dM t1 4).bind fun t11 =>
 bif decide (((t11.length : Int)) < ((t1.length : Int))) then
 k3 (s_ .i64 14 2)
 else
 k3 14
def ql : bI := ⟨[(.int .i64), (.sl (.sl (.int .i64))), (.vec .i64), (.sl (.sl (.int .i64))), .bool, (.int .i64)], [(.int .i64)], fun (a : Int × (List (List Int)) × (List Int) × (List (List Int)) × Bool × Int) => eO a.1 a.2.1 a.2.2.1 a.2.2.2.1 a.2.2.2.2.1 a.2.2.2.2.2, [(false, [.ptr 0]), (false, [.d 5 0])], [.oc 0 ([.d 0 0, .own 1] ++ Xe 2 0 40 ++ [.own 2, .d 4 0]), .oa 1 (.d 1 0), .oa 2 (.d 3 0)], [(false, [.d 0 0])], [.same, .same, .same], 3, 3⟩
def zP : Hints := ⟨[], [(10, ([], ⟨[(.int .i64)], [(0, none), (4, none), (5, none), (6, some (false, [.d 0 0]))], [.keep, .keep, .keep], 0⟩)), (14, ([], ⟨[(.int .i64)], [(0, none), (4, none), (5, none), (6, some (false, [.d 0 0]))], [.keep, .keep, .keep], 0⟩))], [], [], []⟩
theorem yV [aq] : aG prog 202 ql := au (H := zP) (fin := []) Tryz.func202 Tryz.call202 (aD (l := [(229, pR)]) ⟨vo, trivial⟩) rfl rfl rfl (fun a => by kernel_rfl)
def BJ (t1 : (List Int)) (s38 : Int × (List Int)) : Option (Sum ((List Int)) (Int × (List Int))) :=
 bif decide (s38.1 < ((t1.length : Int))) then
(aL t1 s38.1).bind fun t39 =>
(lq 40 s38.2 t39).bind fun t40 =>
(lq 40 s38.2 t39).bind fun t41 =>
 some (Sum.inr ((aN .i64 s38.1 1, s38.2.set (Int.toNat t39) (cE .i64 t40 4))))
 else
 some (Sum.inl s38.2)
def BI (t1 : (List Int)) (s51 : Int × (List Int)) : Option (Sum ((List Int)) (Int × (List Int))) :=
 bif decide (s51.1 < ((t1.length : Int))) then
(aL t1 s51.1).bind fun t52 =>
(lq 40 s51.2 t52).bind fun t53 =>
(lq 40 s51.2 t52).bind fun t54 =>
 some (Sum.inr ((aN .i64 s51.1 1, s51.2.set (Int.toNat t52) (cE .i64 t53 12))))
 else
 some (Sum.inl s51.2)
def jS (mj : Int) (aQ : (List (List Int))) (jR : (List Int)) (bP : (List (List Int))) (dM : Bool) (i_1 : Int) : Option (Int × (List Int) × Bool) :=
(aL aQ i_1).bind fun t1 =>
 dx (fun j24 : Int × (List Int) =>
(cU mj aQ j24.2 bP dM t1 j24.1).bind fun l25 =>
 bif ((l25.length : Int) : Int) == 1 then
(aL l25 0).bind fun t26 =>
(lq 40 j24.2 t26).bind fun t27 =>
(lq 40 j24.2 t26).bind fun t28 =>
 some ((mj, j24.2.set (Int.toNat t26) (cE .i64 t27 j24.1), dM))
 else
 some ((mj, j24.2, dM))) fun k23 =>
(lq 40 jR i_1).bind fun t29 =>
 bif (t29 : Int) == 2 then
(aI (BJ t1) ((0, jR))).bind fun q42 : (List Int) =>
 k23 ((0, q42))
 else
 bif (t29 : Int) == 4 then
 k23 ((2, jR))
 else
 bif (t29 : Int) == 8 then
(aI (BI t1) ((0, jR))).bind fun q55 : (List Int) =>
 k23 ((8, q55))
 else
 k23 ((0, jR))
def tM : bI := ⟨[(.int .i64), (.sl (.sl (.int .i64))), (.vec .i64), (.sl (.sl (.int .i64))), .bool, (.int .i64)], [(.int .i64), (.vec .i64), .bool], fun (a : Int × (List (List Int)) × (List Int) × (List (List Int)) × Bool × Int) => jS a.1 a.2.1 a.2.2.1 a.2.2.2.1 a.2.2.2.2.1 a.2.2.2.2.2, [(false, [.ptr 0]), (false, [.d 5 0])], [.oc 0 ([.d 0 0, .own 1] ++ Xe 2 0 40 ++ [.own 2, .d 4 0]), .oa 1 (.d 1 0), .oa 2 (.d 3 0)], [], [.oc 0 ([.d 0 0, .own 1] ++ Xe 1 0 40 ++ [.own 2, .d 2 0]), .same, .same], 3, 3⟩
def CW : Hints := ⟨[(1, ⟨[], ⟨[(.int .i64), (.vec .i64)], [(0, none), (4, none), (5, none), (26, none), (27, none), (28, some (false, [.d 0 0]))], [.cells ([none, none] ++ ZB 1 0 40 ++ [none, none]), .keep, .keep], 0⟩, [], some ([], ⟨[(.vec .i64)], [(0, none), (4, none), (5, none)], [.cells ([none, none] ++ ZB 0 0 40 ++ [none, none]), .keep, .keep], 0⟩), false, none⟩), (3, ⟨[], ⟨[(.int .i64), (.vec .i64)], [(0, none), (4, none), (47, none), (48, none), (49, some (false, [.d 0 0]))], [.cells ([none, none] ++ ZB 1 0 40 ++ [none, none]), .keep, .keep], 0⟩, [], some ([], ⟨[(.vec .i64)], [(0, none), (4, none)], [.cells ([none, none] ++ ZB 0 0 40 ++ [none, none]), .keep, .keep], 0⟩), false, none⟩)], [(36, ([], ⟨[(.int .i64), (.vec .i64)], [(0, none), (4, none), (5, some (false, [.d 0 0]))], [.cells ([none, none] ++ ZB 1 0 40 ++ [none, none]), .keep, .keep], 0⟩))], [], [], []⟩
theorem BH [aq] : aG prog 203 tM := au (H := CW) (fin := []) Tryz.func203 Tryz.call203 (aD (l := [(229, pR)]) ⟨vo, trivial⟩) rfl rfl rfl (fun a => by kernel_rfl)
def og (bO : (List Int)) (Ol : Int) (v_1 : Int) (s5 : Int) : Option (Sum (Sum (Int) (Unit)) (Int)) :=
 bif decide (s5 < ((Ol.toNat : Int))) then
(Jd 40 bO Ol s5).bind fun t6 =>
 bif (v_1 : Int) == t6 then
 some (Sum.inl (Sum.inl s5))
 else
 some (Sum.inr (aN .i64 s5 1))
 else
 some (Sum.inl (Sum.inr (())))
def j6 (s_0_0 : Int) (s_0_1 : (List (List Int))) (bO : (List Int)) (Zb : (List (List Int))) (Za : Bool) (Ol : Int) (v_1 : Int) : Option (Int) :=
(aI (og bO Ol v_1) 0).bind (eH (fun a : Int => some a) fun q7 : Unit =>
 some ((-1)))
def pL : bI := ⟨[(.int .i64), (.sl (.sl (.int .i64))), (.vec .i64), (.sl (.sl (.int .i64))), .bool, (.int .i64), (.int .i64)], [(.int .i64)], fun (a : Int × (List (List Int)) × (List Int) × (List (List Int)) × Bool × Int × Int) => j6 a.1 a.2.1 a.2.2.1 a.2.2.2.1 a.2.2.2.2.1 a.2.2.2.2.2.1 a.2.2.2.2.2.2, [(false, [.vs 0 2 5 0 40]), (false, [.d 6 0])], [.oc 0 ([.d 0 0, .own 1] ++ Xe 2 0 40 ++ [.own 2, .d 4 0]), .oa 1 (.d 1 0), .oa 2 (.d 3 0)], [(false, [.d 0 0])], [.same, .same, .same], 3, 3⟩
def yQ : Hints := ⟨[(0, ⟨[], ⟨[(.int .i64)], [(0, none), (1, none), (4, none), (7, none), (8, some (false, [.d 0 0]))], [.keep, .keep, .keep], 0⟩, [], some ([], ⟨[], [(0, none), (4, none)], [.keep, .keep, .keep], 0⟩), true, none⟩)], [], [], [], []⟩
theorem xI [aq] : aG prog 162 pL := au (H := yQ) (fin := []) Tryz.func162 Tryz.call162 (aD (l := []) trivial) rfl rfl rfl (fun a => by kernel_rfl)
def eT (s_0_0 : Int) (s_0_1 : (List (List Int))) (bO : (List Int)) (Zb : (List (List Int))) (Za : Bool) (Ol : Int) (v_1 : Int) : Option (Bool) :=
(j6 s_0_0 s_0_1 bO Zb Za Ol v_1).bind fun t1 =>
 some (decide (t1 ≥ 0))
def ng : bI := ⟨[(.int .i64), (.sl (.sl (.int .i64))), (.vec .i64), (.sl (.sl (.int .i64))), .bool, (.int .i64), (.int .i64)], [.bool], fun (a : Int × (List (List Int)) × (List Int) × (List (List Int)) × Bool × Int × Int) => eT a.1 a.2.1 a.2.2.1 a.2.2.2.1 a.2.2.2.2.1 a.2.2.2.2.2.1 a.2.2.2.2.2.2, [(false, [.vs 0 2 5 0 40]), (false, [.d 6 0])], [.oc 0 ([.d 0 0, .own 1] ++ Xe 2 0 40 ++ [.own 2, .d 4 0]), .oa 1 (.d 1 0), .oa 2 (.d 3 0)], [(false, [.d 0 0])], [.same, .same, .same], 3, 3⟩
def vY : Hints := ⟨[], [], [], [], []⟩
theorem vg [aq] : aG prog 114 ng := au (H := vY) (fin := []) Tryz.func114 Tryz.call114 (aD (l := [(162, pL)]) ⟨xI, trivial⟩) rfl rfl rfl (fun a => by kernel_rfl)
def lM (aQ : (List (List Int))) (bP : (List (List Int))) (Tz : Int × (List Int) × Bool) (sF : Int × Int × (List Int) × Bool) : Option (Sum (Sum (Bool × Int × (List Int) × Bool) (Int × (List Int) × Bool)) (Int × Int × (List Int) × Bool)) :=
 bif decide (sF.1 < Tz.1) then
 dx (fun j211 : (List Int) =>
(lq 40 j211 sF.1).bind fun t212 =>
 bif (t212 : Int) == 0 then
 some (Sum.inl (Sum.inl ((false, sF.2.1, j211, sF.2.2.2))))
 else
(jS sF.2.1 aQ j211 bP sF.2.2.2 sF.1).bind fun t213 =>
 some (Sum.inr ((aN .i64 sF.1 1, t213.1, t213.2.1, t213.2.2)))) fun k210 =>
(lq 40 sF.2.2.1 sF.1).bind fun t214 =>
 mg (
(eO sF.2.1 aQ sF.2.2.1 bP sF.2.2.2 sF.1).bind fun t215 =>
(lq 40 sF.2.2.1 sF.1).bind fun t216 =>
 k210 (sF.2.2.1.set (Int.toNat sF.1) (cE .i64 t214 t215))) (
(eO sF.2.1 aQ sF.2.2.1 bP sF.2.2.2 sF.1).bind fun t217 =>
(lq 40 sF.2.2.1 sF.1).bind fun t218 =>
 k210 (sF.2.2.1.set (Int.toNat sF.1) (cE .i64 t214 t217)))
 else
 some (Sum.inl (Sum.inr ((sF.2.1, sF.2.2.1, sF.2.2.2))))
def rA (aQ : (List (List Int))) (bP : (List (List Int))) (Tz : Int × (List Int) × Bool) : Option (Sum (Bool × Int × (List Int) × Bool) (Int × (List Int) × Bool)) :=
(aI (lM aQ bP Tz) ((0, Tz.1, Tz.2.1, Tz.2.2))).bind (eH (fun a : Bool × Int × (List Int) × Bool => some (Sum.inl a)) fun HP : Int × (List Int) × Bool =>
(vsM 40 HP.1).bind fun t222 =>
(eT HP.1 aQ HP.2.1 bP HP.2.2 t222 0).bind fun t223 =>
 bif t223 then
 some (Sum.inl ((false, HP.1, HP.2.1, HP.2.2)))
 else
(Tk 40 HP.2.1 Tz.2.1).bind fun t224 =>
 bif t224 then
 some (Sum.inl ((true, HP.1, HP.2.1, HP.2.2)))
 else
 some (Sum.inr ((HP.1, HP.2.1, HP.2.2))))
def jh (mj : Int) (aQ : (List (List Int))) (jR : (List Int)) (bP : (List (List Int))) (dM : Bool) : Option (Bool × Int × (List Int) × Bool) :=
(aI (rA aQ bP) ((mj, jR, dM))).bind (fun a : Bool × Int × (List Int) × Bool => some a)
def sD : bI := ⟨[(.int .i64), (.sl (.sl (.int .i64))), (.vec .i64), (.sl (.sl (.int .i64))), .bool], [.bool, (.int .i64), (.vec .i64), .bool], fun (a : Int × (List (List Int)) × (List Int) × (List (List Int)) × Bool) => jh a.1 a.2.1 a.2.2.1 a.2.2.2.1 a.2.2.2.2, [(false, [.ptr 0])], [.oc 0 ([.d 0 0, .own 1] ++ Xe 2 0 40 ++ [.own 2, .d 4 0]), .oa 1 (.d 1 0), .oa 2 (.d 3 0)], [(false, [.d 0 0])], [.oc 0 ([.d 1 0, .own 1] ++ Xe 2 0 40 ++ [.own 2, .d 3 0]), .same, .same], 3, 3⟩
def BG : Hints := ⟨[(0, ⟨[], ⟨[(.int .i64), (.vec .i64), .bool], [(0, none), (2, none)], [.cells ([some (.d 0 0), none] ++ ZB 1 0 40 ++ [none, some (.d 2 0)]), .keep, .keep], 0⟩, [], none, true, none⟩), (2, ⟨[], ⟨[(.int .i64), (.int .i64), (.vec .i64), .bool], [(0, none), (2, none), (3, none), (12, none), (13, some (false, [.d 0 0]))], [.cells ([some (.d 1 0), none] ++ ZB 2 0 40 ++ [none, some (.d 3 0)]), .keep, .keep, .keep], 0⟩, [], some ([], ⟨[(.int .i64), (.vec .i64), .bool], [(0, none), (2, none), (3, none)], [.cells ([some (.d 0 0), none] ++ ZB 1 0 40 ++ [none, some (.d 2 0)]), .keep, .keep, .keep], 0⟩), true, none⟩)], [(14, ([], ⟨[(.vec .i64)], [(0, none), (2, none), (3, none), (4, none), (12, none), (13, none)], [.cells ([none, none] ++ ZB 0 0 40 ++ [none, none]), .keep, .keep, .keep], 0⟩))], [3], [], [21, 46]⟩
theorem Ar [aq] : aG prog 172 sD := au (H := BG) (fin := []) Tryz.func172 Tryz.call172 (aD (l := [(202, ql), (203, tM), (114, ng)]) ⟨yV, BH, vg, trivial⟩) rfl rfl rfl (fun a => by kernel_rfl)
def rC (mj : Int) (jR : (List Int)) (eZ : Int × (List Int)) : Option (Sum (Sum (Int × (List Int)) ((List Int))) (Int × (List Int))) :=
 bif decide (eZ.1 < mj) then
(lq 40 jR eZ.1).bind fun t17 =>
 bif (t17 : Int) == 2 then
(dh 8 eZ.2 [1]).bind fun l18 =>
 some (Sum.inr ((aN .i64 eZ.1 1, l18)))
 else
 bif (t17 : Int) == 4 then
(dh 8 eZ.2 [2]).bind fun l19 =>
 some (Sum.inr ((aN .i64 eZ.1 1, l19)))
 else
 bif (t17 : Int) == 8 then
(dh 8 eZ.2 [3]).bind fun l20 =>
 some (Sum.inr ((aN .i64 eZ.1 1, l20)))
 else
 some (Sum.inl (Sum.inl ((eZ.1, []))))
 else
 some (Sum.inl (Sum.inr eZ.2))
def ji (mj : Int) (aQ : (List (List Int))) (jR : (List Int)) (bP : (List (List Int))) (dM : Bool) : Option (Int × (List Int)) :=
(aI (rC mj jR) ((0, []))).bind (eH (fun a : Int × (List Int) => some a) fun Vr : (List Int) =>
 some (((-1), Vr)))
def sE : bI := ⟨[(.int .i64), (.sl (.sl (.int .i64))), (.vec .i64), (.sl (.sl (.int .i64))), .bool], [(.int .i64), (.sl (.int .i64))], fun (a : Int × (List (List Int)) × (List Int) × (List (List Int)) × Bool) => ji a.1 a.2.1 a.2.2.1 a.2.2.2.1 a.2.2.2.2, [(false, [.ptr 0])], [.oc 0 ([.d 0 0, .own 1] ++ Xe 2 0 40 ++ [.own 2, .d 4 0]), .oa 1 (.d 1 0), .oa 2 (.d 3 0)], [(false, [.own 3]), (false, [.d 0 0])], [.same, .same, .same, .oa 3 (.d 1 0)], 3, 4⟩
def BK : Hints := ⟨[(0, ⟨[.own (.int .i64) (.slot 4 0)], ⟨[(.int .i64), (.sl (.int .i64))], [(0, none), (2, none), (3, none), (4, some (false, [.own 4])), (9, none), (10, some (false, [.d 0 0]))], [.keep, .keep, .keep, .dead, .jw 0 (.d 1 0)], 1⟩, [], some ([], ⟨[(.sl (.int .i64))], [(0, none), (2, none), (3, none), (4, some (false, [.own 4]))], [.keep, .keep, .keep, .dead, .jw 0 (.d 0 0)], 1⟩), true, none⟩)], [], [], [], []⟩
theorem As [aq] : aG prog 173 sE := au (H := BK) (fin := [.own (.int .i64) (.slot 2 0)]) Tryz.func173 Tryz.call173 (aD (l := []) trivial) rfl rfl rfl (fun a => by kernel_rfl)
def gl : bI := ⟨[(.int .i64), (.sl (.sl (.int .i64))), (.vec .i64), (.sl (.sl (.int .i64))), .bool], [(.int .i64), (.vec .i64), .bool, (.sl (.sl (.int .i64)))], fun _ => none, [(false, [.ptr 0])], [.oc 0 ([.d 0 0, .own 1] ++ Xe 2 0 40 ++ [.own 2, .d 4 0]), .oa 1 (.d 1 0), .oa 2 (.d 3 0)], [], [.oc 0 ([.d 0 0, .own 1] ++ Xe 1 0 40 ++ [.own 3, .d 2 0]), .same, .dead, .oa 3 (.d 3 0)], 3, 4⟩
def eL (aQ : (List (List Int))) (t2 : (Bool × Int × (List Int) × Bool)) (t3 : (Int × (List Int))) (bG : Int → (List (List Int)) → (List Int) → (List (List Int)) → Bool → Option (Int × (List Int) × Bool × (List (List Int)))) (eZ : Int × Int × Bool × (List (List Int))) : Option (Sum (Int × Bool × (List (List Int))) (Int × Int × Bool × (List (List Int)))) :=
 bif decide (eZ.1 < (([2, 4, 8].length : Int))) then
(aL [2, 4, 8] eZ.1).bind fun t17 =>
(lq 40 t2.2.2.1 t3.1).bind fun t18 =>
 bif (cE .i64 t18 t17 : Int) != 0 then
(lq 40 t2.2.2.1 t3.1).bind fun t19 =>
(bG eZ.2.1 aQ (t2.2.2.1.set (Int.toNat t3.1) t17) eZ.2.2.2 eZ.2.2.1).bind fun t20 =>
 some (Sum.inr ((aN .i64 eZ.1 1, t20.1, t20.2.2.1, t20.2.2.2)))
 else
 some (Sum.inr ((aN .i64 eZ.1 1, eZ.2.1, eZ.2.2.1, eZ.2.2.2)))
 else
 some (Sum.inl ((eZ.2.1, eZ.2.2.1, eZ.2.2.2)))
def dR (bG : Int → (List (List Int)) → (List Int) → (List (List Int)) → Bool → Option (Int × (List Int) × Bool × (List (List Int)))) (mj : Int) (aQ : (List (List Int))) (jR : (List Int)) (bP : (List (List Int))) (dM : Bool) : Option (Int × (List Int) × Bool × (List (List Int))) :=
 bif dM then
 some ((mj, jR, dM, bP))
 else
(jh mj aQ jR bP dM).bind fun t2 =>
 bif !t2.1 then
 some ((t2.2.1, t2.2.2.1, t2.2.2.2, bP))
 else
(ji t2.2.1 aQ t2.2.2.1 bP t2.2.2.2).bind fun t3 =>
 bif decide (t3.1 < 0) then
(dh 24 bP [t3.2]).bind fun t5 =>
 some ((t2.2.1, t2.2.2.1, ((bP.length : Int) : Int) == 200, t5))
 else
(aI (eL aQ t2 t3 bG) ((0, t2.2.1, t2.2.2.2, bP))).bind fun Vr : Int × Bool × (List (List Int)) =>
 some ((Vr.1, t2.2.2.1, Vr.2.1, Vr.2.2))
def cK (n : Nat) : Int → (List (List Int)) → (List Int) → (List (List Int)) → Bool → Option (Int × (List Int) × Bool × (List (List Int))) := Nat.rec (fun _ _ _ _ _ => none) (fun _ f => dR f) n
def vm (mj : Int) (aQ : (List (List Int))) (jR : (List Int)) (bP : (List (List Int))) (dM : Bool) : Option (Int × (List Int) × Bool × (List (List Int))) := K0 (fun n (a : Int × (List (List Int)) × (List Int) × (List (List Int)) × Bool) => cK n a.1 a.2.1 a.2.2.1 a.2.2.2.1 a.2.2.2.2) (mj, aQ, jR, bP, dM)
def vn : bI := gl.with (K0 fun n (a : Int × (List (List Int)) × (List Int) × (List (List Int)) × Bool) => cK n a.1 a.2.1 a.2.2.1 a.2.2.2.1 a.2.2.2.2)
def DC : Hints := ⟨[(0, ⟨[], ⟨[(.int .i64), (.int .i64), .bool, (.sl (.sl (.int .i64)))], [(0, none), (3, none), (4, none), (46, none), (47, none), (48, some (false, [.d 0 0]))], [.cells [some (.d 1 0), none, none, none, none, none, none, none, none, none, none, none, none, none, none, none, none, none, none, none, none, none, none, none, none, none, none, none, none, none, none, none, none, none, none, none, none, none, none, none, none, none, some (.own 5), some (.d 2 0)], .keep, .dead, .dead, .keep, .jw 0 (.d 3 0)], 1⟩, [], some ([], ⟨[(.int .i64), .bool, (.sl (.sl (.int .i64)))], [(0, none)], [.cells [some (.d 0 0), none, none, none, none, none, none, none, none, none, none, none, none, none, none, none, none, none, none, none, none, none, none, none, none, none, none, none, none, none, none, none, none, none, none, none, none, none, none, none, none, none, some (.own 5), some (.d 1 0)], .keep, .dead, .dead, .dead, .jw 0 (.d 2 0)], 1⟩), false, none⟩)], [], [4], [], []⟩
theorem BL [aq] {bG : Int → (List (List Int)) → (List Int) → (List (List Int)) → Bool → Option (Int × (List Int) × Bool × (List (List Int)))} (eo : aG prog 124 (gl.with fun (a : Int × (List (List Int)) × (List Int) × (List (List Int)) × Bool) => bG a.1 a.2.1 a.2.2.1 a.2.2.2.1 a.2.2.2.2)) : aG prog 124 (gl.with fun (a : Int × (List (List Int)) × (List Int) × (List (List Int)) × Bool) => dR bG a.1 a.2.1 a.2.2.1 a.2.2.2.1 a.2.2.2.2) := au (H := DC) (fin := []) Tryz.func124 Tryz.call124 (aD (l := [(172, sD), (173, sE), (124, (gl.with fun (a : Int × (List (List Int)) × (List Int) × (List (List Int)) × Bool) => bG a.1 a.2.1 a.2.2.1 a.2.2.2.1 a.2.2.2.2))]) ⟨Ar, As, eo, trivial⟩) rfl rfl rfl (fun a => by kernel_rfl)
theorem CX [aq] : aG prog 124 vn := O5 (P := prog) (f := 124) (C := gl) (m := fun n (a : Int × (List (List Int)) × (List Int) × (List (List Int)) × Bool) => cK n a.1 a.2.1 a.2.2.1 a.2.2.2.1 a.2.2.2.2) Tryz.call124 rfl (fun n h => BL h)
def xM (aW : af) (Oo : Int × (List Int) × (List (List Int)) × (List (List Int))) : Option (Sum ((List Int) × (List (List Int)) × (List (List Int))) (Int × (List Int) × (List (List Int)) × (List (List Int)))) :=
 bif decide (Oo.1 < aW.N) then
(fJ aW Oo.1).bind fun t30 =>
(dh 24 Oo.2.2.1 [t30]).bind fun t31 =>
(lq 40 Oo.2.1 Oo.1).bind fun t32 =>
 some (Sum.inr ((aN .i64 Oo.1 1, Oo.2.1.set (Int.toNat Oo.1) 14, t31, Oo.2.2.2)))
 else
 some (Sum.inl ((Oo.2.1, Oo.2.2.1, Oo.2.2.2)))
def eF (aW : af) : Option (Int × (List (List Int))) :=
(b_ aW).bind fun e2 =>
 bif (e2 : Int) != 0 then
 some ((e2, []))
 else
(aI (xM aW) ((0, List.replicate 40 (0 : Int), [], []))).bind fun q33 : (List Int) × (List (List Int)) × (List (List Int)) =>
(vm aW.N q33.2.1 q33.1 q33.2.2 false).bind fun t34 =>
 bif t34.2.2.1 then
 some ((2, []))
 else
 some ((0, t34.2.2.2))
def nQ : bI := ⟨[(.st 2)], [(.int .i64), (.sl (.sl (.int .i64)))], fun (a : af) => eF a, [(true, [.d 0 0, .d 0 1])], [], [(false, [.own 0]), (false, [.d 0 0])], [.oa 0 (.d 1 0)], 0, 1⟩
def HJ : Hints := ⟨[(0, ⟨[.own (.sl (.int .i64)) (.cell 1 42), .own (.sl (.int .i64)) (.cell 1 1)], ⟨[(.int .i64), (.vec .i64), (.sl (.sl (.int .i64))), (.sl (.sl (.int .i64)))], [(1, none), (2, none), (3, none), (5, none), (17, none), (18, some (false, [.d 0 0]))], [.keep, .cells ([none, some (.own 4)] ++ ZB 1 0 40 ++ [some (.own 5), none]), .dead, .dead, .jw 0 (.d 2 0), .jw 1 (.d 3 0)], 2⟩, [], some ([], ⟨[(.vec .i64), (.sl (.sl (.int .i64))), (.sl (.sl (.int .i64)))], [(2, none), (3, none), (5, none)], [.dead, .cells ([none, some (.own 4)] ++ ZB 0 0 40 ++ [some (.own 5), none]), .dead, .dead, .jw 0 (.d 1 0), .jw 1 (.d 2 0)], 2⟩), false, none⟩)], [], [], [], []⟩
theorem qP : aG prog 71 nQ := au (H := HJ) (fin := [.own (.sl (.int .i64)) (.slot 2 0)]) Tryz.func71 Tryz.call71 (aD (l := [(19, gG), (108, kL), (124, vn)]) ⟨fI, mL, CX, trivial⟩) rfl rfl rfl (fun a => by kernel_rfl)
def FQ (t1 : (Int × (List (List Int)))) (tF : Int × (List (List Int))) : Option (Sum ((List (List Int))) (Int × (List (List Int)))) :=
 bif decide (tF.1 < ((t1.2.length : Int))) then
(aL t1.2 tF.1).bind fun t15 =>
(b9 t15 1).bind fun t16 =>
(dh 24 tF.2 [t16]).bind fun oz =>
 some (Sum.inr ((aN .i64 tF.1 1, oz)))
 else
 some (Sum.inl tF.2)
def yG (aW : af) : Option (Int × (List (List Int))) :=
(eF aW).bind fun t1 =>
 bif (t1.1 : Int) != 0 then
 some ((t1.1, []))
 else
(aI (FQ t1) ((0, []))).bind fun Rv : (List (List Int)) =>
 some ((0, Rv))
def yH : bI := ⟨[(.st 2)], [(.int .i64), (.sl (.sl (.int .i64)))], fun (a : af) => yG a, [(true, [.d 0 0, .d 0 1]), (false, [.ptr 0])], [.oc 0 [.fn 71 []]], [(false, [.own 1]), (false, [.d 0 0])], [.same, .oa 1 (.d 1 0)], 1, 2⟩
def Hh : Hints := ⟨[(0, ⟨[.own (.sl (.int .i64)) (.slot 7 0)], ⟨[(.int .i64), (.sl (.sl (.int .i64)))], [(1, none), (3, none), (4, none), (7, some (false, [.own 4])), (19, none), (20, none), (21, some (false, [.d 0 0]))], [.keep, .dead, .keep, .dead, .jw 0 (.d 1 0)], 1⟩, [], some ([], ⟨[(.sl (.sl (.int .i64)))], [(1, none), (3, none), (4, none), (7, some (false, [.own 4]))], [.keep, .dead, .dead, .dead, .jw 0 (.d 0 0)], 1⟩), false, none⟩)], [], [], [], []⟩
theorem FO : aG prog 123 yH := au (H := Hh) (fin := [.own (.sl (.int .i64)) (.slot 3 0)]) Tryz.func123 Tryz.call123 (aD (l := [(71, nQ), (121, dJ)]) ⟨qP, dL, trivial⟩) rfl rfl rfl (fun a => by kernel_rfl)
def wL (lF : (List Int)) (Il : (List Int)) (Rm : Int × (List Int)) : Option (Sum ((List Int)) (Int × (List Int))) :=
 bif decide (Rm.1 < ((Il.length : Int))) then
(aL Il Rm.1).bind fun t14 =>
(b9 lF t14).bind fun t15 =>
(dh 8 Rm.2 t15).bind fun out16 =>
 some (Sum.inr ((aN .i64 Rm.1 1, out16)))
 else
 some (Sum.inl Rm.2)
def gH (lF : (List Int)) (Il : (List Int)) : Option ((List Int)) :=
(aI (wL lF Il) ((0, []))).bind fun q17 : (List Int) =>
 some q17
def qX : bI := ⟨[(.sl (.int .i64)), (.sl (.int .i64))], [(.sl (.int .i64))], fun (a : (List Int) × (List Int)) => gH a.1 a.2, [(false, [.d 0 0]), (false, [.d 1 0])], [], [(false, [.own 0])], [.oa 0 (.d 0 0)], 0, 1⟩
def GX : Hints := ⟨[(0, ⟨[.own (.int .i64) (.slot 5 0)], ⟨[(.int .i64), (.sl (.int .i64))], [(0, none), (4, none), (5, some (false, [.own 1])), (8, none), (9, none), (10, some (false, [.d 0 0]))], [.dead, .jw 0 (.d 1 0)], 1⟩, [], some ([], ⟨[(.sl (.int .i64))], [(4, none), (5, some (false, [.own 1]))], [.dead, .jw 0 (.d 0 0)], 1⟩), false, none⟩)], [], [], [], []⟩
theorem wK [aq] : aG prog 128 qX := au (H := GX) (fin := []) Tryz.func128 Tryz.call128 (aD (l := [(121, dJ)]) ⟨dL, trivial⟩) rfl rfl rfl (fun a => by kernel_rfl)
def jF (bO : (List Int)) (v_1 : Int) (s5 : Int) : Option (Sum (Sum (Int) (Unit)) (Int)) :=
 bif decide (s5 < ((bO.length : Int))) then
(aL bO s5).bind fun t6 =>
 bif (v_1 : Int) == t6 then
 some (Sum.inl (Sum.inl s5))
 else
 some (Sum.inr (aN .i64 s5 1))
 else
 some (Sum.inl (Sum.inr (())))
def ga (bO : (List Int)) (v_1 : Int) : Option (Int) :=
(aI (jF bO v_1) 0).bind (eH (fun a : Int => some a) fun q7 : Unit =>
 some ((-1)))
def pK : bI := ⟨[(.sl (.int .i64)), (.int .i64)], [(.int .i64)], fun (a : (List Int) × Int) => ga a.1 a.2, [(false, [.own 0]), (false, [.d 1 0])], [.oa 0 (.d 0 0)], [(false, [.d 0 0])], [.same], 1, 1⟩
def yP : Hints := ⟨[(0, ⟨[], ⟨[(.int .i64)], [(0, none), (1, none), (4, none), (7, none), (8, some (false, [.d 0 0]))], [.keep], 0⟩, [], some ([], ⟨[], [(0, none), (4, none)], [.keep], 0⟩), true, none⟩)], [], [], [], []⟩
theorem xH [aq] : aG prog 162 pK := au (H := yP) (fin := []) Tryz.func162 Tryz.call162 (aD (l := []) trivial) rfl rfl rfl (fun a => by kernel_rfl)
def eS (bO : (List Int)) (v_1 : Int) : Option (Bool) :=
(ga bO v_1).bind fun t1 =>
 some (decide (t1 ≥ 0))
def m_ : bI := ⟨[(.sl (.int .i64)), (.int .i64)], [.bool], fun (a : (List Int) × Int) => eS a.1 a.2, [(false, [.own 0]), (false, [.d 1 0])], [.oa 0 (.d 0 0)], [(false, [.d 0 0])], [.same], 1, 1⟩
def vX : Hints := ⟨[], [], [], [], []⟩
theorem va [aq] : aG prog 114 m_ := au (H := vX) (fin := []) Tryz.func114 Tryz.call114 (aD (l := [(162, pK)]) ⟨xH, trivial⟩) rfl rfl rfl (fun a => by kernel_rfl)
def oM (Bw : Int) (dH : (List Int)) : Option (Bool) :=
(eS dH Bw).bind fun t1 =>
 some (!t1)
def vG : bI := ⟨[(.int .i64), (.sl (.int .i64))], [.bool], fun (a : Int × (List Int)) => oM a.1 a.2, [(false, [.d 0 0]), (false, [.ptr 0])], [.oc 0 [.own 1], .oa 1 (.d 1 0)], [(false, [.d 0 0])], [.same, .same], 2, 2⟩
def Ek : Hints := ⟨[], [], [], [], []⟩
theorem Da [aq] : aG prog 175 vG := au (H := Ek) (fin := []) Tryz.func175 Tryz.call175 (aD (l := [(114, m_)]) ⟨va, trivial⟩) rfl rfl rfl (fun a => by kernel_rfl)
def gy (bO : (List Int)) (jq : (List Int)) (s7 : Int) : Option (Sum (Sum (Int) (Unit)) (Int)) :=
 bif decide (s7 < ((bO.length : Int))) then
(aL bO s7).bind fun t8 =>
(oM t8 jq).bind fun t9 =>
 bif t9 then
 some (Sum.inl (Sum.inl s7))
 else
 some (Sum.inr (aN .i64 s7 1))
 else
 some (Sum.inl (Sum.inr (())))
def eD (bO : (List Int)) (jq : (List Int)) : Option (Int) :=
(aI (gy bO jq) 0).bind (eH (fun a : Int => some a) fun Ox : Unit =>
 some ((-1)))
def l5 : bI := ⟨[(.sl (.int .i64)), (.sl (.int .i64))], [(.int .i64)], fun (a : (List Int) × (List Int)) => eD a.1 a.2, [(false, [.own 0]), (false, [.fn 175 [some 1]])], [.oa 0 (.d 0 0), .oc 1 [.own 2], .oa 2 (.d 1 0)], [(false, [.d 0 0])], [.same, .same, .same], 3, 3⟩
def u_ : Hints := ⟨[(0, ⟨[], ⟨[(.int .i64)], [(0, none), (1, none), (4, none), (7, none), (8, some (false, [.d 0 0]))], [.keep, .keep, .keep], 0⟩, [], some ([], ⟨[], [(0, none), (1, none), (4, none)], [.keep, .keep, .keep], 0⟩), true, none⟩)], [], [], [], []⟩
theorem ug [aq] : aG prog 142 l5 := au (H := u_) (fin := []) Tryz.func142 Tryz.call142 (aD (l := [(175, vG)]) ⟨Da, trivial⟩) rfl rfl rfl (fun a => by kernel_rfl)
def dK (bO : (List Int)) (jq : (List Int)) : Option (Bool) :=
(eD bO jq).bind fun t1 =>
 some (decide (t1 ≥ 0))
def kD : bI := ⟨[(.sl (.int .i64)), (.sl (.int .i64))], [.bool], fun (a : (List Int) × (List Int)) => dK a.1 a.2, [(false, [.own 0]), (false, [.fn 175 [some 1]])], [.oa 0 (.d 0 0), .oc 1 [.own 2], .oa 2 (.d 1 0)], [(false, [.d 0 0])], [.same, .same, .same], 3, 3⟩
def sA : Hints := ⟨[], [], [], [], []⟩
theorem rY [aq] : aG prog 165 kD := au (H := sA) (fin := []) Tryz.func165 Tryz.call165 (aD (l := [(142, l5)]) ⟨ug, trivial⟩) rfl rfl rfl (fun a => by kernel_rfl)
def mM (qg : (List Int)) (b_1 : (List Int)) : Option (Bool) :=
 bif decide (((qg.length : Int)) < ((b_1.length : Int))) then
(dK qg b_1).bind fun t1 =>
 some (!t1)
 else
 some false
def x6 : bI := ⟨[(.sl (.int .i64)), (.sl (.int .i64))], [.bool], fun (a : (List Int) × (List Int)) => mM a.1 a.2, [(false, [.own 0]), (false, [.own 1])], [.oa 0 (.d 0 0), .oa 1 (.d 1 0)], [(false, [.d 0 0])], [.same, .same], 2, 2⟩
def GV : Hints := ⟨[], [], [], [], []⟩
theorem Fq [aq] : aG prog 127 x6 := au (H := GV) (fin := []) Tryz.func127 Tryz.call127 (aD (l := [(165, kD)]) ⟨rY, trivial⟩) rfl rfl rfl (fun a => by kernel_rfl)
def lV (qg : (List Int)) (b_1 : (List Int)) : Option (Bool) :=
(gH b_1 [1]).bind fun t1 =>
(gH qg [1]).bind fun t2 =>
(mM t1 t2).bind fun t3 =>
 some t3
def rR : bI := ⟨[(.sl (.int .i64)), (.sl (.int .i64))], [.bool], fun (a : (List Int) × (List Int)) => lV a.1 a.2, [(false, [.d 0 0]), (false, [.d 1 0])], [], [(false, [.d 0 0])], [], 0, 0⟩
def A9 : Hints := ⟨[], [], [], [], []⟩
theorem zZ [aq] : aG prog 126 rR := au (H := A9) (fin := []) Tryz.func126 Tryz.call126 (aD (l := [(127, x6), (128, qX)]) ⟨Fq, wK, trivial⟩) rfl rfl rfl (fun a => by kernel_rfl)
def mN (y_0 : (List Int)) (qo : (List Int)) : Option (Bool) :=
(lV y_0 qo).bind fun t1 =>
 some t1
def x7 : bI := ⟨[(.sl (.int .i64)), (.sl (.int .i64))], [.bool], fun (a : (List Int) × (List Int)) => mN a.1 a.2, [(false, [.d 0 0]), (false, [.ptr 0]), (false, [.ptr 1])], [.oc 0 [.fn 126 []], .oc 1 [.d 1 0]], [(false, [.d 0 0])], [.same, .same], 2, 2⟩
def GY : Hints := ⟨[], [], [], [], []⟩
theorem Fu [aq] : aG prog 174 x7 := au (H := GY) (fin := []) Tryz.func174 Tryz.call174 (aD (l := [(126, rR)]) ⟨zZ, trivial⟩) rfl rfl rfl (fun a => by kernel_rfl)
def iM (bO : (List (List Int))) (th : (List Int)) (s7 : Int) : Option (Sum (Sum (Int) (Unit)) (Int)) :=
 bif decide (s7 < ((bO.length : Int))) then
(aL bO s7).bind fun t8 =>
(mN t8 th).bind fun t9 =>
 bif t9 then
 some (Sum.inl (Sum.inl s7))
 else
 some (Sum.inr (aN .i64 s7 1))
 else
 some (Sum.inl (Sum.inr (())))
def fm (bO : (List (List Int))) (th : (List Int)) : Option (Int) :=
(aI (iM bO th) 0).bind (eH (fun a : Int => some a) fun Ox : Unit =>
 some ((-1)))
def nN : bI := ⟨[(.sl (.sl (.int .i64))), (.sl (.int .i64))], [(.int .i64)], fun (a : (List (List Int)) × (List Int)) => fm a.1 a.2, [(false, [.own 0]), (false, [.fn 174 [some 1, some 2]])], [.oa 0 (.d 0 0), .oc 1 [.fn 126 []], .oc 2 [.d 1 0]], [(false, [.d 0 0])], [.same, .same, .same], 3, 3⟩
def wY : Hints := ⟨[(0, ⟨[], ⟨[(.int .i64)], [(0, none), (1, none), (4, none), (7, none), (8, some (false, [.d 0 0]))], [.keep, .keep, .keep], 0⟩, [], some ([], ⟨[], [(0, none), (1, none), (4, none)], [.keep, .keep, .keep], 0⟩), true, none⟩)], [], [], [], []⟩
theorem vV [aq] : aG prog 180 nN := au (H := wY) (fin := []) Tryz.func180 Tryz.call180 (aD (l := [(174, x7)]) ⟨Fu, trivial⟩) rfl rfl rfl (fun a => by kernel_rfl)
def dZ (bO : (List (List Int))) (th : (List Int)) : Option (Bool) :=
(fm bO th).bind fun t1 =>
 some (decide (t1 ≥ 0))
def lJ : bI := ⟨[(.sl (.sl (.int .i64))), (.sl (.int .i64))], [.bool], fun (a : (List (List Int)) × (List Int)) => dZ a.1 a.2, [(false, [.own 0]), (false, [.fn 174 [some 1, some 2]])], [.oa 0 (.d 0 0), .oc 1 [.fn 126 []], .oc 2 [.d 1 0]], [(false, [.d 0 0])], [.same, .same, .same], 3, 3⟩
def uo : Hints := ⟨[], [], [], [], []⟩
theorem tE [aq] : aG prog 133 lJ := au (H := uo) (fin := []) Tryz.func133 Tryz.call133 (aD (l := [(180, nN)]) ⟨vV, trivial⟩) rfl rfl rfl (fun a => by kernel_rfl)
def tj (t1 : (Int × (List (List Int)))) (tF : Int × (List (List Int))) : Option (Sum ((List (List Int))) (Int × (List (List Int)))) :=
 bif decide (tF.1 < ((t1.2.length : Int))) then
(aL t1.2 tF.1).bind fun t15 =>
(dZ t1.2 t15).bind fun t16 =>
 bif !t16 then
(dh 24 tF.2 [t15]).bind fun oz =>
 some (Sum.inr ((aN .i64 tF.1 1, oz)))
 else
 some (Sum.inr ((aN .i64 tF.1 1, tF.2)))
 else
 some (Sum.inl tF.2)
def uJ (aW : af) : Option (Int × (List (List Int))) :=
(eF aW).bind fun t1 =>
 bif (t1.1 : Int) != 0 then
 some ((t1.1, []))
 else
(aI (tj t1) ((0, []))).bind fun Rv : (List (List Int)) =>
 some ((0, Rv))
def A7 : bI := ⟨[(.st 2)], [(.int .i64), (.sl (.sl (.int .i64)))], fun (a : af) => uJ a, [(true, [.d 0 0, .d 0 1]), (false, [.fn 126 []])], [], [(false, [.own 0]), (false, [.d 0 0])], [.oa 0 (.d 1 0)], 0, 1⟩
def JZ : Hints := ⟨[(0, ⟨[.own (.sl (.int .i64)) (.slot 8 0)], ⟨[(.int .i64), (.sl (.sl (.int .i64)))], [(1, none), (3, none), (4, none), (5, none), (6, none), (8, some (false, [.own 4])), (19, none), (20, none), (21, some (false, [.d 0 0]))], [.dead, .keep, .keep, .dead, .jw 0 (.d 1 0)], 1⟩, [], some ([], ⟨[(.sl (.sl (.int .i64)))], [(1, none), (4, none), (5, none), (8, some (false, [.own 4]))], [.dead, .dead, .dead, .dead, .jw 0 (.d 0 0)], 1⟩), false, none⟩)], [], [], [], []⟩
theorem IC : aG prog 125 A7 := au (H := JZ) (fin := [.own (.sl (.int .i64)) (.slot 4 0)]) Tryz.func125 Tryz.call125 (aD (l := [(133, lJ), (71, nQ)]) ⟨tE, qP, trivial⟩) rfl rfl rfl (fun a => by kernel_rfl)
def jX (aW : af) : Option (Int × (List (List Int))) :=
(uJ aW).bind fun t1 =>
 some ((t1.1, t1.2))
def tX : bI := ⟨[(.st 2)], [(.int .i64), (.sl (.sl (.int .i64)))], fun (a : af) => jX a, [(true, [.d 0 0, .d 0 1])], [], [(false, [.own 0]), (false, [.d 0 0])], [.oa 0 (.d 1 0)], 0, 1⟩
def De : Hints := ⟨[], [], [], [], []⟩
theorem Ci : aG prog 72 tX := au (H := De) (fin := []) Tryz.func72 Tryz.call72 (aD (l := [(125, A7)]) ⟨IC, trivial⟩) rfl rfl rfl (fun a => by kernel_rfl)
def qb (t1 : (Int × (List (List Int)))) (tF : Int × (List (List Int))) : Option (Sum ((List (List Int))) (Int × (List (List Int)))) :=
 bif decide (tF.1 < ((t1.2.length : Int))) then
(aL t1.2 tF.1).bind fun t15 =>
(b9 t15 1).bind fun t16 =>
(dh 24 tF.2 [t16]).bind fun oz =>
 some (Sum.inr ((aN .i64 tF.1 1, oz)))
 else
 some (Sum.inl tF.2)
def mU (aW : af) : Option (Int × (List (List Int))) :=
(jX aW).bind fun t1 =>
 bif (t1.1 : Int) != 0 then
 some ((t1.1, []))
 else
(aI (qb t1) ((0, []))).bind fun Rv : (List (List Int)) =>
 some ((0, Rv))
def yF : bI := ⟨[(.st 2)], [(.int .i64), (.sl (.sl (.int .i64)))], fun (a : af) => mU a, [(true, [.d 0 0, .d 0 1]), (false, [.ptr 0])], [.oc 0 [.fn 72 []]], [(false, [.own 1]), (false, [.d 0 0])], [.same, .oa 1 (.d 1 0)], 1, 2⟩
def Hg : Hints := ⟨[(0, ⟨[.own (.sl (.int .i64)) (.slot 7 0)], ⟨[(.int .i64), (.sl (.sl (.int .i64)))], [(1, none), (3, none), (4, none), (7, some (false, [.own 4])), (19, none), (20, none), (21, some (false, [.d 0 0]))], [.keep, .dead, .keep, .dead, .jw 0 (.d 1 0)], 1⟩, [], some ([], ⟨[(.sl (.sl (.int .i64)))], [(1, none), (3, none), (4, none), (7, some (false, [.own 4]))], [.keep, .dead, .dead, .dead, .jw 0 (.d 0 0)], 1⟩), false, none⟩)], [], [], [], []⟩
theorem FN : aG prog 123 yF := au (H := Hg) (fin := [.own (.sl (.int .i64)) (.slot 3 0)]) Tryz.func123 Tryz.call123 (aD (l := [(72, tX), (121, dJ)]) ⟨Ci, dL, trivial⟩) rfl rfl rfl (fun a => by kernel_rfl)
def oO (p_0 : (List Int)) (b_1 : (List Int)) : Option (Bool) :=
(gH b_1 [3]).bind fun t1 =>
 some (decide (((t1.length : Int)) > 0))
def vH : bI := ⟨[(.sl (.int .i64)), (.sl (.int .i64))], [.bool], fun (a : (List Int) × (List Int)) => oO a.1 a.2, [(false, [.d 0 0]), (false, [.d 1 0])], [], [(false, [.d 0 0])], [], 0, 0⟩
def Em : Hints := ⟨[], [], [], [], []⟩
theorem Dd [aq] : aG prog 129 vH := au (H := Em) (fin := []) Tryz.func129 Tryz.call129 (aD (l := [(128, qX)]) ⟨wK, trivial⟩) rfl rfl rfl (fun a => by kernel_rfl)
def jW (y_0 : (List Int)) (qo : (List Int)) : Option (Bool) :=
(oO y_0 qo).bind fun t1 =>
 some t1
def tW : bI := ⟨[(.sl (.int .i64)), (.sl (.int .i64))], [.bool], fun (a : (List Int) × (List Int)) => jW a.1 a.2, [(false, [.d 0 0]), (false, [.ptr 0]), (false, [.ptr 1])], [.oc 0 [.fn 129 []], .oc 1 [.d 1 0]], [(false, [.d 0 0])], [.same, .same], 2, 2⟩
def Db : Hints := ⟨[], [], [], [], []⟩
theorem Ch [aq] : aG prog 174 tW := au (H := Db) (fin := []) Tryz.func174 Tryz.call174 (aD (l := [(129, vH)]) ⟨Dd, trivial⟩) rfl rfl rfl (fun a => by kernel_rfl)
def fW (bO : (List (List Int))) (th : (List Int)) (s7 : Int) : Option (Sum (Sum (Int) (Unit)) (Int)) :=
 bif decide (s7 < ((bO.length : Int))) then
(aL bO s7).bind fun t8 =>
(jW t8 th).bind fun t9 =>
 bif t9 then
 some (Sum.inl (Sum.inl s7))
 else
 some (Sum.inr (aN .i64 s7 1))
 else
 some (Sum.inl (Sum.inr (())))
def dY (bO : (List (List Int))) (th : (List Int)) : Option (Int) :=
(aI (fW bO th) 0).bind (eH (fun a : Int => some a) fun Ox : Unit =>
 some ((-1)))
def lI : bI := ⟨[(.sl (.sl (.int .i64))), (.sl (.int .i64))], [(.int .i64)], fun (a : (List (List Int)) × (List Int)) => dY a.1 a.2, [(false, [.own 0]), (false, [.fn 174 [some 1, some 2]])], [.oa 0 (.d 0 0), .oc 1 [.fn 129 []], .oc 2 [.d 1 0]], [(false, [.d 0 0])], [.same, .same, .same], 3, 3⟩
def uh : Hints := ⟨[(0, ⟨[], ⟨[(.int .i64)], [(0, none), (1, none), (4, none), (7, none), (8, some (false, [.d 0 0]))], [.keep, .keep, .keep], 0⟩, [], some ([], ⟨[], [(0, none), (1, none), (4, none)], [.keep, .keep, .keep], 0⟩), true, none⟩)], [], [], [], []⟩
theorem tD [aq] : aG prog 180 lI := au (H := uh) (fin := []) Tryz.func180 Tryz.call180 (aD (l := [(174, tW)]) ⟨Ch, trivial⟩) rfl rfl rfl (fun a => by kernel_rfl)
def dI (bO : (List (List Int))) (th : (List Int)) : Option (Bool) :=
(dY bO th).bind fun t1 =>
 some (decide (t1 ≥ 0))
def jY : bI := ⟨[(.sl (.sl (.int .i64))), (.sl (.int .i64))], [.bool], fun (a : (List (List Int)) × (List Int)) => dI a.1 a.2, [(false, [.own 0]), (false, [.fn 174 [some 1, some 2]])], [.oa 0 (.d 0 0), .oc 1 [.fn 129 []], .oc 2 [.d 1 0]], [(false, [.d 0 0])], [.same, .same, .same], 3, 3⟩
def rZ : Hints := ⟨[], [], [], [], []⟩
theorem qO [aq] : aG prog 133 jY := au (H := rZ) (fin := []) Tryz.func133 Tryz.call133 (aD (l := [(180, lI)]) ⟨tD, trivial⟩) rfl rfl rfl (fun a => by kernel_rfl)
def oN (t1 : (Int × (List (List Int)))) (tF : Int × (List (List Int))) : Option (Sum ((List (List Int))) (Int × (List (List Int)))) :=
 bif decide (tF.1 < ((t1.2.length : Int))) then
(aL t1.2 tF.1).bind fun t15 =>
(dI t1.2 t15).bind fun t16 =>
 bif !t16 then
(dh 24 tF.2 [t15]).bind fun oz =>
 some (Sum.inr ((aN .i64 tF.1 1, oz)))
 else
 some (Sum.inr ((aN .i64 tF.1 1, tF.2)))
 else
 some (Sum.inl tF.2)
def p7 (aW : af) : Option (Int × (List (List Int))) :=
(eF aW).bind fun t1 =>
 bif (t1.1 : Int) != 0 then
 some ((t1.1, []))
 else
(aI (oN t1) ((0, []))).bind fun Rv : (List (List Int)) =>
 some ((0, Rv))
def wM : bI := ⟨[(.st 2)], [(.int .i64), (.sl (.sl (.int .i64)))], fun (a : af) => p7 a, [(true, [.d 0 0, .d 0 1]), (false, [.fn 129 []])], [], [(false, [.own 0]), (false, [.d 0 0])], [.oa 0 (.d 1 0)], 0, 1⟩
def Ft : Hints := ⟨[(0, ⟨[.own (.sl (.int .i64)) (.slot 8 0)], ⟨[(.int .i64), (.sl (.sl (.int .i64)))], [(1, none), (3, none), (4, none), (5, none), (6, none), (8, some (false, [.own 4])), (19, none), (20, none), (21, some (false, [.d 0 0]))], [.dead, .keep, .keep, .dead, .jw 0 (.d 1 0)], 1⟩, [], some ([], ⟨[(.sl (.sl (.int .i64)))], [(1, none), (4, none), (5, none), (8, some (false, [.own 4]))], [.dead, .dead, .dead, .dead, .jw 0 (.d 0 0)], 1⟩), false, none⟩)], [], [], [], []⟩
theorem El : aG prog 125 wM := au (H := Ft) (fin := [.own (.sl (.int .i64)) (.slot 4 0)]) Tryz.func125 Tryz.call125 (aD (l := [(133, jY), (71, nQ)]) ⟨qO, qP, trivial⟩) rfl rfl rfl (fun a => by kernel_rfl)
def mO (aW : af) : Option (Int × (List (List Int))) :=
(p7 aW).bind fun t1 =>
 some ((t1.1, t1.2))
def x9 : bI := ⟨[(.st 2)], [(.int .i64), (.sl (.sl (.int .i64)))], fun (a : af) => mO a, [(true, [.d 0 0, .d 0 1])], [], [(false, [.own 0]), (false, [.d 0 0])], [.oa 0 (.d 1 0)], 0, 1⟩
def GZ : Hints := ⟨[], [], [], [], []⟩
theorem Fv : aG prog 73 x9 := au (H := GZ) (fin := []) Tryz.func73 Tryz.call73 (aD (l := [(125, wM)]) ⟨El, trivial⟩) rfl rfl rfl (fun a => by kernel_rfl)
def qa (t1 : (Int × (List (List Int)))) (tF : Int × (List (List Int))) : Option (Sum ((List (List Int))) (Int × (List (List Int)))) :=
 bif decide (tF.1 < ((t1.2.length : Int))) then
(aL t1.2 tF.1).bind fun t15 =>
(b9 t15 1).bind fun t16 =>
(dh 24 tF.2 [t16]).bind fun oz =>
 some (Sum.inr ((aN .i64 tF.1 1, oz)))
 else
 some (Sum.inl tF.2)
def mT (aW : af) : Option (Int × (List (List Int))) :=
(mO aW).bind fun t1 =>
 bif (t1.1 : Int) != 0 then
 some ((t1.1, []))
 else
(aI (qa t1) ((0, []))).bind fun Rv : (List (List Int)) =>
 some ((0, Rv))
def yE : bI := ⟨[(.st 2)], [(.int .i64), (.sl (.sl (.int .i64)))], fun (a : af) => mT a, [(true, [.d 0 0, .d 0 1]), (false, [.ptr 0])], [.oc 0 [.fn 73 []]], [(false, [.own 1]), (false, [.d 0 0])], [.same, .oa 1 (.d 1 0)], 1, 2⟩
def Hf : Hints := ⟨[(0, ⟨[.own (.sl (.int .i64)) (.slot 7 0)], ⟨[(.int .i64), (.sl (.sl (.int .i64)))], [(1, none), (3, none), (4, none), (7, some (false, [.own 4])), (19, none), (20, none), (21, some (false, [.d 0 0]))], [.keep, .dead, .keep, .dead, .jw 0 (.d 1 0)], 1⟩, [], some ([], ⟨[(.sl (.sl (.int .i64)))], [(1, none), (3, none), (4, none), (7, some (false, [.own 4]))], [.keep, .dead, .dead, .dead, .jw 0 (.d 0 0)], 1⟩), false, none⟩)], [], [], [], []⟩
theorem FM : aG prog 123 yE := au (H := Hf) (fin := [.own (.sl (.int .i64)) (.slot 3 0)]) Tryz.func123 Tryz.call123 (aD (l := [(73, x9), (121, dJ)]) ⟨Fv, dL, trivial⟩) rfl rfl rfl (fun a => by kernel_rfl)
def tq (a0 : af) : Option ((List (List Int)) × Int) :=
 none
def tu : bI := ⟨[(.st 2)], [(.sl (.sl (.int .i64))), (.int .i64)], fun (a : af) => tq a, [(true, [.d 0 0, .d 0 1])], [], [(false, [.d 0 0]), (false, [.d 1 0])], [], 0, 0⟩
theorem A8 [aq] : aG prog 74 tu := ⟨Tryz.call74, fun a r h => by cases h⟩
def FL (t1 : ((List (List Int)) × Int)) (tF : Int × (List (List Int))) : Option (Sum ((List (List Int))) (Int × (List (List Int)))) :=
 bif decide (tF.1 < ((t1.1.length : Int))) then
(aL t1.1 tF.1).bind fun t15 =>
(b9 t15 1).bind fun t16 =>
(dh 24 tF.2 [t16]).bind fun oz =>
 some (Sum.inr ((aN .i64 tF.1 1, oz)))
 else
 some (Sum.inl tF.2)
def yC (aW : af) : Option (Int × (List (List Int))) :=
(tq aW).bind fun t1 =>
 bif (t1.2 : Int) != 0 then
 some ((t1.2, []))
 else
(aI (FL t1) ((0, []))).bind fun Rv : (List (List Int)) =>
 some ((0, Rv))
def yD : bI := ⟨[(.st 2)], [(.int .i64), (.sl (.sl (.int .i64)))], fun (a : af) => yC a, [(true, [.d 0 0, .d 0 1]), (false, [.ptr 0])], [.oc 0 [.fn 74 []]], [(false, [.own 1]), (false, [.d 0 0])], [.same, .oa 1 (.d 1 0)], 1, 2⟩
def He : Hints := ⟨[(0, ⟨[.own (.sl (.int .i64)) (.slot 7 0)], ⟨[(.int .i64), (.sl (.sl (.int .i64)))], [(1, none), (3, none), (4, none), (7, some (false, [.own 3])), (19, none), (20, none), (21, some (false, [.d 0 0]))], [.keep, .dead, .dead, .jw 0 (.d 1 0)], 1⟩, [], some ([], ⟨[(.sl (.sl (.int .i64)))], [(1, none), (3, none), (4, none), (7, some (false, [.own 3]))], [.keep, .dead, .dead, .jw 0 (.d 0 0)], 1⟩), false, none⟩)], [], [], [], []⟩
theorem FK [aq] : aG prog 123 yD := au (H := He) (fin := [.own (.sl (.int .i64)) (.slot 3 0)]) Tryz.func123 Tryz.call123 (aD (l := [(74, tu), (121, dJ)]) ⟨A8, dL, trivial⟩) rfl rfl rfl (fun a => by kernel_rfl)
def II (a0 : af) : Option ((List Int) × Int) :=
 none
def IJ : bI := ⟨[(.st 2)], [(.sl (.int .i64)), (.int .i64)], fun (a : af) => II a, [(true, [.d 0 0, .d 0 1])], [], [(false, [.d 0 0]), (false, [.d 1 0])], [], 0, 0⟩
theorem N2 [aq] : aG prog 75 IJ := ⟨Tryz.call75, fun a r h => by cases h⟩
def vN (aW : af) : Option ((List (List Int)) × Int) :=
(II aW).bind fun t1 =>
 bif (t1.2 : Int) != 0 then
 some (([], t1.2))
 else
 some (([t1.1], 0))
def vO : bI := ⟨[(.st 2)], [(.sl (.sl (.int .i64))), (.int .i64)], fun (a : af) => vN a, [(true, [.d 0 0, .d 0 1]), (false, [.ptr 0])], [.oc 0 [.fn 75 []]], [(false, [.d 0 0]), (false, [.d 1 0])], [.same], 1, 1⟩
def EB : Hints := ⟨[], [], [], [], []⟩
theorem Dt [aq] : aG prog 122 vO := au (H := EB) (fin := []) Tryz.func122 Tryz.call122 (aD (l := [(75, IJ)]) ⟨N2, trivial⟩) rfl rfl rfl (fun a => by kernel_rfl)
def FJ (t1 : ((List (List Int)) × Int)) (tF : Int × (List (List Int))) : Option (Sum ((List (List Int))) (Int × (List (List Int)))) :=
 bif decide (tF.1 < ((t1.1.length : Int))) then
(aL t1.1 tF.1).bind fun t15 =>
(b9 t15 1).bind fun t16 =>
(dh 24 tF.2 [t16]).bind fun oz =>
 some (Sum.inr ((aN .i64 tF.1 1, oz)))
 else
 some (Sum.inl tF.2)
def yA (aW : af) : Option (Int × (List (List Int))) :=
(vN aW).bind fun t1 =>
 bif (t1.2 : Int) != 0 then
 some ((t1.2, []))
 else
(aI (FJ t1) ((0, []))).bind fun Rv : (List (List Int)) =>
 some ((0, Rv))
def yB : bI := ⟨[(.st 2)], [(.int .i64), (.sl (.sl (.int .i64)))], fun (a : af) => yA a, [(true, [.d 0 0, .d 0 1]), (false, [.ptr 0])], [.oc 0 [.fn 122 [some 1]], .oc 1 [.fn 75 []]], [(false, [.own 2]), (false, [.d 0 0])], [.same, .same, .oa 2 (.d 1 0)], 2, 3⟩
def G_ : Hints := ⟨[(0, ⟨[.own (.sl (.int .i64)) (.slot 7 0)], ⟨[(.int .i64), (.sl (.sl (.int .i64)))], [(1, none), (3, none), (4, none), (7, some (false, [.own 4])), (19, none), (20, none), (21, some (false, [.d 0 0]))], [.keep, .keep, .dead, .dead, .jw 0 (.d 1 0)], 1⟩, [], some ([], ⟨[(.sl (.sl (.int .i64)))], [(1, none), (3, none), (4, none), (7, some (false, [.own 4]))], [.keep, .keep, .dead, .dead, .jw 0 (.d 0 0)], 1⟩), false, none⟩)], [], [], [], []⟩
theorem FI [aq] : aG prog 123 yB := au (H := G_) (fin := [.own (.sl (.int .i64)) (.slot 3 0)]) Tryz.func123 Tryz.call123 (aD (l := [(122, vO), (121, dJ)]) ⟨Dt, dL, trivial⟩) rfl rfl rfl (fun a => by kernel_rfl)
def IK (a0 : af) : Option ((List Int) × Int) :=
 none
def IL : bI := ⟨[(.st 2)], [(.sl (.int .i64)), (.int .i64)], fun (a : af) => IK a, [(true, [.d 0 0, .d 0 1])], [], [(false, [.d 0 0]), (false, [.d 1 0])], [], 0, 0⟩
theorem N3 [aq] : aG prog 76 IL := ⟨Tryz.call76, fun a r h => by cases h⟩
def vL (aW : af) : Option ((List (List Int)) × Int) :=
(IK aW).bind fun t1 =>
 bif (t1.2 : Int) != 0 then
 some (([], t1.2))
 else
 some (([t1.1], 0))
def vM : bI := ⟨[(.st 2)], [(.sl (.sl (.int .i64))), (.int .i64)], fun (a : af) => vL a, [(true, [.d 0 0, .d 0 1]), (false, [.ptr 0])], [.oc 0 [.fn 76 []]], [(false, [.d 0 0]), (false, [.d 1 0])], [.same], 1, 1⟩
def EA : Hints := ⟨[], [], [], [], []⟩
theorem Dr [aq] : aG prog 122 vM := au (H := EA) (fin := []) Tryz.func122 Tryz.call122 (aD (l := [(76, IL)]) ⟨N3, trivial⟩) rfl rfl rfl (fun a => by kernel_rfl)
def FH (t1 : ((List (List Int)) × Int)) (tF : Int × (List (List Int))) : Option (Sum ((List (List Int))) (Int × (List (List Int)))) :=
 bif decide (tF.1 < ((t1.1.length : Int))) then
(aL t1.1 tF.1).bind fun t15 =>
(b9 t15 1).bind fun t16 =>
(dh 24 tF.2 [t16]).bind fun oz =>
 some (Sum.inr ((aN .i64 tF.1 1, oz)))
 else
 some (Sum.inl tF.2)
def yy (aW : af) : Option (Int × (List (List Int))) :=
(vL aW).bind fun t1 =>
 bif (t1.2 : Int) != 0 then
 some ((t1.2, []))
 else
(aI (FH t1) ((0, []))).bind fun Rv : (List (List Int)) =>
 some ((0, Rv))
def yz : bI := ⟨[(.st 2)], [(.int .i64), (.sl (.sl (.int .i64)))], fun (a : af) => yy a, [(true, [.d 0 0, .d 0 1]), (false, [.ptr 0])], [.oc 0 [.fn 122 [some 1]], .oc 1 [.fn 76 []]], [(false, [.own 2]), (false, [.d 0 0])], [.same, .same, .oa 2 (.d 1 0)], 2, 3⟩
def G9 : Hints := ⟨[(0, ⟨[.own (.sl (.int .i64)) (.slot 7 0)], ⟨[(.int .i64), (.sl (.sl (.int .i64)))], [(1, none), (3, none), (4, none), (7, some (false, [.own 4])), (19, none), (20, none), (21, some (false, [.d 0 0]))], [.keep, .keep, .dead, .dead, .jw 0 (.d 1 0)], 1⟩, [], some ([], ⟨[(.sl (.sl (.int .i64)))], [(1, none), (3, none), (4, none), (7, some (false, [.own 4]))], [.keep, .keep, .dead, .dead, .jw 0 (.d 0 0)], 1⟩), false, none⟩)], [], [], [], []⟩
theorem FG [aq] : aG prog 123 yz := au (H := G9) (fin := [.own (.sl (.int .i64)) (.slot 3 0)]) Tryz.func123 Tryz.call123 (aD (l := [(122, vM), (121, dJ)]) ⟨Dr, dL, trivial⟩) rfl rfl rfl (fun a => by kernel_rfl)
def F1 (a0 : af) : Option ((List (List Int)) × Int) :=
 none
def F2 : bI := ⟨[(.st 2)], [(.sl (.sl (.int .i64))), (.int .i64)], fun (a : af) => F1 a, [(true, [.d 0 0, .d 0 1])], [], [(false, [.d 0 0]), (false, [.d 1 0])], [], 0, 0⟩
theorem L0 [aq] : aG prog 77 F2 := ⟨Tryz.call77, fun a r h => by cases h⟩
def Kx (a0 : af) : Option ((List (List Int)) × Int) :=
 none
def Ky : bI := ⟨[(.st 2)], [(.sl (.sl (.int .i64))), (.int .i64)], fun (a : af) => Kx a, [(true, [.d 0 0, .d 0 1])], [], [(false, [.d 0 0]), (false, [.d 1 0])], [], 0, 0⟩
theorem Pv [aq] : aG prog 78 Ky := ⟨Tryz.call78, fun a r h => by cases h⟩
def jc (aW : af) (fR : Int) : Option ((List (List Int)) × Int) :=
(b_ aW).bind fun e2 =>
 bif (e2 : Int) != 0 then
 some (([], e2))
 else
(uM).bind fun l3 =>
 bif decide (fR < 1) then
 some (([], 4))
 else
 bif decide (fR ≥ 10) then
 some (([], 4))
 else
 bif (fR : Int) == 0 then
 none
 else
 bif (fR : Int) == 1 then
(CO aW).bind fun t4 =>
 some ((t4.2, t4.1))
 else
 bif (fR : Int) == 2 then
(yG aW).bind fun t5 =>
 some ((t5.2, t5.1))
 else
 bif (fR : Int) == 3 then
(mU aW).bind fun t6 =>
 some ((t6.2, t6.1))
 else
 bif (fR : Int) == 4 then
(mT aW).bind fun t7 =>
 some ((t7.2, t7.1))
 else
 bif (fR : Int) == 5 then
(yC aW).bind fun t8 =>
 some ((t8.2, t8.1))
 else
 bif (fR : Int) == 6 then
(yA aW).bind fun t9 =>
 some ((t9.2, t9.1))
 else
 bif (fR : Int) == 7 then
(yy aW).bind fun t10 =>
 some ((t10.2, t10.1))
 else
 bif (fR : Int) == 8 then
(F1 aW).bind fun t11 =>
 some ((t11.1, t11.2))
 else
 bif (fR : Int) == 9 then
(Kx aW).bind fun t12 =>
 some ((t12.1, t12.2))
 else
 none
def wO : bI := ⟨[(.st 2), (.int .i64)], [(.sl (.sl (.int .i64))), (.int .i64)], fun (a : af × Int) => jc a.1 a.2, [(true, [.d 0 0, .d 0 1]), (false, [.d 1 0])], [], [(false, [.d 0 0]), (false, [.d 1 0])], [], 0, 0⟩
def FU : Hints := ⟨[], [], [], [], []⟩
theorem EC : aG prog 12 wO := au (H := FU) (fin := [.sl (.sl (.int .i64)) (.slot 4 0)]) Tryz.func12 Tryz.call12 (aD (l := [(19, gG), (33, Br), (123, CP), (123, yH), (123, yF), (123, yE), (123, yD), (123, yB), (123, yz), (77, F2), (78, Ky)]) ⟨fI, IZ, Kh, FO, FN, FM, FK, FI, FG, L0, Pv, trivial⟩) rfl rfl rfl (fun a => by kernel_rfl)
def MR (lF : (List Int)) (x_1 : Int) (s5 : Int) : Option (Sum (Sum (Bool) (Unit)) (Int)) :=
 bif decide (s5 < ((lF.length : Int))) then
(aL lF s5).bind fun t6 =>
 bif (t6 : Int) == x_1 then
 some (Sum.inl (Sum.inl true))
 else
 some (Sum.inr (aN .i64 s5 1))
 else
 some (Sum.inl (Sum.inr (())))
def EY (lF : (List Int)) (x_1 : Int) : Option (Bool) :=
(aI (MR lF x_1) 0).bind (eH (fun a : Bool => some a) fun q7 : Unit =>
 some false)
def OT : bI := ⟨[(.sl (.int .i64)), (.int .i64)], [.bool], fun (a : (List Int) × Int) => EY a.1 a.2, [(false, [.d 0 0]), (false, [.d 1 0])], [], [(false, [.d 0 0])], [], 0, 0⟩
def Xp : Hints := ⟨[(0, ⟨[], ⟨[(.int .i64)], [(0, none), (1, none), (4, none), (7, none), (8, some (false, [.d 0 0]))], [], 0⟩, [], some ([], ⟨[], [(4, none)], [], 0⟩), true, none⟩)], [], [], [], []⟩
theorem T7 [aq] : aG prog 34 OT := au (H := Xp) (fin := []) Tryz.func34 Tryz.call34 (aD (l := []) trivial) rfl rfl rfl (fun a => by kernel_rfl)
def Ec (qg : (List Int)) (b_1 : (List Int)) (s7 : Int) : Option (Sum (Sum (Bool) (Unit)) (Int)) :=
 bif decide (s7 < ((qg.length : Int))) then
(aL qg s7).bind fun t8 =>
(EY b_1 t8).bind fun t9 =>
 bif !t9 then
 some (Sum.inl (Sum.inl false))
 else
 some (Sum.inr (aN .i64 s7 1))
 else
 some (Sum.inl (Sum.inr (())))
def uV (qg : (List Int)) (b_1 : (List Int)) : Option (Bool) :=
(aI (Ec qg b_1) 0).bind (eH (fun a : Bool => some a) fun Ox : Unit =>
 some true)
def Ga : bI := ⟨[(.sl (.int .i64)), (.sl (.int .i64))], [.bool], fun (a : (List Int) × (List Int)) => uV a.1 a.2, [(false, [.d 0 0]), (false, [.d 1 0])], [], [(false, [.d 0 0])], [], 0, 0⟩
def NV : Hints := ⟨[(0, ⟨[], ⟨[(.int .i64)], [(0, none), (1, none), (4, none), (7, none), (8, some (false, [.d 0 0]))], [], 0⟩, [], some ([], ⟨[], [(4, none)], [], 0⟩), true, none⟩)], [], [], [], []⟩
theorem MQ [aq] : aG prog 13 Ga := au (H := NV) (fin := []) Tryz.func13 Tryz.call13 (aD (l := [(34, OT)]) ⟨T7, trivial⟩) rfl rfl rfl (fun a => by kernel_rfl)
def mE (q_0 : Int) : Option (Bool) :=
 bif decide (q_0 ≥ 1) then
 some (decide (q_0 ≤ 4))
 else
 some false
def xV : bI := ⟨[(.int .i64)], [.bool], fun (a : Int) => mE a, [(false, [.d 0 0])], [], [(false, [.d 0 0])], [], 0, 0⟩
def GH : Hints := ⟨[], [], [], [], []⟩
theorem Fj [aq] : aG prog 79 xV := au (H := GH) (fin := []) Tryz.func79 Tryz.call79 (aD (l := []) trivial) rfl rfl rfl (fun a => by kernel_rfl)
def lT (cG : av) (F8 : (Int)) (t89 : ((List Int))) (QW : Int × Int) : Option (Sum (Int) (Int × Int)) :=
 bif decide (QW.2 < ((t89.length : Int))) then
(aL t89 QW.2).bind fun t99 =>
(aL cG.By t99).bind fun t100 =>
 bif (s_ .u64 t100 F8 : Int) == 0 then
(cO QW.1 t99).bind fun P9 =>
 some (Sum.inr ((P9, aN .i64 QW.2 1)))
 else
 some (Sum.inr ((QW.1, aN .i64 QW.2 1)))
 else
 some (Sum.inl QW.1)
def lS (cG : av) (Vg : Int × (List Int)) : Option (Sum ((List Int)) (Int × (List Int))) :=
(dn cG Vg.1).bind fun F8 =>
(cQ cG.All).bind fun t89 =>
(aI (lT cG F8 t89) ((Vg.1, 0))).bind fun TI : Int =>
 bif (TI : Int) == Vg.1 then
 some (Sum.inl Vg.2)
 else
(dh 8 Vg.2 [TI]).bind fun Jp =>
 some (Sum.inr ((TI, Jp)))
def jj (cG : av) : Option ((List Int)) :=
(aI (lS cG) ((0, []))).bind (fun a : (List Int) => some a)
def sQ : bI := ⟨[(.st 3)], [(.sl (.int .u64))], fun (a : av) => jj a, [(true, [.d 0 0, .d 0 1, .d 0 2])], [], [(false, [.own 0])], [.oa 0 (.d 0 0)], 0, 1⟩
def B0 : Hints := ⟨[(0, ⟨[.own (.int .u64) (.slot 3 0)], ⟨[(.int .u64), (.sl (.int .u64))], [(1, none), (2, none), (3, some (false, [.own 2])), (4, some (false, [.d 0 0]))], [.keep, .dead, .jw 0 (.d 1 0)], 1⟩, [], none, true, none⟩), (2, ⟨[], ⟨[(.int .u64), (.int .i64)], [(1, none), (2, none), (3, none), (4, none), (5, none), (6, some (false, [.d 0 0])), (15, none), (16, none), (17, some (false, [.d 1 0]))], [.keep, .dead, .keep, .keep], 0⟩, [], some ([], ⟨[(.int .u64)], [(1, none), (2, none), (3, none), (4, none), (6, some (false, [.d 0 0]))], [.keep, .dead, .keep, .dead], 0⟩), false, none⟩)], [], [], [], []⟩
theorem AK : aG prog 189 sQ := au (H := B0) (fin := []) Tryz.func189 Tryz.call189 (aD (l := [(89, iI), (82, gE), (88, mD)]) ⟨jL, iV, pU, trivial⟩) rfl rfl rfl (fun a => by kernel_rfl)
def o7 (cG : av) : Option (Int) :=
(jj cG).bind fun l1 =>
 bif ((l1.length : Int) : Int) == 0 then
 some 0
 else
(aL l1 (qq .i64 ((l1.length : Int)) 1)).bind fun t2 =>
 some t2
def AJ : bI := ⟨[(.st 3)], [(.int .u64)], fun (a : av) => o7 a, [(true, [.d 0 0, .d 0 1, .d 0 2])], [], [(false, [.d 0 0])], [], 0, 0⟩
def JC : Hints := ⟨[], [], [], [], []⟩
theorem Ia : aG prog 139 AJ := au (H := JC) (fin := []) Tryz.func139 Tryz.call139 (aD (l := [(189, sQ)]) ⟨AK, trivial⟩) rfl rfl rfl (fun a => by kernel_rfl)
def jk (bO : Int) (dH : Int) (qo : Int) (F7 : (List Int)) (F6 : (List Int)) (AB : Int) (xS : Bool) (OE : Bool) : Option (Bool × Bool) :=
 dx (fun j5 : Bool =>
 dx (fun j8 : Bool =>
 bif j8 then
 some ((false, !xS))
 else
 some ((true, OE))) fun k7 =>
 bif j5 then
(bD bO AB).bind fun t9 =>
 k7 (!(t9 == xS))
 else
 k7 false) fun k4 =>
 bif (dH : Int) == 1 then
(cR ((av.mk qo F7 F6)) bO).bind fun t10 =>
 bif t10 then
 k4 true
 else
 bif (dH : Int) != 1 then
(dr ((av.mk qo F7 F6)) bO).bind fun t11 =>
 k4 t11
 else
 k4 false
 else
 bif (dH : Int) != 1 then
(dr ((av.mk qo F7 F6)) bO).bind fun t12 =>
 k4 t12
 else
 k4 false
def sR : bI := ⟨[(.int .u64), (.int .i64), (.int .u64), (.sl (.int .u64)), (.sl (.int .u64)), (.int .i64), .bool, .bool], [.bool, .bool], fun (a : Int × Int × Int × (List Int) × (List Int) × Int × Bool × Bool) => jk a.1 a.2.1 a.2.2.1 a.2.2.2.1 a.2.2.2.2.1 a.2.2.2.2.2.1 a.2.2.2.2.2.2.1 a.2.2.2.2.2.2.2, [(false, [.d 0 0]), (false, [.ptr 0]), (false, [.ptr 1]), (false, [.ptr 2]), (false, [.ptr 3]), (false, [.ptr 4])], [.oc 0 [.d 1 0], .oc 1 [.d 2 0, .d 3 0, .d 4 0], .oc 2 [.d 5 0], .oc 3 [.d 6 0], .oc 4 [.d 7 0]], [(false, [.d 0 0])], [.same, .same, .same, .same, .oc 4 [.d 1 0]], 5, 5⟩
def B1 : Hints := ⟨[], [(6, ([], ⟨[.bool], [(0, none), (1, none), (2, none), (3, none), (4, none), (5, none), (7, none), (8, some (false, [.d 0 0]))], [.keep, .keep, .keep, .keep, .keep], 0⟩)), (8, ([], ⟨[.bool], [(1, none), (2, none), (3, none), (4, none), (5, none), (7, none), (32, some (false, [.d 0 0]))], [.keep, .keep, .keep, .keep, .keep], 0⟩))], [], [], []⟩
theorem AN : aG prog 141 sR := au (H := B1) (fin := []) Tryz.func141 Tryz.call141 (aD (l := [(51, k8), (50, oD), (43, iH)]) ⟨pO, tQ, jK, trivial⟩) rfl rfl rfl (fun a => by kernel_rfl)
def qQ (bO : Int) (gP : Int) (gO : Int) (gN : (List Int)) (gM : (List Int)) (gL : Int) (gK : Bool) (s5 : Int × Bool) : Option (Sum (Bool) (Int × Bool)) :=
(jk s5.1 gP gO gN gM gL gK s5.2).bind fun t6 =>
 bif !t6.1 then
 some (Sum.inl t6.2)
 else
 bif (s5.1 : Int) == 0 then
 some (Sum.inl t6.2)
 else
 some (Sum.inr ((cE .u64 (qq .u64 s5.1 1) bO, t6.2)))
def nS (bO : Int) (gP : Int) (gO : Int) (gN : (List Int)) (gM : (List Int)) (gL : Int) (gK : Bool) (uL : Bool) : Option (Bool) :=
(aI (qQ bO gP gO gN gM gL gK) ((bO, uL))).bind (fun a : Bool => some a)
def zn : bI := ⟨[(.int .u64), (.int .i64), (.int .u64), (.sl (.int .u64)), (.sl (.int .u64)), (.int .i64), .bool, .bool], [.bool], fun (a : Int × Int × Int × (List Int) × (List Int) × Int × Bool × Bool) => nS a.1 a.2.1 a.2.2.1 a.2.2.2.1 a.2.2.2.2.1 a.2.2.2.2.2.1 a.2.2.2.2.2.2.1 a.2.2.2.2.2.2.2, [(false, [.d 0 0]), (false, [.fn 141 [some 0, some 1, some 2, some 3, some 4]])], [.oc 0 [.d 1 0], .oc 1 [.d 2 0, .d 3 0, .d 4 0], .oc 2 [.d 5 0], .oc 3 [.d 6 0], .oc 4 [.d 7 0]], [], [.same, .same, .same, .same, .oc 4 [.d 0 0]], 5, 5⟩
def H9 : Hints := ⟨[(0, ⟨[], ⟨[(.int .u64), .bool], [(0, none), (1, none), (4, some (false, [.d 0 0]))], [.keep, .keep, .keep, .keep, .cells [some (.d 1 0)]], 0⟩, [], none, true, none⟩)], [], [], [], []⟩
theorem GD : aG prog 140 zn := au (H := H9) (fin := []) Tryz.func140 Tryz.call140 (aD (l := [(141, sR)]) ⟨AN, trivial⟩) rfl rfl rfl (fun a => by kernel_rfl)
def ij (cG : av) (aO : Int) (jJ : Int) : Option (Bool) :=
 bif (aO : Int) == 4 then
(o7 cG).bind fun t3 =>
(bD t3 jJ).bind fun t4 =>
 some t4
 else
(nS cG.All aO cG.All cG.By cG.Out jJ ((aO : Int) == 3) ((aO : Int) == 3)).bind fun t5 =>
 some t5
def oF : bI := ⟨[(.st 3), (.int .i64), (.int .i64)], [.bool], fun (a : av × Int × Int) => ij a.1 a.2.1 a.2.2, [(true, [.d 0 0, .d 0 1, .d 0 2]), (false, [.d 1 0]), (false, [.d 2 0])], [], [(false, [.d 0 0])], [], 0, 0⟩
def D7 : Hints := ⟨[], [], [], [], []⟩
theorem tU : aG prog 80 oF := au (H := D7) (fin := []) Tryz.func80 Tryz.call80 (aD (l := [(139, AJ), (43, iH), (140, zn)]) ⟨Ia, jK, GD, trivial⟩) rfl rfl rfl (fun a => by kernel_rfl)
def iA (Bw : Int) (dH : Int) : Option (Bool) :=
 some ((Bw : Int) == dH)
def oQ : bI := ⟨[(.int .i64), (.int .i64)], [.bool], fun (a : Int × Int) => iA a.1 a.2, [(false, [.d 0 0]), (false, [.ptr 0])], [.oc 0 [.d 1 0]], [(false, [.d 0 0])], [.same], 1, 1⟩
def Eo : Hints := ⟨[], [], [], [], []⟩
theorem tY [aq] : aG prog 83 oQ := au (H := Eo) (fin := []) Tryz.func83 Tryz.call83 (aD (l := []) trivial) rfl rfl rfl (fun a => by kernel_rfl)
def gx (bO : (List Int)) (jq : Int) (s7 : Int) : Option (Sum (Sum (Int) (Unit)) (Int)) :=
 bif decide (s7 < ((bO.length : Int))) then
(aL bO s7).bind fun t8 =>
(iA t8 jq).bind fun t9 =>
 bif t9 then
 some (Sum.inl (Sum.inl s7))
 else
 some (Sum.inr (aN .i64 s7 1))
 else
 some (Sum.inl (Sum.inr (())))
def eC (bO : (List Int)) (jq : Int) : Option (Int) :=
(aI (gx bO jq) 0).bind (eH (fun a : Int => some a) fun Ox : Unit =>
 some ((-1)))
def lZ : bI := ⟨[(.sl (.int .i64)), (.int .i64)], [(.int .i64)], fun (a : (List Int) × Int) => eC a.1 a.2, [(false, [.own 0]), (false, [.fn 83 [some 1]])], [.oa 0 (.d 0 0), .oc 1 [.d 1 0]], [(false, [.d 0 0])], [.same, .same], 2, 2⟩
def u9 : Hints := ⟨[(0, ⟨[], ⟨[(.int .i64)], [(0, none), (1, none), (4, none), (7, none), (8, some (false, [.d 0 0]))], [.keep, .keep], 0⟩, [], some ([], ⟨[], [(0, none), (1, none), (4, none)], [.keep, .keep], 0⟩), true, none⟩)], [], [], [], []⟩
theorem uf [aq] : aG prog 142 lZ := au (H := u9) (fin := []) Tryz.func142 Tryz.call142 (aD (l := [(83, oQ)]) ⟨tY, trivial⟩) rfl rfl rfl (fun a => by kernel_rfl)
def iN (gQ : Int) (lu : Int × Int × (List Int)) : Option (Sum (Int × (List Int)) (Int × Int × (List Int))) :=
 bif decide (lu.2.1 < ((lu.2.2.length : Int))) then
(aL lu.2.2 lu.2.1).bind fun t11 =>
(iA t11 gQ).bind fun t12 =>
 bif !t12 then
(aL lu.2.2 lu.1).bind fun t13 =>
 some (Sum.inr ((aN .i64 lu.1 1, aN .i64 lu.2.1 1, lu.2.2.set (Int.toNat lu.1) t11)))
 else
 some (Sum.inr ((lu.1, aN .i64 lu.2.1 1, lu.2.2)))
 else
 some (Sum.inl ((lu.1, lu.2.2)))
def fq (bO : (List Int)) (gQ : Int) : Option ((List Int)) :=
(eC bO gQ).bind fun i1 =>
 bif (i1 : Int) == ((-1)) then
 some bO
 else
(aI (iN gQ) ((i1, aN .i64 i1 1, bO))).bind fun HQ : Int × (List Int) =>
(QV HQ.2 HQ.1 HQ.2.length).bind fun t15 =>
(QV HQ.2 HQ.1 HQ.2.length).bind fun t16 =>
(QV (HQ.2.take (Int.toNat HQ.1) ++ List.replicate (Int.toNat HQ.2.length - Int.toNat HQ.1) 0 ++ HQ.2.drop (Int.toNat HQ.2.length)) 0 HQ.1).bind fun t17 =>
 some t17
def nP : bI := ⟨[(.sl (.int .i64)), (.int .i64)], [(.sl (.int .i64))], fun (a : (List Int) × Int) => fq a.1 a.2, [(false, [.own 0]), (false, [.fn 83 [some 1]])], [.oa 0 (.d 0 0), .oc 1 [.d 1 0]], [(false, [.d 0 0])], [.dead, .same], 2, 2⟩
def wZ : Hints := ⟨[(0, ⟨[], ⟨[(.int .i64), (.int .i64), (.sl (.int .i64))], [(0, none), (1, none), (4, none), (5, some (false, [.d 0 0])), (6, some (false, [.d 1 0]))], [.data (.d 2 0), .keep], 0⟩, [], some ([], ⟨[(.int .i64), (.sl (.int .i64))], [(0, none), (1, none), (4, none), (5, some (false, [.d 0 0]))], [.data (.d 1 0), .keep], 0⟩), false, none⟩)], [], [38], [38], []⟩
theorem vW [aq] : aG prog 81 nP := au (H := wZ) (fin := [.sl (.int .i64) (.slot 4 0)]) Tryz.func81 Tryz.call81 (aD (l := [(142, lZ), (83, oQ)]) ⟨uf, tY, trivial⟩) rfl rfl rfl (fun a => by kernel_rfl)
def nG (cG : av) (s_1 : Int) (LF : Int × (List Int) × (List Int)) (Bx : Int × (List Int) × (List Int)) : Option (Sum ((List Int) × (List Int)) (Int × (List Int) × (List Int))) :=
 bif decide (Bx.1 < ((cG.By.length : Int))) then
(bD LF.1 Bx.1).bind fun t26 =>
 bif t26 then
(aL cG.By Bx.1).bind fun t27 =>
(aL cG.Out Bx.1).bind fun t28 =>
(aL Bx.2.1 Bx.1).bind fun t29 =>
(aL Bx.2.2 Bx.1).bind fun t30 =>
 some (Sum.inr ((aN .i64 Bx.1 1, Bx.2.1.set (Int.toNat Bx.1) (cE .u64 t27 s_1), Bx.2.2.set (Int.toNat Bx.1) (cE .u64 t28 s_1))))
 else
 some (Sum.inr ((aN .i64 Bx.1 1, Bx.2.1, Bx.2.2)))
 else
 some (Sum.inl ((Bx.2.1, Bx.2.2)))
def kH (cG : av) (s_1 : Int) : Option (av) :=
 dx (fun LF : Int × (List Int) × (List Int) =>
(aI (nG cG s_1 LF) ((0, LF.2.1, LF.2.2))).bind fun q31 : (List Int) × (List Int) =>
 some ((av.mk LF.1 q31.1 q31.2))) fun Ht =>
 mg (
(uB 8 0 ((cG.By.length : Int))).bind fun t32 =>
 mg (
(uB 8 0 ((cG.By.length : Int))).bind fun t33 =>
 Ht ((cE .u64 cG.All s_1, t32, t33))) (
(uB 8 0 ((cG.By.length : Int))).bind fun t34 =>
 Ht ((cE .u64 cG.All s_1, t32, t34)))) (
 mg (
(uB 8 0 ((cG.By.length : Int))).bind fun t35 =>
 mg (
(uB 8 0 ((cG.By.length : Int))).bind fun t36 =>
 Ht ((cE .u64 cG.All s_1, t36, t35))) (
(uB 8 0 ((cG.By.length : Int))).bind fun t37 =>
 Ht ((cE .u64 cG.All s_1, t37, t35)))) (
 mg (
(uB 8 0 ((cG.By.length : Int))).bind fun t38 =>
(uB 8 0 ((cG.By.length : Int))).bind fun t39 =>
 Ht ((cE .u64 cG.All s_1, t38, t39))) (
(uB 8 0 ((cG.By.length : Int))).bind fun t40 =>
(uB 8 0 ((cG.By.length : Int))).bind fun t41 =>
 Ht ((cE .u64 cG.All s_1, t41, t40)))))
def vE : bI := ⟨[(.st 3), (.int .u64)], [(.st 3)], fun (a : av × Int) => kH a.1 a.2, [(true, [.d 0 0, .d 0 1, .d 0 2]), (false, [.d 1 0])], [], [(true, [.d 0 0, .d 0 1, .d 0 2])], [], 0, 0⟩
def D5 : Hints := ⟨[(0, ⟨[], ⟨[(.int .i64), (.sl (.int .u64)), (.sl (.int .u64))], [(1, none), (2, none), (4, none), (5, none), (22, none), (23, some (false, [.d 0 0]))], [.keep, .keep, .keep, .data (.d 1 0), .data (.d 2 0)], 0⟩, [], some ([], ⟨[(.sl (.int .u64)), (.sl (.int .u64))], [(4, none), (5, none)], [.dead, .keep, .keep, .data (.d 0 0), .data (.d 1 0)], 0⟩), false, none⟩)], [(6, ([], ⟨[(.int .u64), (.sl (.int .u64)), (.sl (.int .u64))], [(1, none), (2, none), (4, none), (5, some (false, [.ptr 2]))], [.keep, .keep, .ocN 0 [.d 0 0, .own 3, .own 4], .jw 1 (.d 1 0), .jw 2 (.d 2 0)], 3⟩))], [], [], []⟩
theorem C7 [aq] : aG prog 86 vE := au (H := D5) (fin := [.sl (.int .u64) (.cell 1 1), .sl (.int .u64) (.cell 1 2)]) Tryz.func86 Tryz.call86 (aD (l := [(43, iH)]) ⟨jK, trivial⟩) rfl rfl rfl (fun a => by kernel_rfl)
def dQ (bO : (List Int)) (dH : Int) (OG : (List Int)) (OF : (List Int)) (qo : Int) (AB : Int) (xS : Bool) : Option (Bool) :=
(dW bO).bind fun t1 =>
(kH ((av.mk dH OG OF)) (s_ .u64 dH t1)).bind fun t2 =>
(ij t2 qo AB).bind fun t3 =>
 some (!(t3 == xS))
def rT : bI := ⟨[(.sl (.int .i64)), (.int .u64), (.sl (.int .u64)), (.sl (.int .u64)), (.int .i64), (.int .i64), .bool], [.bool], fun (a : (List Int) × Int × (List Int) × (List Int) × Int × Int × Bool) => dQ a.1 a.2.1 a.2.2.1 a.2.2.2.1 a.2.2.2.2.1 a.2.2.2.2.2.1 a.2.2.2.2.2.2, [(false, [.d 0 0]), (false, [.ptr 0]), (false, [.ptr 1]), (false, [.ptr 2]), (false, [.ptr 3])], [.oc 0 [.d 1 0, .d 2 0, .d 3 0], .oc 1 [.d 4 0], .oc 2 [.d 5 0], .oc 3 [.d 6 0]], [(false, [.d 0 0])], [.same, .same, .same, .same], 4, 4⟩
def Ba : Hints := ⟨[], [], [], [], []⟩
theorem z7 : aG prog 85 rT := au (H := Ba) (fin := []) Tryz.func85 Tryz.call85 (aD (l := [(40, nq), (86, vE), (80, oF)]) ⟨o0, C7, tU, trivial⟩) rfl rfl rfl (fun a => by kernel_rfl)
def kN (bO : (List Int)) (dH : (List (List Int))) (rK : Int) (rJ : (List Int)) (rH : (List Int)) (rG : Int) (rF : Int) (rE : Bool) : Option ((List (List Int))) :=
 dx (fun j5 : Unit =>
 bif decide (((dH.length : Int)) > 0) then
(aL dH 0).bind fun t6 =>
 bif decide (((bO.length : Int)) < ((t6.length : Int))) then
(dh 24 [] [bO]).bind fun t7 =>
 some t7
 else
(dh 24 dH [bO]).bind fun t8 =>
 some t8
 else
(dh 24 dH [bO]).bind fun t9 =>
 some t9) fun k4 =>
 bif decide (((dH.length : Int)) > 0) then
(aL dH 0).bind fun t10 =>
 bif decide (((bO.length : Int)) > ((t10.length : Int))) then
 some dH
 else
(dQ bO rK rJ rH rG rF rE).bind fun t11 =>
 bif !t11 then
 some dH
 else
 k4 (())
 else
(dQ bO rK rJ rH rG rF rE).bind fun t12 =>
 bif !t12 then
 some dH
 else
 k4 (())
def vI : bI := ⟨[(.sl (.int .i64)), (.sl (.sl (.int .i64))), (.int .u64), (.sl (.int .u64)), (.sl (.int .u64)), (.int .i64), (.int .i64), .bool], [(.sl (.sl (.int .i64)))], fun (a : (List Int) × (List (List Int)) × Int × (List Int) × (List Int) × Int × Int × Bool) => kN a.1 a.2.1 a.2.2.1 a.2.2.2.1 a.2.2.2.2.1 a.2.2.2.2.2.1 a.2.2.2.2.2.2.1 a.2.2.2.2.2.2.2, [(false, [.d 0 0]), (false, [.ptr 0]), (false, [.ptr 2])], [.oc 0 [.own 1], .oa 1 (.d 1 0), .oc 2 [.fn 85 [some 3, some 4, some 5, some 6]], .oc 3 [.d 2 0, .d 3 0, .d 4 0], .oc 4 [.d 5 0], .oc 5 [.d 6 0], .oc 6 [.d 7 0]], [], [.oc 0 [.own 7], .dead, .same, .same, .same, .same, .same, .oa 7 (.d 0 0)], 7, 8⟩
def En : Hints := ⟨[], [(4, ([], ⟨[], [(0, none), (1, none), (2, none)], [.keep, .keep, .keep, .keep, .keep, .keep, .keep], 0⟩))], [], [], []⟩
theorem Df : aG prog 145 vI := au (H := En) (fin := []) Tryz.func145 Tryz.call145 (aD (l := [(85, rT)]) ⟨z7, trivial⟩) rfl rfl rfl (fun a => by kernel_rfl)
def yg (lF : (List Int)) (NP : Int × (List (List Int))) (On : Int × (List Int)) : Option (Sum ((List Int)) (Int × (List Int))) :=
 bif decide (On.1 < ((lF.length : Int))) then
(aL lF On.1).bind fun t42 =>
(KH .i64 NP.1 On.1).bind fun t43 =>
 bif (cE .i64 t43 1 : Int) == 1 then
(dh 8 On.2 [t42]).bind fun DE =>
 some (Sum.inr ((aN .i64 On.1 1, DE)))
 else
 some (Sum.inr ((aN .i64 On.1 1, On.2)))
 else
 some (Sum.inl On.2)
def yf (lF : (List Int)) (c_ : Int) (c9 : (List Int)) (c8 : (List Int)) (c7 : Int) (c6 : Int) (cZ : Bool) (t1 : Int) (NP : Int × (List (List Int))) : Option (Sum ((List (List Int))) (Int × (List (List Int)))) :=
 bif decide (NP.1 < t1) then
(aI (yg lF NP) ((0, []))).bind fun q45 : (List Int) =>
(kN q45 NP.2 c_ c9 c8 c7 c6 cZ).bind fun t46 =>
 some (Sum.inr ((aN .i64 NP.1 1, t46)))
 else
 some (Sum.inl NP.2)
def uZ (lF : (List Int)) (c_ : Int) (c9 : (List Int)) (c8 : (List Int)) (c7 : Int) (c6 : Int) (cZ : Bool) : Option ((List (List Int))) :=
(Ed .i64 1 ((lF.length : Int))).bind fun t1 =>
(aI (yf lF c_ c9 c8 c7 c6 cZ t1) ((0, []))).bind fun q47 : (List (List Int)) =>
 some q47
def Gd : bI := ⟨[(.sl (.int .i64)), (.int .u64), (.sl (.int .u64)), (.sl (.int .u64)), (.int .i64), (.int .i64), .bool], [(.sl (.sl (.int .i64)))], fun (a : (List Int) × Int × (List Int) × (List Int) × Int × Int × Bool) => uZ a.1 a.2.1 a.2.2.1 a.2.2.2.1 a.2.2.2.2.1 a.2.2.2.2.2.1 a.2.2.2.2.2.2, [(false, [.d 0 0]), (false, [.fn 145 [some 0, some 1]])], [.oc 0 [.nl], .oc 1 [.fn 85 [some 2, some 3, some 4, some 5]], .oc 2 [.d 1 0, .d 2 0, .d 3 0], .oc 3 [.d 4 0], .oc 4 [.d 5 0], .oc 5 [.d 6 0]], [], [.oc 0 [.own 6], .same, .same, .same, .same, .same, .oa 6 (.d 0 0)], 6, 7⟩
def N0 : Hints := ⟨[(0, ⟨[.own (.sl (.int .i64)) (.cell 0 0)], ⟨[(.int .i64), (.sl (.sl (.int .i64)))], [(0, none), (1, none), (10, none), (11, some (false, [.d 0 0]))], [.cells [some (.own 7)], .keep, .keep, .keep, .keep, .keep, .dead, .jw 0 (.d 1 0)], 1⟩, [], some ([], ⟨[(.sl (.sl (.int .i64)))], [(1, none)], [.cells [some (.own 7)], .keep, .keep, .keep, .keep, .keep, .dead, .jw 0 (.d 0 0)], 1⟩), false, none⟩), (2, ⟨[.own (.int .i64) (.slot 5 0)], ⟨[(.int .i64), (.sl (.int .i64))], [(0, none), (1, none), (4, none), (5, some (false, [.own 9])), (10, none), (11, none), (14, none), (15, none), (16, some (false, [.d 0 0]))], [.keep, .keep, .keep, .keep, .keep, .keep, .dead, .keep, .dead, .jw 0 (.d 1 0)], 1⟩, [], some ([], ⟨[(.sl (.int .i64))], [(0, none), (1, none), (5, some (false, [.own 9])), (10, none), (11, none)], [.keep, .keep, .keep, .keep, .keep, .keep, .dead, .keep, .dead, .jw 0 (.d 0 0)], 1⟩), false, none⟩)], [], [], [], []⟩
theorem Nb : aG prog 144 Gd := au (H := N0) (fin := []) Tryz.func144 Tryz.call144 (aD (l := [(145, vI)]) ⟨Df, trivial⟩) rfl rfl rfl (fun a => by kernel_rfl)
def gf (Zd : (List Int)) (Zc : (List Int)) (Ta : Int) : Option (Sum (Sum (Int) (Unit)) (Int)) :=
 bif decide (Ta < ((Zd.length : Int))) then
(aL Zd Ta).bind fun t20 =>
 bif decide (Ta ≥ ((Zc.length : Int))) then
 some (Sum.inl (Sum.inl 1))
 else
(aL Zc Ta).bind fun t21 =>
(bT t20 t21).bind fun c22 =>
 bif (c22 : Int) != 0 then
 some (Sum.inl (Sum.inl c22))
 else
 some (Sum.inr (aN .i64 Ta 1))
 else
 some (Sum.inl (Sum.inr (())))
def kX (Zd : (List Int)) (Zc : (List Int)) : Option (Int) :=
(aI (gf Zd Zc) 0).bind (eH (fun a : Int => some a) fun q23 : Unit =>
 bif decide (((Zd.length : Int)) < ((Zc.length : Int))) then
 some ((-1))
 else
 some 0)
def qj : bI := ⟨[(.sl (.int .i64)), (.sl (.int .i64))], [(.int .i64)], fun (a : (List Int) × (List Int)) => kX a.1 a.2, [(false, [.d 0 0]), (false, [.d 1 0])], [], [(false, [.d 0 0])], [], 0, 0⟩
def zM : Hints := ⟨[(0, ⟨[], ⟨[(.int .i64)], [(0, none), (1, none), (4, none), (9, none), (10, none), (11, some (false, [.d 0 0]))], [], 0⟩, [], some ([], ⟨[], [(0, none), (1, none), (4, none)], [], 0⟩), true, none⟩)], [], [], [], []⟩
theorem yS [aq] : aG prog 148 qj := au (H := zM) (fin := []) Tryz.func148 Tryz.call148 (aD (l := [(48, kV)]) ⟨mS, trivial⟩) rfl rfl rfl (fun a => by kernel_rfl)
def cg (qg : (List Int)) (b_1 : (List Int)) : Option (Int) :=
(kX qg b_1).bind fun t1 =>
 some t1
def zD : bI := ⟨[(.sl (.int .i64)), (.sl (.int .i64))], [(.int .i64)], fun (a : (List Int) × (List Int)) => cg a.1 a.2, [(false, [.d 0 0]), (false, [.d 1 0])], [], [(false, [.d 0 0])], [], 0, 0⟩
def ID : Hints := ⟨[], [], [], [], []⟩
theorem yd [aq] : aG prog 147 zD := au (H := ID) (fin := []) Tryz.func147 Tryz.call147 (aD (l := [(148, qj)]) ⟨yS, trivial⟩) rfl rfl rfl (fun a => by kernel_rfl)
theorem vU [aq] {bO r : (List (List Int))} (hm : (Dx cg) bO = some r) {tG : Value × List Nat} :
  gw prog 146 [pv tG.1, pv (.func (.func 147) #[] #[])] [oa (wC (rI .i64)) tG.1 tG.2 bO] (fun _ : Unit => []) (fun _ : Unit => [oa (wC (rI .i64)) tG.1 tG.2 r]) :=
 YU rfl rfl (X := Unit) (fun x y r h => Qy (t := (.sl (.int .i64))) (@yd u7) h fun _ => rfl)
  (fun enc h1 cf hO blk off cap d w hc hH hb hs hT => Any.slices_SortFunc_total YX enc h1 cf hO 147 #[] blk off cap d w (enters_of Tryz.func147 (by kernel_rfl) rfl) hc hH hb hs hT)
  (fun p cap fv w => AnyF.slices_SortFunc_none { YX with } p cap fv w) hm
def n5 : bI := SG (P := prog) (.sl (.int .i64)) (Dx cg) [(false, [.fn 147 []])]
theorem wW [aq] : aG prog 146 n5 := ⟨Tryz.call146, E6 fun s r hm h0 => vU hm⟩
def qF (lF : (List Int)) (A1 : Int) (A0 : (List Int)) (AZ : (List Int)) (AY : Int) (AX : Int) (AW : Bool) : Option ((List (List Int))) :=
(uZ lF A1 A0 AZ AY AX AW).bind fun t1 =>
((Dx cg) t1).bind fun t2 =>
 some t2
def CJ : bI := ⟨[(.sl (.int .i64)), (.int .u64), (.sl (.int .u64)), (.sl (.int .u64)), (.int .i64), (.int .i64), .bool], [(.sl (.sl (.int .i64)))], fun (a : (List Int) × Int × (List Int) × (List Int) × Int × Int × Bool) => qF a.1 a.2.1 a.2.2.1 a.2.2.2.1 a.2.2.2.2.1 a.2.2.2.2.2.1 a.2.2.2.2.2.2, [(false, [.d 0 0]), (false, [.fn 85 [some 0, some 1, some 2, some 3]])], [.oc 0 [.d 1 0, .d 2 0, .d 3 0], .oc 1 [.d 4 0], .oc 2 [.d 5 0], .oc 3 [.d 6 0]], [(false, [.own 4])], [.same, .same, .same, .same, .oa 4 (.d 0 0)], 4, 5⟩
def K_ : Hints := ⟨[], [], [], [], []⟩
theorem J1 : aG prog 84 CJ := au (H := K_) (fin := []) Tryz.func84 Tryz.call84 (aD (l := [(146, n5), (144, Gd), (147, zD)]) ⟨wW, Nb, yd, trivial⟩) rfl rfl rfl (fun a => by kernel_rfl)
def mP (aW : af) (aO : Int) (jJ : Int) : Option (Int × (List (List Int))) :=
(b_ aW).bind fun e2 =>
 bif (e2 : Int) != 0 then
 some ((e2, []))
 else
(mE aO).bind fun t6 =>
 bif !t6 then
 some ((4, []))
 else
 dx (fun j8 : Bool =>
 bif j8 then
 some ((1, []))
 else
 bif decide (aW.N > 10) then
 some ((2, []))
 else
(dX aW).bind fun t9 =>
(ij t9 aO jJ).bind fun t10 =>
(cQ t9.All).bind fun t11 =>
(fq t11 jJ).bind fun Ms =>
(qF Ms t9.All t9.By t9.Out aO jJ t10).bind fun RF =>
 bif ((RF.length : Int) : Int) == 0 then
 some ((9, []))
 else
 some ((0, RF))) fun k7 =>
 bif decide (jJ < 0) then
 k7 true
 else
 k7 (decide (jJ ≥ aW.N))
def yh : bI := ⟨[(.st 2), (.int .i64), (.int .i64)], [(.int .i64), (.sl (.sl (.int .i64)))], fun (a : af × Int × Int) => mP a.1 a.2.1 a.2.2, [(true, [.d 0 0, .d 0 1]), (false, [.d 1 0]), (false, [.d 2 0])], [], [(false, [.own 0]), (false, [.d 0 0])], [.oa 0 (.d 1 0)], 0, 1⟩
def G3 : Hints := ⟨[], [(16, ([], ⟨[.bool], [(3, none), (4, none), (5, none), (6, none), (7, none), (22, some (false, [.d 0 0]))], [.keep, .keep, .keep], 0⟩))], [], [], []⟩
theorem Fw : aG prog 35 yh := au (H := G3) (fin := [.own (.sl (.int .i64)) (.slot 6 0)]) Tryz.func35 Tryz.call35 (aD (l := [(81, nP), (19, gG), (79, xV), (49, uT), (80, oF), (82, gE), (84, CJ)]) ⟨vW, fI, Fj, xW, tU, iV, J1, trivial⟩) rfl rfl rfl (fun a => by kernel_rfl)
def Cb (qg : (List Int)) (b_1 : (List Int)) (s7 : Int) : Option (Sum (Sum (Bool) (Unit)) (Int)) :=
 bif decide (s7 < ((qg.length : Int))) then
(aL qg s7).bind fun t8 =>
(aL b_1 s7).bind fun t9 =>
 bif (t8 : Int) != t9 then
 some (Sum.inl (Sum.inl false))
 else
 some (Sum.inr (aN .i64 s7 1))
 else
 some (Sum.inl (Sum.inr (())))
def zx (qg : (List Int)) (b_1 : (List Int)) : Option (Bool) :=
 bif ((qg.length : Int) : Int) != ((b_1.length : Int)) then
 some false
 else
(aI (Cb qg b_1) 0).bind (eH (fun a : Bool => some a) fun Ox : Unit =>
 some true)
def KG : bI := ⟨[(.sl (.int .i64)), (.sl (.int .i64))], [.bool], fun (a : (List Int) × (List Int)) => zx a.1 a.2, [(false, [.d 0 0]), (false, [.d 1 0])], [], [(false, [.d 0 0])], [], 0, 0⟩
def RZ : Hints := ⟨[(0, ⟨[], ⟨[(.int .i64)], [(0, none), (1, none), (4, none), (12, none), (13, some (false, [.d 0 0]))], [], 0⟩, [], some ([], ⟨[], [(4, none)], [], 0⟩), true, none⟩)], [], [], [], []⟩
theorem Qm [aq] : aG prog 87 KG := au (H := RZ) (fin := []) Tryz.func87 Tryz.call87 (aD (l := []) trivial) rfl rfl rfl (fun a => by kernel_rfl)
def zU (qg : (List (List Int))) (b_1 : (List (List Int))) (s9 : Int) : Option (Sum (Sum (Bool) (Unit)) (Int)) :=
 bif decide (s9 < ((qg.length : Int))) then
(aL qg s9).bind fun t10 =>
(aL b_1 s9).bind fun t11 =>
(zx t10 t11).bind fun t12 =>
 bif !t12 then
 some (Sum.inl (Sum.inl false))
 else
 some (Sum.inr (aN .i64 s9 1))
 else
 some (Sum.inl (Sum.inr (())))
def xg (qg : (List (List Int))) (b_1 : (List (List Int))) : Option (Bool) :=
 bif ((qg.length : Int) : Int) != ((b_1.length : Int)) then
 some false
 else
(aI (zU qg b_1) 0).bind (eH (fun a : Bool => some a) fun Js : Unit =>
 some true)
def Ir : bI := ⟨[(.sl (.sl (.int .i64))), (.sl (.sl (.int .i64)))], [.bool], fun (a : (List (List Int)) × (List (List Int))) => xg a.1 a.2, [(false, [.own 0]), (false, [.d 1 0])], [.oa 0 (.d 0 0)], [(false, [.d 0 0])], [.same], 1, 1⟩
def Ql : Hints := ⟨[(0, ⟨[], ⟨[(.int .i64)], [(0, none), (1, none), (4, none), (12, none), (13, some (false, [.d 0 0]))], [.keep], 0⟩, [], some ([], ⟨[], [(0, none), (4, none)], [.keep], 0⟩), true, none⟩)], [], [], [], []⟩
theorem NU [aq] : aG prog 36 Ir := au (H := Ql) (fin := []) Tryz.func36 Tryz.call36 (aD (l := [(87, KG)]) ⟨Qm, trivial⟩) rfl rfl rfl (fun a => by kernel_rfl)
def nw  : Option (Bool) :=
(eB ((af.mk 2 [(ah.mk 0 1)])) [1] 1).bind fun t1 =>
(mP ((af.mk 2 [(ah.mk 0 1)])) 4 1).bind fun t2 =>
 bif (t1.2 : Int) == 0 then
 bif ((t1.1.jt.length : Int) : Int) == 1 then
 bif (t2.1 : Int) == 0 then
(xg t2.2 ([[0]])).bind fun t3 =>
 some t3
 else
 some false
 else
 some false
 else
 some false
def F0 : bI := ⟨[], [.bool], fun (a : Unit) => nw, [], [], [(false, [.d 0 0])], [], 0, 0⟩
def NM : Hints := ⟨[], [], [], [], []⟩
theorem LV : aG prog 14 F0 := au (H := NM) (fin := []) Tryz.func14 Tryz.call14 (aD (l := [(36, Ir), (7, p_), (35, yh)]) ⟨NU, vK, Fw, trivial⟩) rfl rfl rfl (fun a => by kernel_rfl)
def qM (Dy : (ay × (List Int))) (t150 : (af × Int)) (aaq : Int × Int) (s173 : Int) : Option (Sum (Sum (Bool) (Unit)) (Int)) :=
 bif decide (s173 < ((Dy.2.length : Int))) then
(aL Dy.2 s173).bind fun t174 =>
(lH t150.1 aaq.1 t174).bind fun t175 =>
 bif (t175.2 : Int) != 0 then
 some (Sum.inl (Sum.inl false))
 else
 bif !t175.1.Holds then
 some (Sum.inl (Sum.inl false))
 else
(mY t150.1 aaq.1 t174 t175.1).bind fun t176 =>
 bif (t176 : Int) != 0 then
 some (Sum.inl (Sum.inl false))
 else
 some (Sum.inr (aN .i64 s173 1))
 else
 some (Sum.inl (Sum.inr (())))
def qL (Dy : (ay × (List Int))) (t178 : ((List (List Int)) × Int)) (WW : Bool × Int) : Option (Sum (Bool) (Bool × Int)) :=
 bif decide (WW.2 < ((t178.1.length : Int))) then
(aL t178.1 WW.2).bind fun t194 =>
 bif WW.1 then
 some (Sum.inr ((true, aN .i64 WW.2 1)))
 else
(uV Dy.2 t194).bind fun t195 =>
 some (Sum.inr ((t195, aN .i64 WW.2 1)))
 else
 some (Sum.inl WW.1)
def qK (t2 : (af × ay)) (Dy : (ay × (List Int))) (s145 : Int) : Option (Sum (Sum (Bool) (Unit)) (Int)) :=
 bif decide (s145 < (([1, 2].length : Int))) then
(aL [1, 2] s145).bind fun t146 =>
(eB t2.1 Dy.2 t146).bind fun t147 =>
 dx (fun j149 : Unit =>
(eY t2.1 t147.1.jt).bind fun t150 =>
 bif (t147.2 : Int) != 0 then
 some (Sum.inl (Sum.inl false))
 else
 bif (t150.2 : Int) != 0 then
 some (Sum.inl (Sum.inl false))
 else
(qG t2.1 t146 t147.1).bind fun t152 =>
 bif (t152 : Int) != 0 then
 some (Sum.inl (Sum.inl false))
 else
 dx (fun aaq : Int × Int =>
(aI (qM Dy t150 aaq) 0).bind (eH (fun a : Bool => some (Sum.inl (Sum.inl a))) fun q177 : Unit =>
(jc t150.1 aaq.2).bind fun t178 =>
(aI (qL Dy t178) ((false, 0))).bind fun q196 : Bool =>
 bif (t178.2 : Int) != 0 then
 some (Sum.inl (Sum.inl false))
 else
 bif !q196 then
 some (Sum.inl (Sum.inl false))
 else
 some (Sum.inr (aN .i64 s145 1)))) fun k153 =>
 bif (t146 : Int) == 2 then
 k153 ((2, 4))
 else
 k153 ((1, 3))) fun k148 =>
 bif (t147.2 : Int) == 9 then
 bif (t146 : Int) == 2 then
 bif ((Dy.2.length : Int) : Int) == 0 then
 bif decide (t2.1.N > 0) then
 some (Sum.inr (aN .i64 s145 1))
 else
 k148 (())
 else
 k148 (())
 else
 k148 (())
 else
 k148 (())
 else
 some (Sum.inl (Sum.inr (())))
def sr (lF : (List Int)) : Option (Bool) :=
(B9 lF).bind fun s1 =>
(o_ ((ay.mk s1.1 s1.2)) 6).bind fun t2 =>
(qD t2.2 t2.1.N).bind fun Dy =>
(aI (qK t2 Dy) 0).bind (eH (fun a : Bool => some a) fun q197 : Unit =>
(nw).bind fun t198 =>
 some t198)
def HD : bI := ⟨[(.sl (.int .i64))], [.bool], fun (a : (List Int)) => sr a, [(false, [.d 0 0])], [], [(false, [.d 0 0])], [], 0, 0⟩
def HC : Hints := ⟨[(0, ⟨[.sl (.int .i64) (.slot 5 0)], ⟨[(.int .i64)], [(2, none), (4, none), (5, none), (31, none), (32, none), (33, some (false, [.d 0 0]))], [.dead, .keep, .dead], 0⟩, [], some ([], ⟨[], [(2, none)], [.dead, .dead, .dead], 0⟩), true, none⟩), (2, ⟨[], ⟨[(.int .i64)], [(2, none), (4, none), (5, none), (10, none), (12, none), (13, none), (31, none), (32, none), (33, none), (70, none), (71, none), (74, none), (75, none), (76, none), (77, none), (78, none), (82, none), (83, none), (84, some (false, [.d 0 0]))], [.dead, .keep, .dead, .dead, .keep], 0⟩, [], some ([], ⟨[], [(2, none), (4, none), (5, none), (10, none), (13, none), (31, none), (32, none), (33, none), (70, none), (71, none), (74, none), (75, none), (76, none), (77, none), (78, none)], [.dead, .keep, .dead, .dead, .keep], 0⟩), true, none⟩), (4, ⟨[], ⟨[.bool, (.int .i64)], [(2, none), (4, none), (5, none), (19, none), (20, some (false, [.d 0 0])), (31, none), (32, none), (33, none), (70, none), (71, none), (74, none), (75, none), (76, none), (77, none), (78, none), (117, none), (118, none), (119, some (false, [.d 1 0]))], [.dead, .keep, .dead, .dead, .dead], 0⟩, [], some ([], ⟨[.bool], [(2, none), (4, none), (5, none), (19, none), (20, some (false, [.d 0 0])), (31, none), (32, none), (33, none), (70, none), (71, none), (74, none), (75, none), (76, none), (77, none), (78, none)], [.dead, .keep, .dead, .dead, .dead], 0⟩), false, none⟩)], [(20, ([], ⟨[], [(2, none), (4, none), (5, none), (7, none), (8, none), (9, none), (31, none), (32, none), (33, none)], [.dead, .keep, .dead, .keep], 0⟩)), (32, ([], ⟨[(.int .i64), (.int .i64)], [(2, none), (4, none), (5, none), (10, none), (12, some (false, [.d 0 0])), (13, some (false, [.d 1 0])), (31, none), (32, none), (33, none), (70, none), (71, none), (74, none), (75, none), (76, none), (77, none), (78, none)], [.dead, .keep, .dead, .dead, .keep], 0⟩))], [], [], []⟩
theorem Gn : aG prog 3 HD := au (H := HC) (fin := []) Tryz.func3 Tryz.call3 (aD (l := [(4, MM), (5, AU), (6, CD), (7, p_), (8, uK), (9, CK), (10, An), (11, Cu), (12, wO), (13, Ga), (14, F0)]) ⟨RX, Ip, JQ, vK, zH, J5, Hz, Ji, EC, MQ, LV, trivial⟩) rfl rfl rfl (fun a => by kernel_rfl)
end
end Go.Dc
