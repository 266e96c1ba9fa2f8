/- Part LAWTE.F of a proof: lemmas. -/
import Derived.Test.YtkkgghdjclkknaaGreatDoorP52KeyI
import Derived.Test.YtkkgghdjclkknaaGreatDoorP52SortC
set_option linter.unusedVariables false
set_option maxRecDepth 100000
set_option maxHeartbeats 1000000
namespace Go.Dc
def qH (k_ : Nat) (Bw : Int) : Option (Bool) :=
 some ((Bw : Int) != Bw)
theorem G4 {k_ : Nat} {Bw : Int} : Le (qH k_ Bw) (iP Bw) := by
 unfold qH iP
 repeat' with_reducible (first | exact Le.refl _)
def nX (k_ : Nat) (Bw : Int) (WA : Int) : Option (Int) :=
((qH k_) Bw).bind fun Yy =>
((qH k_) WA).bind fun Q8 =>
 bif Yy then
 bif Q8 then
 some 0
 else
 some ((-1))
 else
 bif Q8 then
 some 1
 else
 bif decide (Bw < WA) then
 some ((-1))
 else
 bif decide (Bw > WA) then
 some 1
 else
 some 0
theorem Ez {k_ : Nat} {Bw : Int} {WA : Int} : Le (nX k_ Bw WA) (bT Bw WA) := by
 unfold nX bT
 repeat' with_reducible (first | exact Le.refl _ | refine G4 | refine Le.bind ?_ (fun _ => ?_) | refine Le.cond ?_ ?_)
def yp (k_ : Nat) (qI : (List Int)) (s5 : Int) : Option (Sum (Sum (Int) (Unit)) (Int)) :=
 bif decide (s5 < ((qI.length : Int))) then
(aL qI s5).bind fun t6 =>
 bif (t6 : Int) != 0 then
 some (Sum.inl (Sum.inl t6))
 else
 some (Sum.inr (aN .i64 s5 1))
 else
 some (Sum.inl (Sum.inr (())))
theorem IP {k_ : Nat} {qI : (List Int)} {s5 : Int} : Le (yp k_ qI s5) (eR qI s5) := by
 unfold yp eR
 repeat' with_reducible (first | exact Le.refl _ | refine Le.bind ?_ (fun _ => ?_) | refine Le.cond ?_ ?_)
def Cq (k_ : Nat) (qI : (List Int)) : Option (Int) :=
(mh k_ ((yp k_) qI) 0).bind (eH (fun a : Int => some a) fun q7 : Unit =>
 some 0)
theorem Lf {k_ : Nat} {qI : (List Int)} : Le (Cq k_ qI) (gU qI) := by
 unfold Cq gU
 repeat' with_reducible (first | exact Le.refl _ | refine Le.loop (fun _ => IP) | refine Le.bind ?_ (Le.Oh (fun _ => ?_) fun _ => ?_) | refine Le.bind ?_ (Le.eH fun _ => ?_) | refine Le.bind ?_ (fun _ => ?_))
def wk (k_ : Nat) (qg : ah) (b_1 : ah) : Option (Int) :=
((nX k_) qg.bw b_1.bw).bind fun t1 =>
((nX k_) qg.To b_1.To).bind fun t2 =>
((Cq k_) [t1, t2]).bind fun t3 =>
 some t3
theorem GR {k_ : Nat} {qg : ah} {b_1 : ah} : Le (wk k_ qg b_1) (bA qg b_1) := by
 unfold wk bA
 repeat' with_reducible (first | exact Le.refl _ | refine Ez | refine Lf | refine Le.bind ?_ (fun _ => ?_))
def qV (k_ : Nat) (aW : af) (s9 : Int) : Option (Sum (Sum (Int) (Unit)) (Int)) :=
 bif decide (s9 < ((aW.L.length : Int))) then
(aL aW.L s9).bind fun t10 =>
 bif decide ((GQ t10.bw t10.To) < 0) then
 some (Sum.inl (Sum.inl 1))
 else
 bif decide ((imax t10.bw t10.To) ≥ aW.N) then
 some (Sum.inl (Sum.inl 1))
 else
 bif decide (s9 > 0) then
(aL aW.L (qq .i64 s9 1)).bind fun t11 =>
((wk k_) t11 t10).bind fun t12 =>
 bif decide (t12 ≥ 0) then
 some (Sum.inl (Sum.inl 8))
 else
 some (Sum.inr (aN .i64 s9 1))
 else
 some (Sum.inr (aN .i64 s9 1))
 else
 some (Sum.inl (Sum.inr (())))
theorem C_ {k_ : Nat} {aW : af} {s9 : Int} : Le (qV k_ aW s9) (nV aW s9) := by
 unfold qV nV
 repeat' with_reducible (first | exact Le.refl _ | refine GR | refine Le.bind ?_ (fun _ => ?_) | refine Le.cond ?_ ?_)
def pe (k_ : Nat) (aW : af) : Option (Int) :=
 bif decide (aW.N < 0) then
 some 1
 else
 bif decide (aW.N > 40) then
 some 1
 else
(mh k_ ((qV k_) aW) 0).bind (eH (fun a : Int => some a) fun Js : Unit =>
 some 0)
theorem wJ {k_ : Nat} {aW : af} : Le (pe k_ aW) (b_ aW) := by
 unfold pe b_
 repeat' with_reducible (first | exact Le.refl _ | refine Le.loop (fun _ => C_) | refine Le.bind ?_ (Le.Oh (fun _ => ?_) fun _ => ?_) | refine Le.bind ?_ (Le.eH fun _ => ?_) | refine Le.bind ?_ (fun _ => ?_) | refine Le.cond ?_ ?_)
def k9 (k_ : Nat) (lF : (List Int)) (jU : Int) (s7 : Int) : Option (Sum (Sum (Bool) (Unit)) (Int)) :=
 bif decide (s7 < ((lF.length : Int))) then
(aL lF s7).bind fun t8 =>
 bif decide (t8 < 0) then
 some (Sum.inl (Sum.inl false))
 else
 bif decide (t8 ≥ jU) then
 some (Sum.inl (Sum.inl false))
 else
 bif decide (s7 > 0) then
(aL lF (qq .i64 s7 1)).bind fun t9 =>
 bif decide (t8 ≤ t9) then
 some (Sum.inl (Sum.inl false))
 else
 some (Sum.inr (aN .i64 s7 1))
 else
 some (Sum.inr (aN .i64 s7 1))
 else
 some (Sum.inl (Sum.inr (())))
theorem xe {k_ : Nat} {lF : (List Int)} {jU : Int} {s7 : Int} : Le (k9 k_ lF jU s7) (iJ lF jU s7) := by
 unfold k9 iJ
 repeat' with_reducible (first | exact Le.refl _ | refine Le.bind ?_ (fun _ => ?_) | refine Le.cond ?_ ?_)
def mJ (k_ : Nat) (lF : (List Int)) (jU : Int) : Option (Bool) :=
(mh k_ ((k9 k_) lF jU) 0).bind (eH (fun a : Bool => some a) fun Ox : Unit =>
 some true)
theorem y5 {k_ : Nat} {lF : (List Int)} {jU : Int} : Le (mJ k_ lF jU) (ec lF jU) := by
 unfold mJ ec
 repeat' with_reducible (first | exact Le.refl _ | refine Le.loop (fun _ => xe) | refine Le.bind ?_ (Le.Oh (fun _ => ?_) fun _ => ?_) | refine Le.bind ?_ (Le.eH fun _ => ?_) | refine Le.bind ?_ (fun _ => ?_))
def mQ (k_ : Nat) (aW : af) (s_1 : (List Int)) (bu : Int) : Option (Int) :=
((pe k_) aW).bind fun e2 =>
 bif (e2 : Int) != 0 then
 some e2
 else
 dx (fun j4 : Bool =>
 bif j4 then
 some 4
 else
((mJ k_) s_1 aW.N).bind fun t5 =>
 bif !t5 then
 some 1
 else
 some 0) fun k3 =>
 bif (bu : Int) != 1 then
 k3 ((bu : Int) != 2)
 else
 k3 false
theorem y9 {k_ : Nat} {aW : af} {s_1 : (List Int)} {bu : Int} : Le (mQ k_ aW s_1 bu) (dF aW s_1 bu) := by
 unfold mQ dF
 repeat' with_reducible (first | exact Le.refl _ | refine wJ | refine y5 | refine Le.bind ?_ (fun _ => ?_) | refine Le.cond ?_ ?_ | refine Le.join (fun _ => ?_) (fun _ _ hj => ?_) | exact hj _)
def nJ (k_ : Nat) (aW : af) (s_1 : (List Int)) (bu : Int) : Option (Bool) :=
 bif ((s_1.length : Int) : Int) == 0 then
 bif (bu : Int) == 2 then
 some (decide (aW.N > 0))
 else
 some false
 else
 some false
theorem z_ {k_ : Nat} {aW : af} {s_1 : (List Int)} {bu : Int} : Le (nJ k_ aW s_1 bu) (eM aW s_1 bu) := by
 unfold nJ eM
 repeat' with_reducible (first | exact Le.refl _ | refine Le.cond ?_ ?_)
def eV (k_ : Nat) (bO : Int) (uw : Int) : Option (Int) :=
(Ed .u64 1 (IntKind.wrap .u64 uw)).bind fun t1 =>
 some (Yo .u64 bO t1)
theorem jV {k_ : Nat} {bO : Int} {uw : Int} : Le (eV k_ bO uw) (cO bO uw) := by
 unfold eV cO
 repeat' with_reducible (first | exact Le.refl _ | refine Le.bind ?_ (fun _ => ?_))
def sN (k_ : Nat) (lF : (List Int)) (s7 : Int × Int) : Option (Sum (Int) (Int × Int)) :=
 bif decide (s7.2 < ((lF.length : Int))) then
(aL lF s7.2).bind fun t8 =>
((eV k_) s7.1 t8).bind fun s9 =>
 some (Sum.inr ((s9, aN .i64 s7.2 1)))
 else
 some (Sum.inl s7.1)
theorem D4 {k_ : Nat} {lF : (List Int)} {s7 : Int × Int} : Le (sN k_ lF s7) (gF lF s7) := by
 unfold sN gF
 repeat' with_reducible (first | exact Le.refl _ | refine jV | refine Le.bind ?_ (fun _ => ?_) | refine Le.cond ?_ ?_)
def kq (k_ : Nat) (lF : (List Int)) : Option (Int) :=
(mh k_ ((sN k_) lF) ((0, 0))).bind fun Ox : Int =>
 some Ox
theorem qS {k_ : Nat} {lF : (List Int)} : Le (kq k_ lF) (dW lF) := by
 unfold kq dW
 repeat' with_reducible (first | exact Le.refl _ | refine Le.loop (fun _ => D4) | refine Le.bind ?_ (fun _ => ?_))
def cC (k_ : Nat) (bO : Int) (uw : Int) : Option (Bool) :=
(KH .u64 bO (IntKind.wrap .u64 uw)).bind fun t1 =>
 some ((cE .u64 t1 1 : Int) == 1)
theorem ff {k_ : Nat} {bO : Int} {uw : Int} : Le (cC k_ bO uw) (bD bO uw) := by
 unfold cC bD
 repeat' with_reducible (first | exact Le.refl _ | refine Le.bind ?_ (fun _ => ?_))
def nI (k_ : Nat) (s_1 : (List Int)) (in_1 : (Int)) (j8 : (List Int) × (List (List ah))) (Vf : Int × (List ah)) : Option (Sum ((List ah)) (Int × (List ah))) :=
 bif decide (Vf.1 < ((j8.2.length : Int))) then
(aL j8.2 Vf.1).bind fun t82 =>
(aL t82 0).bind fun t83 =>
 dx (fun j94 : Int × Int =>
(dh 16 Vf.2 [(ah.mk j94.1 j94.2)]).bind fun t95 =>
 some (Sum.inr ((aN .i64 Vf.1 1, t95)))) fun k93 =>
 dx (fun j99 : Bool =>
 bif j99 then
((cC k_) in_1 t83.To).bind fun t100 =>
 bif t100 then
(aL s_1 0).bind fun t101 =>
 k93 ((t101, t83.bw))
 else
(aL s_1 0).bind fun t102 =>
 k93 ((t102, t83.To))
 else
 k93 ((t83.bw, t83.To))) fun k98 =>
((cC k_) in_1 t83.bw).bind fun t103 =>
 bif !t103 then
 k98 true
 else
((cC k_) in_1 t83.To).bind fun t104 =>
 k98 (!t104)
 else
 some (Sum.inl Vf.2)
theorem z8 {k_ : Nat} {s_1 : (List Int)} {in_1 : (Int)} {j8 : (List Int) × (List (List ah))} {Vf : Int × (List ah)} : Le (nI k_ s_1 in_1 j8 Vf) (kP s_1 in_1 j8 Vf) := by
 unfold nI kP
 repeat' with_reducible (first | exact Le.refl _ | refine ff | refine Le.bind ?_ (fun _ => ?_) | refine Le.cond ?_ ?_ | refine Le.join (fun _ => ?_) (fun _ _ hj => ?_) | exact hj _)
def jg (k_ : Nat) (Nf : List Int) : Option (List Int) := dh 8 [] Nf
theorem yU {k_ : Nat} {Nf : List Int} : Le (jg k_ Nf) (cI Nf) := by
 unfold jg cI
 repeat' with_reducible (first | exact Le.refl _)
def rm (k_ : Nat) (aW : af) (j7 : Int × Int × (List Int) × (List Int)) (QX : Int × (List (List ah))) : Option (Sum ((List (List ah))) (Int × (List (List ah)))) :=
 bif decide (QX.1 < ((aW.L.length : Int))) then
(aL aW.L QX.1).bind fun t65 =>
 dx (fun j69 : Bool =>
 bif j69 then
(dh 24 QX.2 ([[t65]])).bind fun ZH =>
 some (Sum.inr ((aN .i64 QX.1 1, ZH)))
 else
 some (Sum.inr ((aN .i64 QX.1 1, QX.2)))) fun k68 =>
((cC k_) j7.1 t65.bw).bind fun t71 =>
 bif t71 then
((cC k_) j7.1 t65.To).bind fun t72 =>
 k68 t72
 else
 k68 false
 else
 some (Sum.inl QX.2)
theorem Dn {k_ : Nat} {aW : af} {j7 : Int × Int × (List Int) × (List Int)} {QX : Int × (List (List ah))} : Le (rm k_ aW j7 QX) (kR aW j7 QX) := by
 unfold rm kR
 repeat' with_reducible (first | exact Le.refl _ | refine ff | refine Le.bind ?_ (fun _ => ?_) | refine Le.cond ?_ ?_ | refine Le.join (fun _ => ?_) (fun _ _ hj => ?_) | exact hj _)
def oB (k_ : Nat) (lu : Int × (List Int)) : Option (Sum ((List Int)) (Int × (List Int))) :=
 bif (lu.1 : Int) != 0 then
(YK lu.1).bind fun t11 =>
(dh 8 lu.2 [t11]).bind fun DT =>
 some (Sum.inr ((cE .u64 lu.1 (qq .u64 lu.1 1), DT)))
 else
 some (Sum.inl lu.2)
theorem AF {k_ : Nat} {lu : Int × (List Int)} : Le (oB k_ lu) (pV lu) := by
 unfold oB pV
 repeat' with_reducible (first | exact Le.refl _ | refine Le.bind ?_ (fun _ => ?_) | refine Le.cond ?_ ?_)
def eW (k_ : Nat) (bO : Int) : Option ((List Int)) :=
(mh k_ (oB k_) ((bO, []))).bind fun Js : (List Int) =>
 some Js
theorem gp {k_ : Nat} {bO : Int} : Le (eW k_ bO) (cQ bO) := by
 unfold eW cQ
 repeat' with_reducible (first | exact Le.refl _ | refine Le.loop (fun _ => AF) | refine Le.bind ?_ (fun _ => ?_))
def pW (k_ : Nat) (cG : av) (t1 : ((List Int))) (s8 : Int × Int) : Option (Sum (Int) (Int × Int)) :=
 bif decide (s8.2 < ((t1.length : Int))) then
(aL t1 s8.2).bind fun t9 =>
(aL cG.Out t9).bind fun t10 =>
 some (Sum.inr ((Yo .u64 s8.1 t10, aN .i64 s8.2 1)))
 else
 some (Sum.inl s8.1)
theorem BZ {k_ : Nat} {cG : av} {t1 : ((List Int))} {s8 : Int × Int} : Le (pW k_ cG t1 s8) (jM cG t1 s8) := by
 unfold pW jM
 repeat' with_reducible (first | exact Le.refl _ | refine Le.bind ?_ (fun _ => ?_) | refine Le.cond ?_ ?_)
def fH (k_ : Nat) (cG : av) (s_1 : Int) : Option (Int) :=
((eW k_) s_1).bind fun t1 =>
(mh k_ ((pW k_) cG t1) ((0, 0))).bind fun q11 : Int =>
 some q11
theorem ig {k_ : Nat} {cG : av} {s_1 : Int} : Le (fH k_ cG s_1) (dn cG s_1) := by
 unfold fH dn
 repeat' with_reducible (first | exact Le.refl _ | refine gp | refine Le.loop (fun _ => BZ) | refine Le.bind ?_ (fun _ => ?_))
def rj (k_ : Nat) (s_1 : (List Int)) (fP : Int × (List (List ah))) (HL : Int × (List ah)) : Option (Sum ((List ah)) (Int × (List ah))) :=
 bif decide (HL.1 < ((s_1.length : Int))) then
(aL s_1 HL.1).bind fun t192 =>
(dh 16 HL.2 [(ah.mk t192 fP.1)]).bind fun l193 =>
 some (Sum.inr ((aN .i64 HL.1 1, l193)))
 else
 some (Sum.inl HL.2)
theorem Dl {k_ : Nat} {s_1 : (List Int)} {fP : Int × (List (List ah))} {HL : Int × (List ah)} : Le (rj k_ s_1 fP HL) (fL s_1 fP HL) := by
 unfold rj fL
 repeat' with_reducible (first | exact Le.refl _ | refine Le.bind ?_ (fun _ => ?_) | refine Le.cond ?_ ?_)
def q_ (k_ : Nat) (fP : Int × (List (List ah))) (t196 : ((List Int))) (HK : Int × (List ah)) : Option (Sum ((List ah)) (Int × (List ah))) :=
 bif decide (HK.1 < ((t196.length : Int))) then
(aL t196 HK.1).bind fun t204 =>
(dh 16 HK.2 [(ah.mk fP.1 t204)]).bind fun l205 =>
 some (Sum.inr ((aN .i64 HK.1 1, l205)))
 else
 some (Sum.inl HK.2)
theorem Dk {k_ : Nat} {fP : Int × (List (List ah))} {t196 : ((List Int))} {HK : Int × (List ah)} : Le (q_ k_ fP t196 HK) (fK fP t196 HK) := by
 unfold q_ fK
 repeat' with_reducible (first | exact Le.refl _ | refine Le.bind ?_ (fun _ => ?_) | refine Le.cond ?_ ?_)
def qZ (k_ : Nat) (aW : af) (s_1 : (List Int)) (bu : Int) (j7 : Int × Int × (List Int) × (List Int)) (zA : (Int)) (fP : Int × (List (List ah))) : Option (Sum ((List (List ah))) (Int × (List (List ah)))) :=
 bif decide (fP.1 < aW.N) then
 dx (fun j170 : Int × Int × Bool × Int × Bool × Bool × Bool =>
(mh k_ ((rj k_) s_1 fP) ((0, []))).bind fun Zv : (List ah) =>
 bif (bu : Int) == 1 then
(aL j7.2.2.2 fP.1).bind fun t195 =>
((eW k_) (cE .u64 t195 j7.1)).bind fun t196 =>
(mh k_ ((q_ k_) fP t196) ((0, Zv))).bind fun q206 : (List ah) =>
(PF q206).bind fun t207 =>
(dh 24 fP.2 [t207]).bind fun Mr =>
 some (Sum.inr ((aN .i64 fP.1 1, Mr)))
 else
(PF Zv).bind fun t209 =>
(dh 24 fP.2 [t209]).bind fun TM =>
 some (Sum.inr ((aN .i64 fP.1 1, TM)))) fun aao =>
((cC k_) j7.1 fP.1).bind fun t211 =>
 bif t211 then
 some (Sum.inr ((aN .i64 fP.1 1, fP.2)))
 else
((cC k_) zA fP.1).bind fun t212 =>
 bif t212 then
 some (Sum.inr ((aN .i64 fP.1 1, fP.2)))
 else
 bif (bu : Int) == 1 then
(aL j7.2.2.2 fP.1).bind fun t213 =>
 bif (cE .u64 t213 j7.1 : Int) == 0 then
 some (Sum.inr ((aN .i64 fP.1 1, fP.2)))
 else
 aao ((zA, fP.1, t212, bu, (bu : Int) == 1, true, (cE .u64 t213 j7.1 : Int) == 0))
 else
 aao ((zA, fP.1, t212, bu, (bu : Int) == 1, false, false))
 else
 some (Sum.inl fP.2)
theorem Dj {k_ : Nat} {aW : af} {s_1 : (List Int)} {bu : Int} {j7 : Int × Int × (List Int) × (List Int)} {zA : (Int)} {fP : Int × (List (List ah))} : Le (qZ k_ aW s_1 bu j7 zA fP) (nW aW s_1 bu j7 zA fP) := by
 unfold qZ nW
 repeat' with_reducible (first | exact Le.refl _ | exact WL | refine gp | refine Sn | refine ff | refine Le.loop (fun _ => Dl) | refine Le.loop (fun _ => Dk) | refine Le.bind ?_ (fun _ => ?_) | refine Le.cond ?_ ?_ | refine Le.join (fun _ => ?_) (fun _ _ hj => ?_) | exact hj _)
def wg (k_ : Nat) (aW : af) (QY : Int × Int) : Option (Sum (Int) (Int × Int)) :=
 bif decide (QY.1 < aW.N) then
((eV k_) QY.2 QY.1).bind fun t24 =>
 some (Sum.inr ((aN .i64 QY.1 1, t24)))
 else
 some (Sum.inl QY.2)
theorem GJ {k_ : Nat} {aW : af} {QY : Int × Int} : Le (wg k_ aW QY) (sP aW QY) := by
 unfold wg sP
 repeat' with_reducible (first | exact Le.refl _ | refine jV | refine Le.bind ?_ (fun _ => ?_) | refine Le.cond ?_ ?_)
def v8 (k_ : Nat) (aW : af) (KB : Int × (List Int) × (List Int)) : Option (Sum ((List Int) × (List Int)) (Int × (List Int) × (List Int))) :=
 bif decide (KB.1 < ((aW.L.length : Int))) then
(aL aW.L KB.1).bind fun t49 =>
(aL KB.2.1 t49.To).bind fun t53 =>
((eV k_) t53 t49.bw).bind fun t54 =>
(aL KB.2.1 t49.To).bind fun t55 =>
(aL KB.2.2 t49.bw).bind fun t56 =>
((eV k_) t56 t49.To).bind fun t57 =>
(aL KB.2.2 t49.bw).bind fun t58 =>
 some (Sum.inr ((aN .i64 KB.1 1, KB.2.1.set (Int.toNat t49.To) t54, KB.2.2.set (Int.toNat t49.bw) t57)))
 else
 some (Sum.inl ((KB.2.1, KB.2.2)))
theorem GI {k_ : Nat} {aW : af} {KB : Int × (List Int) × (List Int)} : Le (v8 k_ aW KB) (sO aW KB) := by
 unfold v8 sO
 repeat' with_reducible (first | exact Le.refl _ | refine jV | refine Le.bind ?_ (fun _ => ?_) | refine Le.cond ?_ ?_)
def nD (k_ : Nat) (aW : af) : Option (av) :=
 dx (fun LF : (List Int) × (List Int) =>
(mh k_ ((wg k_) aW) ((0, 0))).bind fun q25 : Int =>
(mh k_ ((v8 k_) aW) ((0, LF.1, LF.2))).bind fun q59 : (List Int) × (List Int) =>
 some ((av.mk q25 q59.1 q59.2))) fun Ht =>
 tV (
(uB 8 0 aW.N).bind fun t60 =>
 tV (
(uB 8 0 aW.N).bind fun t61 =>
 Ht ((t60, t61))) (
(uB 8 0 aW.N).bind fun t62 =>
 Ht ((t60, t62)))) (
 tV (
(uB 8 0 aW.N).bind fun t63 =>
 tV (
(uB 8 0 aW.N).bind fun t64 =>
 Ht ((t64, t63))) (
(uB 8 0 aW.N).bind fun t65 =>
 Ht ((t65, t63)))) (
 tV (
(uB 8 0 aW.N).bind fun t66 =>
(uB 8 0 aW.N).bind fun t67 =>
 Ht ((t66, t67))) (
(uB 8 0 aW.N).bind fun t68 =>
(uB 8 0 aW.N).bind fun t69 =>
 Ht ((t69, t68)))))
theorem AG {k_ : Nat} {aW : af} : Le (nD k_ aW) (dX aW) := by
 unfold nD dX
 repeat' with_reducible (first | exact Le.refl _ | refine Le.loop (fun _ => GJ) | refine Le.loop (fun _ => GI) | refine Le.meet ?_ ?_ | refine Le.bind ?_ (fun _ => ?_) | refine Le.join (fun _ => ?_) (fun _ _ hj => ?_) | exact hj _)
def lW (k_ : Nat) (aW : af) (s_1 : (List Int)) (bu : Int) : Option ((List (List ah))) :=
 dx (fun j7 : Int × Int × (List Int) × (List Int) =>
(mh k_ ((rm k_) aW j7) ((0, []))).bind fun q73 : (List (List ah)) =>
((fH k_) ((av.mk j7.2.1 j7.2.2.1 j7.2.2.2)) j7.1).bind fun zA =>
(mh k_ ((qZ k_) aW s_1 bu j7 zA) ((0, q73))).bind fun q214 : (List (List ah)) =>
 some q214) fun k6 =>
 tV (
((kq k_) s_1).bind fun MT =>
 tV (
((nD k_) aW).bind fun t216 =>
 k6 ((MT, t216.All, t216.By, t216.Out))) (
((nD k_) aW).bind fun t217 =>
 k6 ((MT, t217.All, t217.By, t217.Out)))) (
((kq k_) s_1).bind fun Ue =>
((nD k_) aW).bind fun t219 =>
 k6 ((Ue, t219.All, t219.By, t219.Out)))
theorem FA {k_ : Nat} {aW : af} {s_1 : (List Int)} {bu : Int} : Le (lW k_ aW s_1 bu) (cW aW s_1 bu) := by
 unfold lW cW
 repeat' with_reducible (first | exact Le.refl _ | refine ig | refine qS | refine AG | refine Le.loop (fun _ => Dn) | refine Le.loop (fun _ => Dj) | refine Le.meet ?_ ?_ | refine Le.bind ?_ (fun _ => ?_) | refine Le.join (fun _ => ?_) (fun _ _ hj => ?_) | exact hj _)
def p8 (k_ : Nat) (aW : af) (s_1 : (List Int)) (bu : Int) : Option (aJ) :=
((kq k_) s_1).bind fun in_1 =>
 dx (fun j8 : (List Int) × (List (List ah)) =>
(mh k_ ((nI k_) s_1 in_1 j8) ((0, []))).bind fun Zw : (List ah) =>
 some ((aJ.mk j8.1 Zw j8.2))) fun k7 =>
 tV (
((jg k_) s_1).bind fun t106 =>
 tV (
((lW k_) aW s_1 bu).bind fun t107 =>
 k7 ((t106, t107))) (
((lW k_) aW s_1 bu).bind fun t108 =>
 k7 ((t106, t108)))) (
((jg k_) s_1).bind fun t109 =>
((lW k_) aW s_1 bu).bind fun t110 =>
 k7 ((t109, t110)))
theorem Cl {k_ : Nat} {aW : af} {s_1 : (List Int)} {bu : Int} : Le (p8 k_ aW s_1 bu) (fN aW s_1 bu) := by
 unfold p8 fN
 repeat' with_reducible (first | exact Le.refl _ | refine qS | refine yU | refine FA | refine Le.loop (fun _ => z8) | refine Le.meet ?_ ?_ | refine Le.bind ?_ (fun _ => ?_) | refine Le.join (fun _ => ?_) (fun _ _ hj => ?_) | exact hj _)
def p9 (k_ : Nat) (aW : af) (s_1 : (List Int)) (bu : Int) : Option (aJ × Int) :=
((mQ k_) aW s_1 bu).bind fun e2 =>
 bif (e2 : Int) != 0 then
 some (((aJ.mk [] [] []), e2))
 else
((nJ k_) aW s_1 bu).bind fun t3 =>
 bif t3 then
 some (((aJ.mk [] [] []), 9))
 else
((p8 k_) aW s_1 bu).bind fun t4 =>
 some ((t4, 0))
theorem Co {k_ : Nat} {aW : af} {s_1 : (List Int)} {bu : Int} : Le (p9 k_ aW s_1 bu) (eB aW s_1 bu) := by
 unfold p9 eB
 repeat' with_reducible (first | exact Le.refl _ | refine y9 | refine z_ | refine Cl | refine Le.bind ?_ (fun _ => ?_) | refine Le.cond ?_ ?_)
def qR (k_ : Nat) (q_0 : Int) : Option (Bool) :=
 bif decide (q_0 ≥ 1) then
 some (decide (q_0 ≤ 4))
 else
 some false
theorem C6 {k_ : Nat} {q_0 : Int} : Le (qR k_ q_0) (mE q_0) := by
 unfold qR mE
 repeat' with_reducible (first | exact Le.refl _ | refine Le.cond ?_ ?_)
def kZ (k_ : Nat) (cG : av) (F8 : (Int)) (t89 : ((List Int))) (QW : Int × Int) : Option (Sum (Int) (Int × Int)) :=
 bif decide (QW.2 < ((t89.length : Int))) then
(aL t89 QW.2).bind fun t99 =>
(aL cG.By t99).bind fun t100 =>
 bif (s_ .u64 t100 F8 : Int) == 0 then
((eV k_) QW.1 t99).bind fun P9 =>
 some (Sum.inr ((P9, aN .i64 QW.2 1)))
 else
 some (Sum.inr ((QW.1, aN .i64 QW.2 1)))
 else
 some (Sum.inl QW.1)
theorem w_ {k_ : Nat} {cG : av} {F8 : (Int)} {t89 : ((List Int))} {QW : Int × Int} : Le (kZ k_ cG F8 t89 QW) (lT cG F8 t89 QW) := by
 unfold kZ lT
 repeat' with_reducible (first | exact Le.refl _ | refine jV | refine Le.bind ?_ (fun _ => ?_) | refine Le.cond ?_ ?_)
def kY (k_ : Nat) (cG : av) (Vg : Int × (List Int)) : Option (Sum ((List Int)) (Int × (List Int))) :=
((fH k_) cG Vg.1).bind fun F8 =>
((eW k_) cG.All).bind fun t89 =>
(mh k_ ((kZ k_) cG F8 t89) ((Vg.1, 0))).bind fun TI : Int =>
 bif (TI : Int) == Vg.1 then
 some (Sum.inl Vg.2)
 else
(dh 8 Vg.2 [TI]).bind fun Jp =>
 some (Sum.inr ((TI, Jp)))
theorem w9 {k_ : Nat} {cG : av} {Vg : Int × (List Int)} : Le (kY k_ cG Vg) (lS cG Vg) := by
 unfold kY lS
 repeat' with_reducible (first | exact Le.refl _ | refine ig | refine gp | refine Le.loop (fun _ => w_) | refine Le.bind ?_ (fun _ => ?_) | refine Le.cond ?_ ?_)
def mG (k_ : Nat) (cG : av) : Option ((List Int)) :=
(mh k_ ((kY k_) cG) ((0, []))).bind (fun a : (List Int) => some a)
theorem yZ {k_ : Nat} {cG : av} : Le (mG k_ cG) (jj cG) := by
 unfold mG jj
 repeat' with_reducible (first | exact Le.refl _ | refine Le.loop (fun _ => w9) | refine Le.bind ?_ (fun _ => ?_))
def uz (k_ : Nat) (cG : av) : Option (Int) :=
((mG k_) cG).bind fun l1 =>
 bif ((l1.length : Int) : Int) == 0 then
 some 0
 else
(aL l1 (qq .i64 ((l1.length : Int)) 1)).bind fun t2 =>
 some t2
theorem Fk {k_ : Nat} {cG : av} : Le (uz k_ cG) (o7 cG) := by
 unfold uz o7
 repeat' with_reducible (first | exact Le.refl _ | refine yZ | refine Le.bind ?_ (fun _ => ?_) | refine Le.cond ?_ ?_)
def mH (k_ : Nat) (cG : av) (s_1 : Int) : Option (Bool) :=
((fH k_) cG s_1).bind fun t1 =>
 some ((cE .u64 t1 s_1 : Int) == 0)
theorem tT {k_ : Nat} {cG : av} {s_1 : Int} : Le (mH k_ cG s_1) (eX cG s_1) := by
 unfold mH eX
 repeat' with_reducible (first | exact Le.refl _ | refine ig | refine Le.bind ?_ (fun _ => ?_))
def j_ (k_ : Nat) (cG : av) (t1 : ((List Int))) (s8 : Int × Int) : Option (Sum (Int) (Int × Int)) :=
 bif decide (s8.2 < ((t1.length : Int))) then
(aL t1 s8.2).bind fun t9 =>
(aL cG.By t9).bind fun t10 =>
 some (Sum.inr ((Yo .u64 s8.1 t10, aN .i64 s8.2 1)))
 else
 some (Sum.inl s8.1)
theorem wh {k_ : Nat} {cG : av} {t1 : ((List Int))} {s8 : Int × Int} : Le (j_ k_ cG t1 s8) (eP cG t1 s8) := by
 unfold j_ eP
 repeat' with_reducible (first | exact Le.refl _ | refine Le.bind ?_ (fun _ => ?_) | refine Le.cond ?_ ?_)
def lU (k_ : Nat) (cG : av) (s_1 : Int) : Option (Int) :=
((eW k_) s_1).bind fun t1 =>
(mh k_ ((j_ k_) cG t1) ((0, 0))).bind fun q11 : Int =>
 some q11
theorem xX {k_ : Nat} {cG : av} {s_1 : Int} : Le (lU k_ cG s_1) (dP cG s_1) := by
 unfold lU dP
 repeat' with_reducible (first | exact Le.refl _ | refine gp | refine Le.loop (fun _ => wh) | refine Le.bind ?_ (fun _ => ?_))
def k5 (k_ : Nat) (cG : av) (s_1 : Int) : Option (Bool) :=
((mH k_) cG s_1).bind fun t1 =>
 bif t1 then
((lU k_) cG s_1).bind fun t2 =>
((fH k_) cG s_1).bind fun t3 =>
 some ((s_ .u64 t2 t3 : Int) == 0)
 else
 some false
theorem xd {k_ : Nat} {cG : av} {s_1 : Int} : Le (k5 k_ cG s_1) (cR cG s_1) := by
 unfold k5 cR
 repeat' with_reducible (first | exact Le.refl _ | refine tT | refine xX | refine ig | refine Le.bind ?_ (fun _ => ?_) | refine Le.cond ?_ ?_)
def kI (k_ : Nat) (cG : av) (s_1 : Int) : Option (Bool) :=
((mH k_) cG s_1).bind fun t1 =>
 bif t1 then
((fH k_) cG s_1).bind fun t2 =>
 some ((s_ .u64 (s_ .u64 cG.All s_1) t2 : Int) == 0)
 else
 some false
theorem AI {k_ : Nat} {cG : av} {s_1 : Int} : Le (kI k_ cG s_1) (dr cG s_1) := by
 unfold kI dr
 repeat' with_reducible (first | exact Le.refl _ | refine tT | refine ig | refine Le.bind ?_ (fun _ => ?_) | refine Le.cond ?_ ?_)
def mI (k_ : Nat) (bO : Int) (dH : Int) (qo : Int) (F7 : (List Int)) (F6 : (List Int)) (AB : Int) (xS : Bool) (OE : Bool) : Option (Bool × Bool) :=
 dx (fun j5 : Bool =>
 dx (fun j8 : Bool =>
 bif j8 then
 some ((false, !xS))
 else
 some ((true, OE))) fun k7 =>
 bif j5 then
((cC k_) bO AB).bind fun t9 =>
 k7 (!(t9 == xS))
 else
 k7 false) fun k4 =>
 bif (dH : Int) == 1 then
((k5 k_) ((av.mk qo F7 F6)) bO).bind fun t10 =>
 bif t10 then
 k4 true
 else
 bif (dH : Int) != 1 then
((kI k_) ((av.mk qo F7 F6)) bO).bind fun t11 =>
 k4 t11
 else
 k4 false
 else
 bif (dH : Int) != 1 then
((kI k_) ((av.mk qo F7 F6)) bO).bind fun t12 =>
 k4 t12
 else
 k4 false
theorem y4 {k_ : Nat} {bO : Int} {dH : Int} {qo : Int} {F7 : (List Int)} {F6 : (List Int)} {AB : Int} {xS : Bool} {OE : Bool} : Le (mI k_ bO dH qo F7 F6 AB xS OE) (jk bO dH qo F7 F6 AB xS OE) := by
 unfold mI jk
 repeat' with_reducible (first | exact Le.refl _ | refine ff | refine xd | refine AI | refine Le.bind ?_ (fun _ => ?_) | refine Le.cond ?_ ?_ | refine Le.join (fun _ => ?_) (fun _ _ hj => ?_) | exact hj _)
def pT (k_ : Nat) (bO : Int) (gP : Int) (gO : Int) (gN : (List Int)) (gM : (List Int)) (gL : Int) (gK : Bool) (s5 : Int × Bool) : Option (Sum (Bool) (Int × Bool)) :=
((mI k_) s5.1 gP gO gN gM gL gK s5.2).bind fun t6 =>
 bif !t6.1 then
 some (Sum.inl t6.2)
 else
 bif (s5.1 : Int) == 0 then
 some (Sum.inl t6.2)
 else
 some (Sum.inr ((cE .u64 (qq .u64 s5.1 1) bO, t6.2)))
theorem BY {k_ : Nat} {bO : Int} {gP : Int} {gO : Int} {gN : (List Int)} {gM : (List Int)} {gL : Int} {gK : Bool} {s5 : Int × Bool} : Le (pT k_ bO gP gO gN gM gL gK s5) (qQ bO gP gO gN gM gL gK s5) := by
 unfold pT qQ
 repeat' with_reducible (first | exact Le.refl _ | refine y4 | refine Le.bind ?_ (fun _ => ?_) | refine Le.cond ?_ ?_)
def sM (k_ : Nat) (bO : Int) (gP : Int) (gO : Int) (gN : (List Int)) (gM : (List Int)) (gL : Int) (gK : Bool) (uL : Bool) : Option (Bool) :=
(mh k_ ((pT k_) bO gP gO gN gM gL gK) ((bO, uL))).bind (fun a : Bool => some a)
theorem DZ {k_ : Nat} {bO : Int} {gP : Int} {gO : Int} {gN : (List Int)} {gM : (List Int)} {gL : Int} {gK : Bool} {uL : Bool} : Le (sM k_ bO gP gO gN gM gL gK uL) (nS bO gP gO gN gM gL gK uL) := by
 unfold sM nS
 repeat' with_reducible (first | exact Le.refl _ | refine Le.loop (fun _ => BY) | refine Le.bind ?_ (fun _ => ?_))
def kJ (k_ : Nat) (cG : av) (aO : Int) (jJ : Int) : Option (Bool) :=
 bif (aO : Int) == 4 then
((uz k_) cG).bind fun t3 =>
((cC k_) t3 jJ).bind fun t4 =>
 some t4
 else
((sM k_) cG.All aO cG.All cG.By cG.Out jJ ((aO : Int) == 3) ((aO : Int) == 3)).bind fun t5 =>
 some t5
theorem rM {k_ : Nat} {cG : av} {aO : Int} {jJ : Int} : Le (kJ k_ cG aO jJ) (ij cG aO jJ) := by
 unfold kJ ij
 repeat' with_reducible (first | exact Le.refl _ | refine Fk | refine ff | refine DZ | refine Le.bind ?_ (fun _ => ?_) | refine Le.cond ?_ ?_)
def kO (k_ : Nat) (Bw : Int) (dH : Int) : Option (Bool) :=
 some ((Bw : Int) == dH)
theorem rU {k_ : Nat} {Bw : Int} {dH : Int} : Le (kO k_ Bw dH) (iA Bw dH) := by
 unfold kO iA
 repeat' with_reducible (first | exact Le.refl _)
def fV (k_ : Nat) (bO : (List Int)) (jq : Int) (s7 : Int) : Option (Sum (Sum (Int) (Unit)) (Int)) :=
 bif decide (s7 < ((bO.length : Int))) then
(aL bO s7).bind fun t8 =>
((kO k_) t8 jq).bind fun t9 =>
 bif t9 then
 some (Sum.inl (Sum.inl s7))
 else
 some (Sum.inr (aN .i64 s7 1))
 else
 some (Sum.inl (Sum.inr (())))
theorem qN {k_ : Nat} {bO : (List Int)} {jq : Int} {s7 : Int} : Le (fV k_ bO jq s7) (gx bO jq s7) := by
 unfold fV gx
 repeat' with_reducible (first | exact Le.refl _ | refine rU | refine Le.bind ?_ (fun _ => ?_) | refine Le.cond ?_ ?_)
def gY (k_ : Nat) (bO : (List Int)) (jq : Int) : Option (Int) :=
(mh k_ ((fV k_) bO jq) 0).bind (eH (fun a : Int => some a) fun Ox : Unit =>
 some ((-1)))
theorem sw {k_ : Nat} {bO : (List Int)} {jq : Int} : Le (gY k_ bO jq) (eC bO jq) := by
 unfold gY eC
 repeat' with_reducible (first | exact Le.refl _ | refine Le.loop (fun _ => qN) | refine Le.bind ?_ (Le.Oh (fun _ => ?_) fun _ => ?_) | refine Le.bind ?_ (Le.eH fun _ => ?_) | refine Le.bind ?_ (fun _ => ?_))
def gZ (k_ : Nat) (gQ : Int) (lu : Int × Int × (List Int)) : Option (Sum (Int × (List Int)) (Int × Int × (List Int))) :=
 bif decide (lu.2.1 < ((lu.2.2.length : Int))) then
(aL lu.2.2 lu.2.1).bind fun t11 =>
((kO k_) t11 gQ).bind fun t12 =>
 bif !t12 then
(aL lu.2.2 lu.1).bind fun t13 =>
 some (Sum.inr ((aN .i64 lu.1 1, aN .i64 lu.2.1 1, lu.2.2.set (Int.toNat lu.1) t11)))
 else
 some (Sum.inr ((lu.1, aN .i64 lu.2.1 1, lu.2.2)))
 else
 some (Sum.inl ((lu.1, lu.2.2)))
theorem sx {k_ : Nat} {gQ : Int} {lu : Int × Int × (List Int)} : Le (gZ k_ gQ lu) (iN gQ lu) := by
 unfold gZ iN
 repeat' with_reducible (first | exact Le.refl _ | refine rU | refine Le.bind ?_ (fun _ => ?_) | refine Le.cond ?_ ?_)
def jf (k_ : Nat) (bO : (List Int)) (gQ : Int) : Option ((List Int)) :=
((gY k_) bO gQ).bind fun i1 =>
 bif (i1 : Int) == ((-1)) then
 some bO
 else
(mh k_ ((gZ k_) gQ) ((i1, aN .i64 i1 1, bO))).bind fun HQ : Int × (List Int) =>
(QV HQ.2 HQ.1 HQ.2.length).bind fun t15 =>
(QV HQ.2 HQ.1 HQ.2.length).bind fun t16 =>
(QV (HQ.2.take (Int.toNat HQ.1) ++ List.replicate (Int.toNat HQ.2.length - Int.toNat HQ.1) 0 ++ HQ.2.drop (Int.toNat HQ.2.length)) 0 HQ.1).bind fun t17 =>
 some t17
theorem uj {k_ : Nat} {bO : (List Int)} {gQ : Int} : Le (jf k_ bO gQ) (fq bO gQ) := by
 unfold jf fq
 repeat' with_reducible (first | exact Le.refl _ | refine sw | refine Le.loop (fun _ => sx) | refine Le.bind ?_ (fun _ => ?_) | refine Le.cond ?_ ?_)
def wv (k_ : Nat) (lF : (List Int)) (NP : Int × (List (List Int))) (On : Int × (List Int)) : Option (Sum ((List Int)) (Int × (List Int))) :=
 bif decide (On.1 < ((lF.length : Int))) then
(aL lF On.1).bind fun t42 =>
(KH .i64 NP.1 On.1).bind fun t43 =>
 bif (cE .i64 t43 1 : Int) == 1 then
(dh 8 On.2 [t42]).bind fun DE =>
 some (Sum.inr ((aN .i64 On.1 1, DE)))
 else
 some (Sum.inr ((aN .i64 On.1 1, On.2)))
 else
 some (Sum.inl On.2)
theorem G2 {k_ : Nat} {lF : (List Int)} {NP : Int × (List (List Int))} {On : Int × (List Int)} : Le (wv k_ lF NP On) (yg lF NP On) := by
 unfold wv yg
 repeat' with_reducible (first | exact Le.refl _ | refine Le.bind ?_ (fun _ => ?_) | refine Le.cond ?_ ?_)
def mF (k_ : Nat) (cG : av) (s_1 : Int) (LF : Int × (List Int) × (List Int)) (Bx : Int × (List Int) × (List Int)) : Option (Sum ((List Int) × (List Int)) (Int × (List Int) × (List Int))) :=
 bif decide (Bx.1 < ((cG.By.length : Int))) then
((cC k_) LF.1 Bx.1).bind fun t26 =>
 bif t26 then
(aL cG.By Bx.1).bind fun t27 =>
(aL cG.Out Bx.1).bind fun t28 =>
(aL Bx.2.1 Bx.1).bind fun t29 =>
(aL Bx.2.2 Bx.1).bind fun t30 =>
 some (Sum.inr ((aN .i64 Bx.1 1, Bx.2.1.set (Int.toNat Bx.1) (cE .u64 t27 s_1), Bx.2.2.set (Int.toNat Bx.1) (cE .u64 t28 s_1))))
 else
 some (Sum.inr ((aN .i64 Bx.1 1, Bx.2.1, Bx.2.2)))
 else
 some (Sum.inl ((Bx.2.1, Bx.2.2)))
theorem yY {k_ : Nat} {cG : av} {s_1 : Int} {LF : Int × (List Int) × (List Int)} {Bx : Int × (List Int) × (List Int)} : Le (mF k_ cG s_1 LF Bx) (nG cG s_1 LF Bx) := by
 unfold mF nG
 repeat' with_reducible (first | exact Le.refl _ | refine ff | refine Le.bind ?_ (fun _ => ?_) | refine Le.cond ?_ ?_)
def oC (k_ : Nat) (cG : av) (s_1 : Int) : Option (av) :=
 dx (fun LF : Int × (List Int) × (List Int) =>
(mh k_ ((mF k_) cG s_1 LF) ((0, LF.2.1, LF.2.2))).bind fun q31 : (List Int) × (List Int) =>
 some ((av.mk LF.1 q31.1 q31.2))) fun Ht =>
 tV (
(uB 8 0 ((cG.By.length : Int))).bind fun t32 =>
 tV (
(uB 8 0 ((cG.By.length : Int))).bind fun t33 =>
 Ht ((cE .u64 cG.All s_1, t32, t33))) (
(uB 8 0 ((cG.By.length : Int))).bind fun t34 =>
 Ht ((cE .u64 cG.All s_1, t32, t34)))) (
 tV (
(uB 8 0 ((cG.By.length : Int))).bind fun t35 =>
 tV (
(uB 8 0 ((cG.By.length : Int))).bind fun t36 =>
 Ht ((cE .u64 cG.All s_1, t36, t35))) (
(uB 8 0 ((cG.By.length : Int))).bind fun t37 =>
 Ht ((cE .u64 cG.All s_1, t37, t35)))) (
 tV (
(uB 8 0 ((cG.By.length : Int))).bind fun t38 =>
(uB 8 0 ((cG.By.length : Int))).bind fun t39 =>
 Ht ((cE .u64 cG.All s_1, t38, t39))) (
(uB 8 0 ((cG.By.length : Int))).bind fun t40 =>
(uB 8 0 ((cG.By.length : Int))).bind fun t41 =>
 Ht ((cE .u64 cG.All s_1, t41, t40)))))
theorem AH {k_ : Nat} {cG : av} {s_1 : Int} : Le (oC k_ cG s_1) (kH cG s_1) := by
 unfold oC kH
 repeat' with_reducible (first | exact Le.refl _ | refine Le.loop (fun _ => yY) | refine Le.meet ?_ ?_ | refine Le.bind ?_ (fun _ => ?_) | refine Le.join (fun _ => ?_) (fun _ _ hj => ?_) | exact hj _)
def iK (k_ : Nat) (bO : (List Int)) (dH : Int) (OG : (List Int)) (OF : (List Int)) (qo : Int) (AB : Int) (xS : Bool) : Option (Bool) :=
((kq k_) bO).bind fun t1 =>
((oC k_) ((av.mk dH OG OF)) (s_ .u64 dH t1)).bind fun t2 =>
((kJ k_) t2 qo AB).bind fun t3 =>
 some (!(t3 == xS))
theorem yj {k_ : Nat} {bO : (List Int)} {dH : Int} {OG : (List Int)} {OF : (List Int)} {qo : Int} {AB : Int} {xS : Bool} : Le (iK k_ bO dH OG OF qo AB xS) (dQ bO dH OG OF qo AB xS) := by
 unfold iK dQ
 repeat' with_reducible (first | exact Le.refl _ | refine qS | refine AH | refine rM | refine Le.bind ?_ (fun _ => ?_))
def oP (k_ : Nat) (bO : (List Int)) (dH : (List (List Int))) (rK : Int) (rJ : (List Int)) (rH : (List Int)) (rG : Int) (rF : Int) (rE : Bool) : Option ((List (List Int))) :=
 dx (fun j5 : Unit =>
 bif decide (((dH.length : Int)) > 0) then
(aL dH 0).bind fun t6 =>
 bif decide (((bO.length : Int)) < ((t6.length : Int))) then
(dh 24 [] [bO]).bind fun t7 =>
 some t7
 else
(dh 24 dH [bO]).bind fun t8 =>
 some t8
 else
(dh 24 dH [bO]).bind fun t9 =>
 some t9) fun k4 =>
 bif decide (((dH.length : Int)) > 0) then
(aL dH 0).bind fun t10 =>
 bif decide (((bO.length : Int)) > ((t10.length : Int))) then
 some dH
 else
((iK k_) bO rK rJ rH rG rF rE).bind fun t11 =>
 bif !t11 then
 some dH
 else
 k4 (())
 else
((iK k_) bO rK rJ rH rG rF rE).bind fun t12 =>
 bif !t12 then
 some dH
 else
 k4 (())
theorem A_ {k_ : Nat} {bO : (List Int)} {dH : (List (List Int))} {rK : Int} {rJ : (List Int)} {rH : (List Int)} {rG : Int} {rF : Int} {rE : Bool} : Le (oP k_ bO dH rK rJ rH rG rF rE) (kN bO dH rK rJ rH rG rF rE) := by
 unfold oP kN
 repeat' with_reducible (first | exact Le.refl _ | refine yj | refine Le.bind ?_ (fun _ => ?_) | refine Le.cond ?_ ?_ | refine Le.join (fun _ => ?_) (fun _ _ hj => ?_) | exact hj _)
def wu (k_ : Nat) (lF : (List Int)) (c_ : Int) (c9 : (List Int)) (c8 : (List Int)) (c7 : Int) (c6 : Int) (cZ : Bool) (t1 : Int) (NP : Int × (List (List Int))) : Option (Sum ((List (List Int))) (Int × (List (List Int)))) :=
 bif decide (NP.1 < t1) then
(mh k_ ((wv k_) lF NP) ((0, []))).bind fun q45 : (List Int) =>
((oP k_) q45 NP.2 c_ c9 c8 c7 c6 cZ).bind fun t46 =>
 some (Sum.inr ((aN .i64 NP.1 1, t46)))
 else
 some (Sum.inl NP.2)
theorem G1 {k_ : Nat} {lF : (List Int)} {c_ : Int} {c9 : (List Int)} {c8 : (List Int)} {c7 : Int} {c6 : Int} {cZ : Bool} {t1 : Int} {NP : Int × (List (List Int))} : Le (wu k_ lF c_ c9 c8 c7 c6 cZ t1 NP) (yf lF c_ c9 c8 c7 c6 cZ t1 NP) := by
 unfold wu yf
 repeat' with_reducible (first | exact Le.refl _ | refine A_ | refine Le.loop (fun _ => G2) | refine Le.bind ?_ (fun _ => ?_) | refine Le.cond ?_ ?_)
def z6 (k_ : Nat) (lF : (List Int)) (c_ : Int) (c9 : (List Int)) (c8 : (List Int)) (c7 : Int) (c6 : Int) (cZ : Bool) : Option ((List (List Int))) :=
(Ed .i64 1 ((lF.length : Int))).bind fun t1 =>
(mh k_ ((wu k_) lF c_ c9 c8 c7 c6 cZ t1) ((0, []))).bind fun q47 : (List (List Int)) =>
 some q47
theorem J2 {k_ : Nat} {lF : (List Int)} {c_ : Int} {c9 : (List Int)} {c8 : (List Int)} {c7 : Int} {c6 : Int} {cZ : Bool} : Le (z6 k_ lF c_ c9 c8 c7 c6 cZ) (uZ lF c_ c9 c8 c7 c6 cZ) := by
 unfold z6 uZ
 repeat' with_reducible (first | exact Le.refl _ | refine Le.loop (fun _ => G1) | refine Le.bind ?_ (fun _ => ?_))
def wq (k_ : Nat) (lF : (List Int)) (A1 : Int) (A0 : (List Int)) (AZ : (List Int)) (AY : Int) (AX : Int) (AW : Bool) : Option ((List (List Int))) :=
((z6 k_) lF A1 A0 AZ AY AX AW).bind fun t1 =>
(Ts t1).bind fun t2 =>
 some t2
theorem G0 {k_ : Nat} {lF : (List Int)} {A1 : Int} {A0 : (List Int)} {AZ : (List Int)} {AY : Int} {AX : Int} {AW : Bool} : Le (wq k_ lF A1 A0 AZ AY AX AW) (qF lF A1 A0 AZ AY AX AW) := by
 unfold wq qF
 repeat' with_reducible (first | exact Le.refl _ | exact WK | refine J2 | refine Sk | refine Le.bind ?_ (fun _ => ?_))
def qY (k_ : Nat) (aW : af) (aO : Int) (jJ : Int) : Option (Int × (List (List Int))) :=
((pe k_) aW).bind fun e2 =>
 bif (e2 : Int) != 0 then
 some ((e2, []))
 else
((qR k_) aO).bind fun t6 =>
 bif !t6 then
 some ((4, []))
 else
 dx (fun j8 : Bool =>
 bif j8 then
 some ((1, []))
 else
 bif decide (aW.N > 10) then
 some ((2, []))
 else
((nD k_) aW).bind fun t9 =>
((kJ k_) t9 aO jJ).bind fun t10 =>
((eW k_) t9.All).bind fun t11 =>
((jf k_) t11 jJ).bind fun Ms =>
((wq k_) Ms t9.All t9.By t9.Out aO jJ t10).bind fun RF =>
 bif ((RF.length : Int) : Int) == 0 then
 some ((9, []))
 else
 some ((0, RF))) fun k7 =>
 bif decide (jJ < 0) then
 k7 true
 else
 k7 (decide (jJ ≥ aW.N))
theorem Dg {k_ : Nat} {aW : af} {aO : Int} {jJ : Int} : Le (qY k_ aW aO jJ) (mP aW aO jJ) := by
 unfold qY mP
 repeat' with_reducible (first | exact Le.refl _ | refine wJ | refine C6 | refine AG | refine rM | refine gp | refine uj | refine G0 | refine Le.bind ?_ (fun _ => ?_) | refine Le.cond ?_ ?_ | refine Le.join (fun _ => ?_) (fun _ _ hj => ?_) | exact hj _)
def zV (k_ : Nat) (qg : (List Int)) (b_1 : (List Int)) (s7 : Int) : Option (Sum (Sum (Bool) (Unit)) (Int)) :=
 bif decide (s7 < ((qg.length : Int))) then
(aL qg s7).bind fun t8 =>
(aL b_1 s7).bind fun t9 =>
 bif (t8 : Int) != t9 then
 some (Sum.inl (Sum.inl false))
 else
 some (Sum.inr (aN .i64 s7 1))
 else
 some (Sum.inl (Sum.inr (())))
theorem JS {k_ : Nat} {qg : (List Int)} {b_1 : (List Int)} {s7 : Int} : Le (zV k_ qg b_1 s7) (Cb qg b_1 s7) := by
 unfold zV Cb
 repeat' with_reducible (first | exact Le.refl _ | refine Le.bind ?_ (fun _ => ?_) | refine Le.cond ?_ ?_)
def Eb (k_ : Nat) (qg : (List Int)) (b_1 : (List Int)) : Option (Bool) :=
 bif ((qg.length : Int) : Int) != ((b_1.length : Int)) then
 some false
 else
(mh k_ ((zV k_) qg b_1) 0).bind (eH (fun a : Bool => some a) fun Ox : Unit =>
 some true)
theorem MP {k_ : Nat} {qg : (List Int)} {b_1 : (List Int)} : Le (Eb k_ qg b_1) (zx qg b_1) := by
 unfold Eb zx
 repeat' with_reducible (first | exact Le.refl _ | refine Le.loop (fun _ => JS) | refine Le.bind ?_ (Le.Oh (fun _ => ?_) fun _ => ?_) | refine Le.bind ?_ (Le.eH fun _ => ?_) | refine Le.bind ?_ (fun _ => ?_) | refine Le.cond ?_ ?_)
def x4 (k_ : Nat) (qg : (List (List Int))) (b_1 : (List (List Int))) (s9 : Int) : Option (Sum (Sum (Bool) (Unit)) (Int)) :=
 bif decide (s9 < ((qg.length : Int))) then
(aL qg s9).bind fun t10 =>
(aL b_1 s9).bind fun t11 =>
((Eb k_) t10 t11).bind fun t12 =>
 bif !t12 then
 some (Sum.inl (Sum.inl false))
 else
 some (Sum.inr (aN .i64 s9 1))
 else
 some (Sum.inl (Sum.inr (())))
theorem Iq {k_ : Nat} {qg : (List (List Int))} {b_1 : (List (List Int))} {s9 : Int} : Le (x4 k_ qg b_1 s9) (zU qg b_1 s9) := by
 unfold x4 zU
 repeat' with_reducible (first | exact Le.refl _ | refine MP | refine Le.bind ?_ (fun _ => ?_) | refine Le.cond ?_ ?_)
def Ca (k_ : Nat) (qg : (List (List Int))) (b_1 : (List (List Int))) : Option (Bool) :=
 bif ((qg.length : Int) : Int) != ((b_1.length : Int)) then
 some false
 else
(mh k_ ((x4 k_) qg b_1) 0).bind (eH (fun a : Bool => some a) fun Js : Unit =>
 some true)
theorem K6 {k_ : Nat} {qg : (List (List Int))} {b_1 : (List (List Int))} : Le (Ca k_ qg b_1) (xg qg b_1) := by
 unfold Ca xg
 repeat' with_reducible (first | exact Le.refl _ | refine Le.loop (fun _ => Iq) | refine Le.bind ?_ (Le.Oh (fun _ => ?_) fun _ => ?_) | refine Le.bind ?_ (Le.eH fun _ => ?_) | refine Le.bind ?_ (fun _ => ?_) | refine Le.cond ?_ ?_)
def FZ (k_ : Nat) : Option (Bool) :=
((p9 k_) ((af.mk 2 [(ah.mk 0 1)])) [1] 1).bind fun t1 =>
((qY k_) ((af.mk 2 [(ah.mk 0 1)])) 4 1).bind fun t2 =>
 bif (t1.2 : Int) == 0 then
 bif ((t1.1.jt.length : Int) : Int) == 1 then
 bif (t2.1 : Int) == 0 then
((Ca k_) t2.2 ([[0]])).bind fun t3 =>
 some t3
 else
 some false
 else
 some false
 else
 some false
theorem Jj {k_ : Nat}  : Le (FZ k_ ) (nw ) := by
 unfold FZ nw
 repeat' with_reducible (first | exact Le.refl _ | refine Co | refine Dg | refine K6 | refine Le.bind ?_ (fun _ => ?_) | refine Le.cond ?_ ?_)
end Go.Dc
