/- Part M.FnSl of a proof: lemmas. -/
import Derived.Test.YtkkgghdjclkknaaGreatDoorMMem5
import Derived.Test.YtkkgghdjclkknaaGreatDoorDcDrawI
import Derived.Test.YtkkgghdjclkknaaGreatDoorMData
set_option linter.unusedSectionVars false
set_option linter.unusedVariables false
set_option linter.unusedSimpArgs false
namespace Go.Dc
variable [aq]
def vQ [xw] : List Ty → Type
 | [] => Unit
 | [t] => t.den
 | t :: u :: ts => t.den × vQ (u :: ts)
def Pq [xw] : (ts : List Ty) → vQ ts → Nat → Option cm
 | [], _, _ => none
 | [t], a, 0 => some ⟨t, a⟩
 | [_], _, _ + 1 => none
 | t :: _ :: _, a, 0 => some ⟨t, a.1⟩
 | _ :: u :: ts, a, j + 1 => Pq (u :: ts) a.2 j
def Re [xw] : (ts : List Ty) → ((k : Nat) → (t : Ty) → Option t.den) → Nat → Option (vQ ts)
 | [], _, _ => some ()
 | [t], f, j => f j t
 | t :: u :: ts, f, j => (f j t).bind fun x => (Re (u :: ts) f (j + 1)).map fun y => (x, y)
theorem Od [xw] {f : (k : Nat) → (t : Ty) → Option t.den} : ∀ {ts : List Ty} {j : Nat} {a : vQ ts}, Re ts f j = some a → ∀ {i : Nat} {D : cm}, Pq ts a i = some D → f (j + i) D.t = some D.d
 | [], _, _, _, i, D, h => by cases h
 | [t], j, a, ha, 0, D, h => by cases h; exact ha
 | [t], j, a, ha, i + 1, D, h => by cases h
 | t :: u :: ts, j, a, ha, 0, D, h => by
  simp only [Re] at ha
  obtain ⟨x, h1, h2⟩ := Option.bind_eq_some_iff.1 ha
  obtain ⟨y, h3, rfl⟩ := Option.map_eq_some_iff.1 h2
  cases h; exact h1
 | t :: u :: ts, j, a, ha, i + 1, D, h => by
  simp only [Re] at ha
  obtain ⟨x, h1, h2⟩ := Option.bind_eq_some_iff.1 ha
  obtain ⟨y, h3, rfl⟩ := Option.map_eq_some_iff.1 h2
  have := Od h3 (i := i) (D := D) h
  rw [show j + (i + 1) = j + 1 + i from by omega]
  exact this
def leaves (P : Program) [bl P] (D : cm) : List cm := match D with
 | ⟨.st k, d⟩ => bl.split (P := P) k d
 | D => [D]
def leaf (P : Program) [bl P] (ts : List Ty) (a : vQ ts) (j q : Nat) : Option cm := (Pq ts a j).bind fun D => (leaves P D)[q]?
section
variable [qc]
inductive KA where
 | d (j q : Nat)
 | own (k : Nat)
 | ptr (k : Nat)
 | mp (k : Nat)
 | fn (f : Nat) (cs : List (Option Nat))
 | nl
 | nF
 | H8
 | pj (j q : Nat)
 | vs (k off j q c : Nat)
 | fs (k c : Nat)
 | fx (a : At)
inductive KO where
 | dead
 | same
 | oa (k : Nat) (w : KA)
 | oc (k : Nat) (l : List KA)
def Xe (j : Nat) : Nat → Nat → List KA
 | _, 0 => []
 | q, n + 1 => .pj j q :: Xe j (q + 1) n
def ZB (j q n : Nat) : List (Option KA) := (Xe j q n).map some
def aan (hs : Nat → Hd) : Option Nat → Value
 | some k => Dc.ptr (hs k).b 0
 | none => .pointer none
def KA.rp (c0 : Cx) (L : Nat → Nat → Option cm) (hs : Nat → Hd) : KA → RP
 | .fx a => a.rp c0
 | .d j q => match L j q with
  | some D => D.rp
  | none => RP.no
 | .own k => pv (hs k).hv
 | .ptr k => pv (Dc.ptr (hs k).b 0)
 | .mp k => pv (.map (some (hs k).b))
 | .fn f cs => pv (Ur f (cs.map (aan hs)))
 | .nl => pv (.slice none 0 0)
 | .nF => pv (.pointer none)
 | .H8 => pv .nilFunc
 | .pj j q => match L j 0 with
  | some ⟨.vec k, dd⟩ => (match pjG dd q with
   | some x => iv k x
   | none => RP.no)
  | _ => RP.no
 | .fs k c => pv (.slice (some ⟨(hs k).b, 0, none⟩) c c)
 | .vs k off j q c => match L j q with
  | some ⟨.int _, l⟩ => pv (.slice (some ⟨(hs k).b, off, none⟩) (Int.toNat l) c)
  | _ => RP.no
def KA.sl (c0 : Cx) (L : Nat → Nat → Option cm) : KA → Option cm
 | .d j q => L j q
 | .fx (.vr i) => (iQ c0.env i).map fun e => ⟨e.t, e.d⟩
 | _ => none
def GO (c0 : Cx) (L : Nat → Nat → Option cm) (hs : Nat → Hd) (v : Bool × List KA) : RP := bif v.1 then ag (v.2.map (KA.rp c0 L hs)) else (v.2.map (KA.rp c0 L hs)).headD RP.no
def KO.ob (c0 : Cx) (L : Nat → Nat → Option cm) (hs : Nat → Hd) : KO → OB
 | .dead => Dc.dead
 | .same => OB.no
 | .oa k w => match w.sl c0 L with
  | some D => D.ob (hs k)
  | none => OB.no
 | .oc k l => Dc.oc (hs k).b (l.map (KA.rp c0 L hs))
def Dq : Cx := ⟨0, [], fun _ => ⟨.bool true, [], 0, rfl⟩⟩
theorem E5 (c : Cx) : Ext Dq c := ⟨Nat.zero_le _, fun i e h => (by cases h), fun h hh => absurd hh (Nat.not_lt_zero _)⟩
def KO.isDead : KO → Bool
 | .dead => true
 | _ => false
end
structure bI [xw] where
 ins : List Ty
 outs : List Ty
 m : vQ ins → Option (vQ outs)
 ps : List (Bool × List KA)
 os : List KO
 rs : List (Bool × List KA)
 os' : List KO
 /-- handles: those that are given, and all of them -/
 nh : Nat
 P8 : Nat
variable {P : Program} [bl P]
def bI.args (C : bI) (a : vQ C.ins) (hs : Nat → Hd) : List RP := C.ps.map (GO Dq (leaf P C.ins a) hs)
def bI.wR (C : bI) (a : vQ C.ins) (hs : Nat → Hd) : List OB := C.os.map (KO.ob Dq (leaf P C.ins a) hs)
def bI.res (C : bI) (r : vQ C.outs) (hs : Nat → Hd) : List RP := C.rs.map (GO Dq (leaf P C.outs r) hs)
def fZ (Li Lo : Nat → Nat → Option cm) (hs0 hs : Nat → Hd) : List KO → List KO → List OB
 | i :: is, .same :: os => i.ob Dq Li hs0 :: fZ Li Lo hs0 hs is os
 | _ :: is, o :: os => o.ob Dq Lo hs :: fZ Li Lo hs0 hs is os
 | [], o :: os => o.ob Dq Lo hs :: fZ Li Lo hs0 hs [] os
 | _, [] => []
def CB : List KO → List Bool := List.map fun o => !o.isDead
def bI.Tg (C : bI) (a : vQ C.ins) (r : vQ C.outs) (hs0 hs : Nat → Hd) : List OB := fZ (leaf P C.ins a) (leaf P C.outs r) hs0 hs C.os C.os'
def bI.lB (C : bI) (a : vQ C.ins) (r : vQ C.outs) (hs0 hs : Nat → Hd) : List OB := rO (CB C.os') (C.Tg (P := P) a r hs0 hs)
def Pn (P : Program) [bl P] (f : FuncId) (C : bI) : Prop :=
 ∀ a r, C.m a = some r → ∀ hs, gw P f (C.args (P := P) a hs) (C.wR (P := P) a hs) (fun x : S_ C.nh hs => C.res (P := P) r x.1) (fun x => C.lB (P := P) a r hs x.1)
section
variable [qc]
structure Mt where
 ws : List ((Nat × Nat) × cm)
 om : List (Nat × (Nat × Nat))
def Q0 : List ((Nat × Nat) × cm) → Nat → Nat → Option cm
 | [], _, _ => none
 | ((j, q), D) :: r, i, p => bif Nat.beq j i && Nat.beq q p then some D else Q0 r i p
def I_ : List (Nat × (Nat × Nat)) → Nat → Option (Nat × Nat)
 | [], _ => none
 | (k, x) :: r, i => bif Nat.beq k i then some x else I_ r i
def Mt.obj (M : Mt) (k o h : Nat) : Option Mt := match I_ M.om k with
 | some (o', h') => bif Nat.beq o o' && Nat.beq h h' then some M else none
 | none => some ⟨M.ws, (k, (o, h)) :: M.om⟩
def Mt.word (M : Mt) (j q : Nat) (D : cm) : Option Mt := match Q0 M.ws j q with
 | some _ => none
 | none => some ⟨((j, q), D) :: M.ws, M.om⟩
structure Mt.Le (M M' : Mt) : Prop where
 w : ∀ j q D, Q0 M.ws j q = some D → Q0 M'.ws j q = some D
 o : ∀ k x, I_ M.om k = some x → I_ M'.om k = some x
theorem Mt.Le.refl (M : Mt) : Mt.Le M M := ⟨fun _ _ _ h => h, fun _ _ h => h⟩
theorem Mt.Le.trans {A B C : Mt} (h : Mt.Le A B) (k : Mt.Le B C) : Mt.Le A C := ⟨fun j q D e => k.w j q D (h.w j q D e), fun i x e => k.o i x (h.o i x e)⟩
theorem Mt.JB {M M' : Mt} {k o h : Nat} (hm : M.obj k o h = some M') : Mt.Le M M' ∧ I_ M'.om k = some (o, h) := by
 unfold Mt.obj at hm
 split at hm
 ·rename_i o' h' hl
  cases hb : Nat.beq o o' && Nat.beq h h' with
  | false => rw [hb] at hm; cases hm
  | true =>
   rw [hb] at hm; cases hm
   simp only [Bool.and_eq_true] at hb
   obtain rfl := Nat.eq_of_beq_eq_true hb.1
   obtain rfl := Nat.eq_of_beq_eq_true hb.2
   exact ⟨.refl _, hl⟩
 ·rename_i hl
  cases hm
  refine ⟨⟨fun _ _ _ h => h, fun i x hi => ?_⟩, by simp [I_]⟩
  simp only [I_]
  by_cases e : k = i
  ·subst e; rw [hl] at hi; cases hi
  ·rw [wz e]; exact hi
theorem Mt.Hv {M M' : Mt} {j q : Nat} {D : cm} (hm : M.word j q D = some M') : Mt.Le M M' ∧ Q0 M'.ws j q = some D := by
 unfold Mt.word at hm
 split at hm
 ·cases hm
 ·rename_i hl
  cases hm
  refine ⟨⟨fun i p x hi => ?_, fun _ _ h => h⟩, by simp [Q0]⟩
  simp only [Q0]
  cases hb : Nat.beq j i && Nat.beq q p with
  | false => exact hi
  | true =>
   simp only [Bool.and_eq_true] at hb
   obtain rfl := Nat.eq_of_beq_eq_true hb.1
   obtain rfl := Nat.eq_of_beq_eq_true hb.2
   rw [hl] at hi; cases hi
def KQ : List qd → List qd → Bool
 | [], [] => true
 | .ptr o h :: r, .ptr o' h' :: r' => Nat.beq o o' && Nat.beq h h' && KQ r r'
 | .fn f :: r, .fn f' :: r' => Nat.beq f f' && KQ r r'
 | .nF :: r, .nF :: r' => KQ r r'
 | _, _ => false
theorem I2 : ∀ {l l' : List qd}, KQ l l' = true → l = l'
 | [], [], _ => rfl
 | .ptr o h :: r, .ptr o' h' :: r', e => by
  simp only [KQ, Bool.and_eq_true] at e
  rw [Nat.eq_of_beq_eq_true e.1.1, Nat.eq_of_beq_eq_true e.1.2, I2 e.2]
 | .fn f :: r, .fn f' :: r', e => by
  simp only [KQ, Bool.and_eq_true] at e
  rw [Nat.eq_of_beq_eq_true e.1, I2 e.2]
 | .nF :: r, .nF :: r', e => by rw [I2 (l := r) (l' := r') e]
 | [], _ :: _, e => by cases e
 | _ :: _, [], e => by simp [KQ] at e
 | .ptr _ _ :: _, .fn _ :: _, e => by cases e
 | .ptr _ _ :: _, .nF :: _, e => by cases e
 | .fn _ :: _, .ptr _ _ :: _, e => by cases e
 | .fn _ :: _, .nF :: _, e => by cases e
 | .nF :: _, .ptr _ _ :: _, e => by cases e
 | .nF :: _, .fn _ :: _, e => by cases e
def I4 : At → At → Bool
 | .vr i, .vr j => Nat.beq i j
 | .ci k a, .ci k' b => decide (k = k') && decide (a = b)
 | .cb a, .cb b => a == b
 | .ck a, .ck b => decide (a.data = b.data)
 | .nl, .nl => true
 | .own o h, .own o' h' => Nat.beq o o' && Nat.beq h h'
 | .ptr o h f, .ptr o' h' f' => Nat.beq o o' && Nat.beq h h' && Nat.beq f f'
 | .mp o h, .mp o' h' => Nat.beq o o' && Nat.beq h h'
 | .fn f c, .fn f' c' => Nat.beq f f' && KQ c c'
 | .H8, .H8 => true
 | .nF, .nF => true
 | .ea i, .ea j => Nat.beq i j
 | .fu i, .fu j => Nat.beq i j
 | .pj i j, .pj i' j' => Nat.beq i i' && Nat.beq j j'
 | .fs o h c, .fs o' h' c' => Nat.beq o o' && Nat.beq h h' && Nat.beq c c'
 | .vs o h f i c, .vs o' h' f' i' c' => Nat.beq o o' && Nat.beq h h' && Nat.beq f f' && Nat.beq i i' && Nat.beq c c'
 | _, _ => false
theorem Wh {a b : At} (hh : I4 a b = true) : a = b := by
 cases a <;> cases b <;> first
  | rfl
  | (simp only [I4] at hh; cases hh; done)
  | (simp only [I4] at hh; rw [Nat.eq_of_beq_eq_true hh]; done)
  | (simp only [I4, Bool.and_eq_true, decide_eq_true_eq] at hh; rw [hh.1, hh.2]; done)
  | (simp only [I4, Bool.and_eq_true] at hh; rw [Nat.eq_of_beq_eq_true hh.1, Nat.eq_of_beq_eq_true hh.2]; done)
  | (simp only [I4, Bool.and_eq_true] at hh; rw [Nat.eq_of_beq_eq_true hh.1.1, Nat.eq_of_beq_eq_true hh.1.2, Nat.eq_of_beq_eq_true hh.2]; done)
  | (simp only [I4, Bool.and_eq_true] at hh; rw [Nat.eq_of_beq_eq_true hh.1.1.1.1, Nat.eq_of_beq_eq_true hh.1.1.1.2, Nat.eq_of_beq_eq_true hh.1.1.2, Nat.eq_of_beq_eq_true hh.1.2, Nat.eq_of_beq_eq_true hh.2]; done)
  | (simp only [I4, Bool.and_eq_true] at hh; rw [Nat.eq_of_beq_eq_true hh.1, I2 hh.2]; done)
  | (rename_i x y; simp only [I4, decide_eq_true_eq] at hh; cases x; cases y; simp only at hh; rw [hh]; done)
  | (simp only [I4, beq_iff_eq] at hh; rw [hh]; done)
theorem SR : ∀ {l l' : List At}, Nat.beq l.length l'.length = true → ((l.zip l').all fun x => I4 x.1 x.2) = true → l = l'
 | [], [], _, _ => rfl
 | a :: l, b :: l', h, h2 => by
  simp only [List.zip_cons_cons, List.all_cons, Bool.and_eq_true] at h2
  rw [Wh h2.1, SR (by simpa using h) h2.2]
 | [], _ :: _, h, _ => by simp at h
 | _ :: _, [], h, _ => by simp at h
def At.J_ (n : Nat) (env : List (Nat × bX)) : At → Bool
 | .vr i => (iQ env i).isSome
 | .own _ h => Nat.blt h n
 | .ptr _ h _ => Nat.blt h n
 | .mp _ h => Nat.blt h n
 | .fn _ cs => cs.all (qd.ok n)
 | .ea i => (iQ env i).isSome
 | .fu i => (iQ env i).isSome
 | .Mx _ _ _ => false
 | .Yn _ _ _ => false
 | .pj i _ => (iQ env i).isSome
 | .vs _ h _ i _ => Nat.blt h n && (iQ env i).isSome
 | .fs _ h _ => Nat.blt h n
 | .sb _ _ _ _ _ => false
 | _ => true
theorem At.G5 {c c' : Cx} (hx : Ext c c') {a : At} (h : a.J_ c.n c.env = true) : a.rp c' = a.rp c := by
 cases a with
 | vr i =>
  simp only [At.J_] at h
  obtain ⟨e, he⟩ := Option.isSome_iff_exists.1 h
  simp only [At.rp, he, hx.env i e he]
 | ea i =>
  simp only [At.J_] at h
  obtain ⟨e, he⟩ := Option.isSome_iff_exists.1 h
  simp only [At.rp, he, hx.env i e he]
 | fu i =>
  simp only [At.J_] at h
  obtain ⟨e, he⟩ := Option.isSome_iff_exists.1 h
  simp only [At.rp, he, hx.env i e he]
 | pj i j =>
  simp only [At.J_] at h
  obtain ⟨e, he⟩ := Option.isSome_iff_exists.1 h
  simp only [At.rp, he, hx.env i e he]
 | vs o k f i cp =>
  simp only [At.J_, Bool.and_eq_true] at h
  obtain ⟨e, he⟩ := Option.isSome_iff_exists.1 h.2
  simp only [At.rp, he, hx.env i e he, h.1, bV h.1 hx.n, hx.η k (by simpa [Nat.blt_eq] using h.1)]
 | sb _ _ _ _ _ => cases h
 | own o k => simp only [At.J_] at h; rw [xT h, xT (bV h hx.n), hx.η k (by simpa [Nat.blt_eq] using h)]
 | ptr o k f => simp only [At.J_] at h; rw [lQ h, lQ (bV h hx.n), hx.η k (by simpa [Nat.blt_eq] using h)]
 | fs o k cp => simp only [At.J_] at h; simp only [At.rp, h, bV h hx.n, cond_true, hx.η k (by simpa [Nat.blt_eq] using h)]
 | mp o k => simp only [At.J_] at h; simp only [At.rp, h, bV h hx.n, cond_true, hx.η k (by simpa [Nat.blt_eq] using h)]
 | fn f cs =>
  simp only [At.J_] at h
  have h1 : ∀ x ∈ cs, qd.ok c.n x = true := List.all_eq_true.1 h
  have h2 : cs.all (qd.ok c'.n) = true := List.all_eq_true.2 fun x hx' => by
   have := h1 x hx'
   cases x with
   | ptr o k => exact bV this hx.n
   | _ => exact this
  have h3 : cs.map (qd.val c'.η) = cs.map (qd.val c.η) := List.map_congr_left fun x hx' => by
   have := h1 x hx'
   cases x with
   | ptr o k => simp only [qd.val]; rw [hx.η k (by simpa [qd.ok, Nat.blt_eq] using this)]
   | _ => rfl
  simp only [At.rp, h, h2, cond_true, h3]
 | Mx _ _ _ => cases h
 | Yn _ _ _ => cases h
 | _ => rfl
def Z0 : MO → MO → Bool
 | .dead, .dead => true
 | .oa h i, .oa h' i' => Nat.beq h h' && Nat.beq i i'
 | .oc h l, .oc h' l' => Nat.beq h h' && (Nat.beq l.length l'.length && (l.zip l').all fun x => I4 x.1 x.2)
 | _, _ => false
theorem moEq_ok {m m' : MO} (h : Z0 m m' = true) : m = m' := by
 cases m with
 | dead => cases m' <;> first | rfl | cases h
 | oa a b =>
  cases m' with
  | oa a' b' => simp only [Z0, Bool.and_eq_true] at h; rw [Nat.eq_of_beq_eq_true h.1, Nat.eq_of_beq_eq_true h.2]
  | _ => cases h
 | oc a l =>
  cases m' with
  | oc a' l' => simp only [Z0, Bool.and_eq_true] at h; rw [Nat.eq_of_beq_eq_true h.1, SR h.2.1 h.2.2]
  | _ => cases h
def MO.J_ (n : Nat) (env : List (Nat × bX)) : MO → Bool
 | .dead => true
 | .oa h i => Nat.blt h n && ((iQ env i).isSome)
 | .oc h l => Nat.blt h n && l.all (At.J_ n env)
theorem MO.G5 {c c' : Cx} (hx : Ext c c') {m : MO} (h : m.J_ c.n c.env = true) : m.ob c' = m.ob c := by
 cases m with
 | dead => rfl
 | oa k i =>
  simp only [MO.J_, Bool.and_eq_true] at h
  obtain ⟨e, he⟩ := Option.isSome_iff_exists.1 h.2
  simp only [MO.ob, he, hx.env i e he, h.1, bV h.1 hx.n, hx.η k (by simpa [Nat.blt_eq] using h.1)]
 | oc k l =>
  simp only [MO.J_, Bool.and_eq_true] at h
  have h3 : l.map (At.rp c') = l.map (At.rp c) := List.map_congr_left fun a ha => At.G5 hx (List.all_eq_true.1 h.2 a ha)
  simp only [MO.ob, h.1, bV h.1 hx.n, hx.η k (by simpa [Nat.blt_eq] using h.1), h3]
def uA : Mt → List (Option Nat) → List qd → Option Mt
 | M, [], [] => some M
 | M, some k :: ks, .ptr o h :: cs => (M.obj k o h).bind fun M => uA M ks cs
 | M, none :: ks, .nF :: cs => uA M ks cs
 | _, _, _ => none
def mtA (n0 : Nat) (nH : List (Nat × bX)) (n : Nat) (env : List (Nat × bX)) (nilT : Option Ty) (M : Mt) : KA → At → Option Mt
 | .fx a, b => bif I4 a b && a.J_ n0 nH then some M else none
 | .d j q, .nl => match nilT with
  | some t => M.word j q ⟨.sl t, []⟩
  | none => none
 | .d j q, a => (Vl env a).bind fun D => M.word j q D
 | .own k, .own o h => bif Nat.blt h n then M.obj k o h else none
 | .ptr k, .ptr o h 0 => bif Nat.blt h n then M.obj k o h else none
 | .mp k, .mp o h => bif Nat.blt h n then M.obj k o h else none
 | .fn f cs, .fn g ds => bif Nat.beq f g && ds.all (qd.ok n) then uA M cs ds else none
 | .nl, .nl => some M
 | .nF, .nF => some M
 | .H8, .H8 => some M
 | .fs k c, .fs o h c' => bif Nat.blt h n && Nat.beq c c' then M.obj k o h else none
 | .vs k off j q c, .vs o h off' i c' => bif Nat.blt h n && (Nat.beq off off' && Nat.beq c c') then (Vl env (.vr i)).bind fun D => (M.word j q D).bind fun M => M.obj k o h else none
 | _, _ => none
structure vR (L : Nat → Nat → Option cm) (hs η : Nat → Hd) (M : Mt) : Prop where
 w : ∀ j q D, Q0 M.ws j q = some D → L j q = some D
 o : ∀ k o h, I_ M.om k = some (o, h) → hs k = η h
theorem vR.le {L : Nat → Nat → Option cm} {hs η : Nat → Hd} {M M' : Mt} (h : vR L hs η M') (hl : Mt.Le M M') : vR L hs η M := ⟨fun j q D e => h.w j q D (hl.w j q D e), fun k o x e => h.o k o x (hl.o k _ e)⟩
theorem JG {n : Nat} : ∀ {ks : List (Option Nat)} {cs : List qd} {M M' : Mt}, uA M ks cs = some M' → Mt.Le M M' ∧ ∀ {L : Nat → Nat → Option cm} {hs η : Nat → Hd}, vR L hs η M' → ks.map (aan hs) = cs.map (qd.val η)
 | [], [], M, M', h => by cases h; exact ⟨.refl _, fun _ => rfl⟩
 | some k :: ks, .ptr o x :: cs, M, M', h => by
  simp only [uA] at h
  obtain ⟨M1, h1, h2⟩ := Option.bind_eq_some_iff.1 h
  obtain ⟨h3, h4⟩ := Mt.JB h1
  obtain ⟨h5, h6⟩ := JG (n := n) h2
  refine ⟨h3.trans h5, fun hs => ?_⟩
  rw [List.map_cons, List.map_cons, h6 hs]
  have := hs.o k o x (h5.o _ _ h4)
  simp only [aan, qd.val, this]
 | none :: ks, .nF :: cs, M, M', h => by
  simp only [uA] at h
  obtain ⟨h5, h6⟩ := JG (n := n) h
  refine ⟨h5, fun hs => ?_⟩
  rw [List.map_cons, List.map_cons, h6 hs]; rfl
 | [], _ :: _, _, _, h => by simp [uA] at h
 | some _ :: _, [], _, _, h => by simp [uA] at h
 | none :: _, [], _, _, h => by simp [uA] at h
 | some _ :: _, .fn _ :: _, _, _, h => by simp [uA] at h
 | some _ :: _, .nF :: _, _, _, h => by simp [uA] at h
 | none :: _, .ptr _ _ :: _, _, _, h => by simp [uA] at h
 | none :: _, .fn _ :: _, _, _, h => by simp [uA] at h
theorem mtA_ok {c0 : Cx} {n : Nat} {env : List (Nat × bX)} {nt : Option Ty} {M M' : Mt} {k : KA} {a : At} (h : mtA c0.n c0.env n env nt M k a = some M') :
  Mt.Le M M' ∧ ∀ {L : Nat → Nat → Option cm} {hs η : Nat → Hd}, Ext c0 ⟨n, env, η⟩ → vR L hs η M' → (∀ {F w v}, (a.rp ⟨n, env, η⟩).h F w v → (k.rp c0 L hs).h F w v) ∧ (nt = none → a.rp ⟨n, env, η⟩ = k.rp c0 L hs) := by
 have both : ∀ {φ ψ : RP}, φ = ψ → (∀ {F w v}, φ.h F w v → ψ.h F w v) ∧ (nt = none → φ = ψ) := fun e => ⟨fun h => e ▸ h, fun _ => e⟩
 unfold mtA at h
 split at h
 ·rename_i b
  cases hb : I4 b a && b.J_ c0.n c0.env with
  | false => rw [hb] at h; cases h
  | true =>
   rw [hb] at h; cases h
   simp only [Bool.and_eq_true] at hb
   obtain rfl := Wh hb.1
   exact ⟨.refl _, fun hx _ => both (At.G5 hx hb.2)⟩
 ·rename_i j q
  split at h
  ·rename_i t
   obtain ⟨h1, h2⟩ := Mt.Hv h
   refine ⟨h1, fun hx hs => ⟨fun hv => ?_, fun e => by cases e⟩⟩
   simp only [KA.rp, hs.w _ _ _ h2]
   exact BX hv
  ·cases h
 ·rename_i j q
  obtain ⟨D, hD, h⟩ := Option.bind_eq_some_iff.1 h
  obtain ⟨h1, h2⟩ := Mt.Hv h
  refine ⟨h1, fun {L hs η} hx hs => both ?_⟩
  simp only [KA.rp, hs.w _ _ _ h2]
  rw [(zQ (c := ⟨n, env, η⟩) hD).1]
 ·rename_i k o x
  cases hb : Nat.blt x n with
  | false => rw [hb] at h; cases h
  | true =>
   rw [hb] at h
   obtain ⟨h1, h2⟩ := Mt.JB h
   refine ⟨h1, fun {L hs η} hx hs => both ?_⟩
   rw [xT (c := ⟨n, env, η⟩) hb]
   simp only [KA.rp, hs.o _ _ _ h2]
 ·rename_i k o x
  cases hb : Nat.blt x n with
  | false => rw [hb] at h; cases h
  | true =>
   rw [hb] at h
   obtain ⟨h1, h2⟩ := Mt.JB h
   refine ⟨h1, fun {L hs η} hx hs => both ?_⟩
   rw [lQ (c := ⟨n, env, η⟩) hb]
   simp only [KA.rp, hs.o _ _ _ h2]
 ·rename_i k o x
  cases hb : Nat.blt x n with
  | false => rw [hb] at h; cases h
  | true =>
   rw [hb] at h
   obtain ⟨h1, h2⟩ := Mt.JB h
   refine ⟨h1, fun {L hs η} hx hs => both ?_⟩
   simp only [At.rp, hb, cond_true, KA.rp, hs.o _ _ _ h2]
 ·rename_i f cs g ds
  cases hb : Nat.beq f g && ds.all (qd.ok n) with
  | false => rw [hb] at h; cases h
  | true =>
   rw [hb] at h
   simp only [Bool.and_eq_true] at hb
   obtain rfl := Nat.eq_of_beq_eq_true hb.1
   obtain ⟨h1, h2⟩ := JG (n := n) h
   refine ⟨h1, fun {L hs η} hx hs => both ?_⟩
   simp only [At.rp, hb.2, cond_true, KA.rp, h2 hs]
 ·cases h; exact ⟨.refl _, fun _ _ => both rfl⟩
 ·cases h; exact ⟨.refl _, fun _ _ => both rfl⟩
 ·cases h; exact ⟨.refl _, fun _ _ => both rfl⟩
 ·rename_i k c o x c'
  cases hb : Nat.blt x n && Nat.beq c c' with
  | false => rw [hb] at h; cases h
  | true =>
   rw [hb] at h
   simp only [Bool.and_eq_true] at hb
   obtain rfl := Nat.eq_of_beq_eq_true hb.2
   obtain ⟨h1, h2⟩ := Mt.JB h
   refine ⟨h1, fun {L hs η} hx hs => both ?_⟩
   simp only [At.rp, hb.1, cond_true, KA.rp, hs.o _ _ _ h2]
 ·rename_i k off j q c o x off' i c'
  cases hb : Nat.blt x n && (Nat.beq off off' && Nat.beq c c') with
  | false => rw [hb] at h; cases h
  | true =>
   rw [hb] at h
   simp only [Bool.and_eq_true] at hb
   obtain ⟨hb, h1, h2⟩ := hb
   obtain rfl := Nat.eq_of_beq_eq_true h1
   obtain rfl := Nat.eq_of_beq_eq_true h2
   obtain ⟨D, hD, h⟩ := Option.bind_eq_some_iff.1 h
   obtain ⟨M1, h3, h4⟩ := Option.bind_eq_some_iff.1 h
   obtain ⟨h5, h6⟩ := Mt.Hv h3
   obtain ⟨h7, h8⟩ := Mt.JB h4
   refine ⟨h5.trans h7, fun {L hs η} hx jo => both ?_⟩
   simp only [Vl] at hD
   obtain ⟨e, he, hD⟩ := Option.bind_eq_some_iff.1 hD
   cases ho : e.t.one with
   | false => rw [ho] at hD; cases hD
   | true =>
    rw [ho] at hD; cases hD
    obtain ⟨t, d, s⟩ := e
    simp only [KA.rp, At.rp, he, jo.w _ _ _ (h7.w _ _ _ h6), jo.o _ _ _ h8]
    cases t with
    | int kd => simp only [hb, cond_true]
    | _ => rfl
 ·cases h
end
end Go.Dc
namespace Go.Dc
variable [aq] {P : Program} [bl P] {E : Env} {N : Nat} {n : Nat} {env : List (Nat × bX)} {G : List (Nat × Sh)} {O : List MO}
def wordT (P : Program) [bl P] (ts : List Ty) (j q : Nat) : Option Ty := (ts[j]?).bind fun t => match t with
 | .st k => (bl.fts P k)[q]?
 | t => match q with
  | 0 => some t
  | _ + 1 => none
def nilOf (P : Program) [bl P] (ts : List Ty) (strict : Bool) (k : KA) : Option Ty := bif strict then none else match k with
 | .d j q => match wordT P ts j q with
  | some (.sl t) => some t
  | _ => none
 | _ => none
def mtP (n : Nat) (env : List (Nat × bX)) (cur : Option (Nat × Nat)) (M : Mt) (j q i q' : Nat) : Option Mt := bif Nat.beq q q' then (match q with
  | 0 => (match iQ env i with
   | some ⟨.vec k, d, _⟩ => M.word j 0 ⟨.vec k, d⟩
   | _ => none)
  | _ + 1 => match cur with
   | some (j0, i0) => bif Nat.beq j0 j && Nat.beq i0 i then some M else none
   | none => none) else none
def S8 (env : List (Nat × bX)) (cur : Option (Nat × Nat)) (M : Mt) : Prop := ∀ j i, cur = some (j, i) → ∃ k d s, iQ env i = some ⟨.vec k, d, s⟩ ∧ Q0 M.ws j 0 = some ⟨.vec k, d⟩
theorem mtP_ok {cur : Option (Nat × Nat)} {M M' : Mt} {j q i q' : Nat} (h : mtP n env cur M j q i q' = some M') (hc : S8 env cur M) :
  Mt.Le M M' ∧ S8 env (some (j, i)) M' ∧ ∀ {c0 : Cx} {L : Nat → Nat → Option cm} {hs η : Nat → Hd}, vR L hs η M' → (At.pj i q').rp ⟨n, env, η⟩ = (KA.pj j q).rp c0 L hs := by
 have say : ∀ {k : IntKind} {d : List Int} {s : Option Src} {M' : Mt} {q : Nat}, iQ env i = some ⟨.vec k, d, s⟩ → Q0 M'.ws j 0 = some ⟨.vec k, d⟩ → ∀ {c0 : Cx} {L : Nat → Nat → Option cm} {hs η : Nat → Hd}, vR L hs η M' → (At.pj i q).rp ⟨n, env, η⟩ = (KA.pj j q).rp c0 L hs := by
  intro k d s M' q he hw c0 L hs η jo
  simp only [At.rp, KA.rp, he, jo.w _ _ _ hw]
  rfl
 unfold mtP at h
 cases hq : Nat.beq q q' with
 | false => rw [hq] at h; cases h
 | true =>
  rw [hq] at h
  obtain rfl := Nat.eq_of_beq_eq_true hq
  simp only [cond_true] at h
  split at h
  ·split at h
   ·rename_i k d s he
    obtain ⟨h1, h2⟩ := Mt.Hv h
    exact ⟨h1, fun j' i' e => by cases e; exact ⟨k, d, s, he, h2⟩, say he h2⟩
   ·cases h
  ·split at h
   ·rename_i j0 i0
    cases hb : Nat.beq j0 j && Nat.beq i0 i with
    | false => rw [hb] at h; cases h
    | true =>
     rw [hb] at h; cases h
     simp only [Bool.and_eq_true] at hb
     obtain rfl := Nat.eq_of_beq_eq_true hb.1
     obtain rfl := Nat.eq_of_beq_eq_true hb.2
     obtain ⟨k, d, s, he, hw⟩ := hc _ _ rfl
     exact ⟨.refl _, hc, say he hw⟩
   ·cases h
theorem S8.none {env : List (Nat × bX)} {M : Mt} : S8 env none M := fun _ _ e => by cases e
def MA (P : Program) [bl P] (ts : List Ty) (strict : Bool) (n0 : Nat) (nH : List (Nat × bX)) (n : Nat) (env : List (Nat × bX)) : Option (Nat × Nat) → Mt → List KA → List At → Option Mt
 | _, M, [], [] => some M
 | cur, M, k :: ks, a :: y_ => match k, a with
  | .pj j q, .pj i q' => (mtP n env cur M j q i q').bind fun M => MA P ts strict n0 nH n env (some (j, i)) M ks y_
  | k, a => (mtA n0 nH n env (nilOf P ts strict k) M k a).bind fun M => MA P ts strict n0 nH n env none M ks y_
 | _, _, _, _ => none
theorem Mz {c0 : Cx} {ts : List Ty} {strict : Bool} : ∀ {ks : List KA} {y_ : List At} {cur : Option (Nat × Nat)} {M M' : Mt}, MA P ts strict c0.n c0.env n env cur M ks y_ = some M' → S8 env cur M →
  Mt.Le M M' ∧ ∀ {L : Nat → Nat → Option cm} {hs η : Nat → Hd}, Ext c0 ⟨n, env, η⟩ → vR L hs η M' → nK (y_.map (At.rp ⟨n, env, η⟩)) (ks.map (KA.rp c0 L hs)) ∧ (strict = true → y_.map (At.rp ⟨n, env, η⟩) = ks.map (KA.rp c0 L hs))
 | [], [], _, M, M', h, _ => by cases h; exact ⟨.refl _, fun _ _ => ⟨trivial, fun _ => rfl⟩⟩
 | k :: ks, a :: y_, cur, M, M', h, hcur => by
  unfold MA at h
  split at h
  ·rename_i j q i q'
   obtain ⟨M1, h1, h2⟩ := Option.bind_eq_some_iff.1 h
   obtain ⟨h3, hc1, h4⟩ := mtP_ok h1 hcur
   obtain ⟨h5, h6⟩ := Mz h2 hc1
   refine ⟨h3.trans h5, fun {L hs η} hx hs' => ?_⟩
   obtain ⟨h7, h8⟩ := h6 hx hs'
   have h9 : (At.pj i q').rp ⟨n, env, η⟩ = (KA.pj j q).rp c0 L hs := h4 (hs'.le h5)
   refine ⟨⟨fun {F w v} hv => by rw [← h9]; exact hv, h7⟩, fun e => ?_⟩
   rw [List.map_cons, List.map_cons, h8 e, h9]
  ·obtain ⟨M1, h1, h2⟩ := Option.bind_eq_some_iff.1 h
   obtain ⟨h3, h4⟩ := mtA_ok h1
   obtain ⟨h5, h6⟩ := Mz h2 .none
   refine ⟨h3.trans h5, fun hx hs => ?_⟩
   obtain ⟨h7, h8⟩ := h6 hx hs
   obtain ⟨h9, h10⟩ := h4 hx (hs.le h5)
   refine ⟨⟨h9, h7⟩, fun e => ?_⟩
   rw [List.map_cons, List.map_cons, h8 e, h10 (by subst e; rfl)]
 | [], _ :: _, _, _, _, h, _ => by simp [MA] at h
 | _ :: _, [], _, _, _, h, _ => by simp [MA] at h
def mtAs (P : Program) [bl P] (ts : List Ty) (strict : Bool) (n0 : Nat) (nH : List (Nat × bX)) (n : Nat) (env : List (Nat × bX)) (M : Mt) (ks : List KA) (y_ : List At) : Option Mt := MA P ts strict n0 nH n env none M ks y_
theorem VC {c0 : Cx} {ts : List Ty} {strict : Bool} {ks : List KA} {y_ : List At} {M M' : Mt} (h : mtAs P ts strict c0.n c0.env n env M ks y_ = some M') :
  Mt.Le M M' ∧ ∀ {L : Nat → Nat → Option cm} {hs η : Nat → Hd}, Ext c0 ⟨n, env, η⟩ → vR L hs η M' → nK (y_.map (At.rp ⟨n, env, η⟩)) (ks.map (KA.rp c0 L hs)) ∧ (strict = true → y_.map (At.rp ⟨n, env, η⟩) = ks.map (KA.rp c0 L hs)) := Mz h .none
def mtV (P : Program) [bl P] (ts : List Ty) (strict : Bool) (n0 : Nat) (nH : List (Nat × bX)) (n : Nat) (env : List (Nat × bX)) (M : Mt) (k : Bool × List KA) : Sh → Option Mt
 | .vl g y_ => bif k.1 == g && (g || Nat.beq y_.length 1) then mtAs P ts strict n0 nH n env M k.2 y_ else none
 | _ => none
theorem ZX {c0 : Cx} {ts : List Ty} {strict : Bool} {M M' : Mt} {k : Bool × List KA} {s : Sh} (h : mtV P ts strict c0.n c0.env n env M k s = some M') :
  Mt.Le M M' ∧ ∀ {L : Nat → Nat → Option cm} {hs η : Nat → Hd}, Ext c0 ⟨n, env, η⟩ → vR L hs η M' → (∀ {F w v}, (s.rp ⟨n, env, η⟩).h F w v → (GO c0 L hs k).h F w v) ∧ (strict = true → s.rp ⟨n, env, η⟩ = GO c0 L hs k) := by
 unfold mtV at h
 split at h
 ·rename_i g y_
  cases hb : (k.1 == g && (g || Nat.beq y_.length 1)) with
  | false => rw [hb] at h; cases h
  | true =>
   rw [hb] at h
   simp only [Bool.and_eq_true, beq_iff_eq] at hb
   obtain ⟨hg, hlen⟩ := hb
   obtain ⟨h1, h2⟩ := VC h
   refine ⟨h1, fun {L hs η} hx jo => ?_⟩
   obtain ⟨h3, h4⟩ := h2 hx jo
   obtain ⟨kg, ks⟩ := k
   simp only at hg h3 h4
   subst hg
   cases kg with
   | true =>
    refine ⟨fun hv => ?_, fun e => ?_⟩
    ·obtain ⟨cs, e1, h5⟩ := hv; exact ⟨cs, e1, h3.all h5⟩
    ·simp only [Sh.rp, wS, GO, cond_true]; rw [h4 e]
   | false =>
    simp only [Bool.false_or] at hlen
    obtain ⟨a, rfl⟩ := List.length_eq_one_iff.1 (Nat.eq_of_beq_eq_true hlen)
    match ks, h3 with
    | [k], ⟨h3, _⟩ =>
     refine ⟨fun hv => h3 hv, fun e => ?_⟩
     have := h4 e
     simp only [List.map_cons, List.map_nil, List.cons.injEq, and_true] at this
     exact this
 ·cases h
def TS (P : Program) [bl P] (ts : List Ty) (strict : Bool) (n0 : Nat) (nH : List (Nat × bX)) (n : Nat) (env : List (Nat × bX)) : Mt → List (Bool × List KA) → List Sh → Option Mt
 | M, [], [] => some M
 | M, k :: ks, s :: ss => (mtV P ts strict n0 nH n env M k s).bind fun M => TS P ts strict n0 nH n env M ks ss
 | _, _, _ => none
theorem P_ {c0 : Cx} {ts : List Ty} {strict : Bool} : ∀ {ks : List (Bool × List KA)} {ss : List Sh} {M M' : Mt}, TS P ts strict c0.n c0.env n env M ks ss = some M' →
  Mt.Le M M' ∧ ∀ {L : Nat → Nat → Option cm} {hs η : Nat → Hd}, Ext c0 ⟨n, env, η⟩ → vR L hs η M' → nK (ss.map (Sh.rp ⟨n, env, η⟩)) (ks.map (GO c0 L hs)) ∧ (strict = true → ss.map (Sh.rp ⟨n, env, η⟩) = ks.map (GO c0 L hs))
 | [], [], M, M', h => by cases h; exact ⟨.refl _, fun _ _ => ⟨trivial, fun _ => rfl⟩⟩
 | k :: ks, a :: y_, M, M', h => by
  simp only [TS] at h
  obtain ⟨M1, h1, h2⟩ := Option.bind_eq_some_iff.1 h
  obtain ⟨h3, h4⟩ := ZX h1
  obtain ⟨h5, h6⟩ := P_ h2
  refine ⟨h3.trans h5, fun hx hs => ?_⟩
  obtain ⟨h7, h8⟩ := h6 hx hs
  obtain ⟨h9, h10⟩ := h4 hx (hs.le h5)
  refine ⟨⟨h9, h7⟩, fun e => ?_⟩
  rw [List.map_cons, List.map_cons, h8 e, h10 e]
 | [], _ :: _, _, _, h => by simp [TS] at h
 | _ :: _, [], _, _, h => by simp [TS] at h
def KO.key : KO → Option Nat
 | .oa k _ => some k
 | .oc k _ => some k
 | _ => none
def mtO (P : Program) [bl P] (ts : List Ty) (n0 : Nat) (nH : List (Nat × bX)) (n : Nat) (env : List (Nat × bX)) (O : List MO) (M : Mt) : KO → Option Mt
 | .oa k (.d j q) => (I_ M.om k).bind fun x => (X6 n env O x.1 x.2).bind fun p => M.word j q p.2
 | .oa k (.fx (.vr i)) => (I_ M.om k).bind fun x => (X6 n env O x.1 x.2).bind fun p => bif Nat.beq p.1 i && (iQ nH i).isSome then some M else none
 | .oc k l => (I_ M.om k).bind fun x => (LU n O x.1 x.2).bind fun y_ => mtAs P ts true n0 nH n env M l y_
 | _ => none
theorem Qa {c0 : Cx} {ts : List Ty} {M M' : Mt} {o : KO} (h : mtO P ts c0.n c0.env n env O M o = some M') :
  Mt.Le M M' ∧ ∃ k p x, o.key = some k ∧ I_ M.om k = some (p, x) ∧ p < O.length ∧ Nat.blt x n = true ∧ ∀ {L : Nat → Nat → Option cm} {hs η : Nat → Hd}, Ext c0 ⟨n, env, η⟩ → vR L hs η M' → (bL ⟨n, env, η⟩ O)[p]? = some (o.ob c0 L hs) := by
 unfold mtO at h
 split at h
 ·rename_i k j q
  obtain ⟨⟨p, x⟩, h1, h⟩ := Option.bind_eq_some_iff.1 h
  obtain ⟨⟨i, D⟩, h2, h⟩ := Option.bind_eq_some_iff.1 h
  obtain ⟨h3, h4⟩ := Mt.Hv h
  obtain ⟨hb, hlt, _, hj⟩ := LK h2
  refine ⟨h3, k, p, x, rfl, h1, hlt, hb, fun {L hs η} hx jo => ?_⟩
  rw [hj η]
  simp only [KO.ob, KA.sl, jo.w _ _ _ h4, jo.o _ _ _ (h3.o _ _ h1)]
 ·rename_i k i0
  obtain ⟨⟨p, x⟩, h1, h⟩ := Option.bind_eq_some_iff.1 h
  obtain ⟨⟨i, D⟩, h2, h⟩ := Option.bind_eq_some_iff.1 h
  cases hbi : Nat.beq (i, D).1 i0 && (iQ c0.env i0).isSome with
  | false => rw [hbi] at h; cases h
  | true =>
   rw [hbi] at h; cases h
   simp only [Bool.and_eq_true] at hbi
   obtain rfl : i = i0 := Nat.eq_of_beq_eq_true hbi.1
   obtain ⟨e, he⟩ := Option.isSome_iff_exists.1 hbi.2
   obtain ⟨hb, hlt, ⟨s, hse⟩, hj⟩ := LK h2
   refine ⟨.refl _, k, p, x, rfl, h1, hlt, hb, fun {L hs η} hx jo => ?_⟩
   have he' := hx.env i e he
   simp only at he'
   rw [hse] at he'
   obtain rfl := Option.some.inj he'
   rw [hj η]
   simp only [KO.ob, KA.sl, he, Option.map_some, jo.o _ _ _ h1]
 ·rename_i k l
  obtain ⟨⟨p, x⟩, h1, h⟩ := Option.bind_eq_some_iff.1 h
  obtain ⟨y_, h2, h⟩ := Option.bind_eq_some_iff.1 h
  obtain ⟨h3, h4⟩ := VC h
  obtain ⟨hb, hlt, hj⟩ := EK (env := env) h2
  refine ⟨h3, k, p, x, rfl, h1, hlt, hb, fun {L hs η} hx jo => ?_⟩
  rw [hj η]
  simp only [KO.ob, jo.o _ _ _ (h3.o _ _ h1)]
  rw [(h4 hx jo).2 rfl]
 ·cases h
def mtOs (P : Program) [bl P] (ts : List Ty) (n0 : Nat) (nH : List (Nat × bX)) (n : Nat) (env : List (Nat × bX)) (O : List MO) : Mt → List KO → Option Mt
 | M, [] => some M
 | M, o :: os => (mtO P ts n0 nH n env O M o).bind fun M => mtOs P ts n0 nH n env O M os
def Vt (M : Mt) : List KO → Option (List (Nat × Nat))
 | [] => some []
 | o :: os => (o.key.bind (I_ M.om)).bind fun x => (Vt M os).map (x :: ·)
theorem VB {c0 : Cx} {ts : List Ty} : ∀ {os : List KO} {M M' : Mt}, mtOs P ts c0.n c0.env n env O M os = some M' →
  Mt.Le M M' ∧ ∀ {ps : List (Nat × Nat)}, Vt M' os = some ps → ps.length = os.length ∧ (∀ x ∈ ps, x.1 < O.length ∧ Nat.blt x.2 n = true) ∧ ∀ {L : Nat → Nat → Option cm} {hs η : Nat → Hd}, Ext c0 ⟨n, env, η⟩ → vR L hs η M' → ∀ (i : Nat) (p : Nat × Nat) (o : KO), ps[i]? = some p → os[i]? = some o → (bL ⟨n, env, η⟩ O)[p.1]? = some (o.ob c0 L hs)
 | [], M, M', h => by cases h; exact ⟨.refl _, fun hp => by cases hp; exact ⟨rfl, by simp, fun _ _ i p o h => by simp at h⟩⟩
 | o :: os, M, M', h => by
  simp only [mtOs] at h
  obtain ⟨M1, h1, h2⟩ := Option.bind_eq_some_iff.1 h
  obtain ⟨h3, k, p, x, hk, hm, hlt, hb, p6⟩ := Qa h1
  obtain ⟨h5, h6⟩ := VB h2
  refine ⟨h3.trans h5, fun {ps} hp => ?_⟩
  simp only [Vt, hk, Option.bind_some, h5.o _ _ (h3.o _ _ hm)] at hp
  obtain ⟨ps', hp', rfl⟩ := Option.map_eq_some_iff.1 hp
  obtain ⟨h7, h8, h9⟩ := h6 hp'
  refine ⟨by simp [h7], fun y hy => ?_, fun hx jo i q o' hq ho' => ?_⟩
  ·rcases List.mem_cons.1 hy with e | e
   ·rw [e]; exact ⟨hlt, hb⟩
   ·exact h8 y e
  ·cases i with
   | zero =>
    simp only [List.getElem?_cons_zero, Option.some.injEq] at hq ho'
    subst hq; subst ho'
    exact p6 hx (jo.le h5)
   | succ i => exact h9 hx jo i q o' (by simpa using hq) (by simpa using ho')
def Pp (ws : List ((Nat × Nat) × cm)) (j : Nat) : Nat → Nat → Option (List cm)
 | _, 0 => some []
 | q, k + 1 => (Q0 ws j q).bind fun D => (Pp ws j (q + 1) k).map (D :: ·)
theorem LR {ws : List ((Nat × Nat) × cm)} {j : Nat} : ∀ {k q : Nat} {l : List cm}, Pp ws j q k = some l → l.length = k ∧ ∀ i, i < k → l[i]? = Q0 ws j (q + i)
 | 0, q, l, h => by cases h; exact ⟨rfl, fun i hi => by omega⟩
 | k + 1, q, l, h => by
  simp only [Pp] at h
  obtain ⟨D, h1, h2⟩ := Option.bind_eq_some_iff.1 h
  obtain ⟨l', h3, rfl⟩ := Option.map_eq_some_iff.1 h2
  obtain ⟨h4, h5⟩ := LR h3
  refine ⟨by simp [h4], fun i hi => ?_⟩
  cases i with
  | zero => simp [h1]
  | succ i => simp only [List.getElem?_cons_succ]; rw [h5 i (by omega)]; congr 1; omega
def comp (P : Program) [bl P] (ws : List ((Nat × Nat) × cm)) (j : Nat) (t : Ty) : Option t.den := match t with
 | .st k => (Pp ws j 0 (bl.fts P k).length).bind (bl.join (P := P) k)
 | t => (Q0 ws j 0).bind fun D => if h : D.t = t then some (h ▸ D.d) else none
def ZP (P : Program) [bl P] : Ty → Nat
 | .st k => (bl.fts P k).length
 | _ => 1
theorem comp_get {ws : List ((Nat × Nat) × cm)} {j q : Nat} {t : Ty} {d : t.den} {D : cm} (h : comp P ws j t = some d) (hD : Q0 ws j q = some D) (hq : q < ZP P t) : (leaves P ⟨t, d⟩)[q]? = some D := by
 have one : ∀ {t : Ty} {d : t.den}, ((Q0 ws j 0).bind fun D => if h : D.t = t then some (h ▸ D.d) else none) = some d → q < 1 → ([(⟨t, d⟩ : cm)])[q]? = some D := by
  intro t d h hq
  obtain rfl : q = 0 := by omega
  rw [hD] at h
  simp only [Option.bind_some] at h
  split at h
  ·rename_i e; subst e; cases h; rfl
  ·cases h
 cases t with
 | st k =>
  simp only [comp] at h
  obtain ⟨l, h1, h2⟩ := Option.bind_eq_some_iff.1 h
  have h3 : bl.split (P := P) k d = l := bl.MS k l d h2
  show (bl.split (P := P) k d)[q]? = _
  rw [h3, (LR h1).2 q hq, Nat.zero_add, hD]
 | int k => exact one h hq
 | bool => exact one h hq
 | str => exact one h hq
 | sl t => exact one h hq
 | op t => exact one h hq
 | mp k v => exact one h hq
 | vec k => exact one h hq
def YA (P : Program) [bl P] (ts : List Ty) : List ((Nat × Nat) × cm) → Bool
 | [] => true
 | ((j, q), _) :: r => (match ts[j]? with | some t => Nat.blt q (ZP P t) | none => false) && YA P ts r
theorem Q9 {ts : List Ty} : ∀ {ws : List ((Nat × Nat) × cm)}, YA P ts ws = true → ∀ {j q : Nat} {D : cm}, Q0 ws j q = some D → ∃ t, ts[j]? = some t ∧ q < ZP P t
 | [], _, j, q, D, h => by cases h
 | ((j', q'), D') :: r, hw, j, q, D, h => by
  simp only [YA, Bool.and_eq_true] at hw
  simp only [Q0] at h
  cases hb : Nat.beq j' j && Nat.beq q' q with
  | false => rw [hb] at h; exact Q9 hw.2 h
  | true =>
   simp only [Bool.and_eq_true] at hb
   obtain rfl := Nat.eq_of_beq_eq_true hb.1
   obtain rfl := Nat.eq_of_beq_eq_true hb.2
   have h1 := hw.1
   split at h1
   ·rename_i t ht; exact ⟨t, ht, by simpa [Nat.blt_eq] using h1⟩
   ·cases h1
theorem Oe : ∀ {ts : List Ty} {a : vQ ts} {j : Nat} {t : Ty}, ts[j]? = some t → ∃ d, Pq ts a j = some ⟨t, d⟩
 | [], _, _, _, h => by simp at h
 | [t], a, 0, _, h => by simp at h; subst h; exact ⟨a, rfl⟩
 | [t], a, j + 1, _, h => by simp at h
 | t :: u :: ts, a, 0, _, h => by simp at h; subst h; exact ⟨a.1, rfl⟩
 | t :: u :: ts, a, j + 1, _, h => Oe (ts := u :: ts) (a := a.2) (j := j) (by simpa using h)
def Mt.I9 (P : Program) [bl P] (M : Mt) (ts : List Ty) : Option (vQ ts) := bif YA P ts M.ws then Re ts (fun j t => comp P M.ws j t) 0 else none
theorem Mt.tup_ok {M : Mt} {ts : List Ty} {a : vQ ts} (h : M.I9 P ts = some a) {j q : Nat} {D : cm} (hD : Q0 M.ws j q = some D) : leaf P ts a j q = some D := by
 unfold Mt.I9 at h
 cases hb : YA P ts M.ws with
 | false => rw [hb] at h; cases h
 | true =>
  rw [hb] at h
  obtain ⟨t, ht, hq⟩ := Q9 hb hD
  obtain ⟨d, hd⟩ := Oe (a := a) ht
  have h1 := Od h hd
  rw [Nat.zero_add] at h1
  unfold leaf
  rw [hd]
  exact comp_get h1 hD hq
def Mt.hs (M : Mt) (η : Nat → Hd) : Nat → Hd := fun k => match I_ M.om k with
 | some x => η x.2
 | none => ⟨.bool true, [], 0, rfl⟩
theorem Mt.say {M : Mt} {ts : List Ty} {a : vQ ts} (h : M.I9 P ts = some a) (η : Nat → Hd) : vR (leaf P ts a) (M.hs η) η M :=
 ⟨fun j q D hD => M.tup_ok h hD, fun k o x hk => by simp only [Mt.hs, hk]⟩
end Go.Dc
namespace Go.Dc
section
variable [aq] {P : Program} [bl P] {E : Env} {N : Nat} {op : Op} {ty : TypeId} {n : Nat} {env : List (Nat × bX)} {G : List (Nat × Sh)} {O : List MO}
def PZ (G : List (Nat × Sh)) : List Operand → Option (List Sh)
 | [] => some []
 | x :: xs => (OI G x).bind fun s => (PZ G xs).map (s :: ·)
def KP : qd → Sh
 | .ptr o h => .vl false [.ptr o h 0]
 | .fn f => .vl false [.fn f []]
 | .nF => .vl false [.nF]
theorem SN {c : Cx} {k : qd} (h : qd.ok c.n k = true) {F : FP} {w : World} : ((KP k).rp c).h F w (k.val c.η) := by
 cases k with
 | ptr o x =>
  have hb : Nat.blt x c.n = true := h
  show ((At.ptr o x 0).rp c).h F w _
  rw [lQ hb]; rfl
 | fn f =>
  have hb : Nat.blt f IA = true := h
  show qd.val c.η (.fn f) = Ur f []
  rw [JY hb]; rfl
 | nF => rfl
def fnT (f : Nat) : Nat := bif Nat.blt f IA then f else f - IA
def fnA {α : Type} (f : Nat) (l cs : List α) : List α := bif Nat.blt f IA then l ++ cs else cs ++ l
theorem WZ {f : Nat} {x : Operand} {args : List Operand} {ats : Array TypeId} {a : Act} {w : World} {caps : List Value}
  (zB : ∀ args w, (callFunc (fnT f) args).run P w = .ok (.enter (fnT f) args) w) (hx : a.eval x = Ur f caps) (o : Oper) (ho : o.op = .call ⟨.value x, args.toArray, ats⟩) :
  (execOp a.eval o).run P w = .ok (.enter (fnT f) ((fnA f args (caps.map .const)).map a.eval).toArray) w := by
 have e : (caps.map Operand.const).map a.eval = caps := by rw [List.map_map]; exact List.map_id'' (fun _ => rfl) caps
 unfold Ur at hx
 cases hb : Nat.blt f IA with
 | true =>
  rw [hb] at hx
  have ht : fnT f = f := by unfold fnT; rw [hb]; rfl
  rw [ht] at zB ⊢
  simp only [fnA, hb, cond_true, List.map_append, e]
  rw [Ma zB hx o ho]; simp
 | false =>
  rw [hb] at hx
  have ht : fnT f = f - IA := by unfold fnT; rw [hb]; rfl
  rw [ht] at zB ⊢
  have hx' : a.eval x = .func (.func (f - IA)) caps.toArray #[] := hx
  simp only [fnA, hb, cond_false, List.map_append, e]
  simp [execOp, ho, resolve, hx', Deferred.ofValue, invoke, zB]
theorem QH {c : Cx} {Ω : List OB} : ∀ {xs : List Operand} {cs : List qd} {ss : List Sh} {bY : List RP}, PZ G xs = some ss → cs.all (qd.ok c.n) = true → nK ((ss ++ cs.map KP).map (Sh.rp c)) bY →
  wB E N (dN c G) Ω frF (xs ++ (cs.map (qd.val c.η)).map .const) bY
 | [], [], ss, bY, h, _, hi => by
  cases h
  match bY, hi with
  | [], _ => trivial
 | [], k :: cs, ss, bY, h, hc, hi => by
  cases h
  simp only [List.all_cons, Bool.and_eq_true] at hc
  match bY, hi with
  | φ :: bY, ⟨h1, h2⟩ => exact ⟨fun a w hs => h1 (SN (c := c) hc.1), QH (xs := []) (ss := []) rfl hc.2 h2⟩
 | x :: xs, cs, ss, bY, h, hc, hi => by
  simp only [PZ] at h
  obtain ⟨s, h1, h2⟩ := Option.bind_eq_some_iff.1 h
  obtain ⟨ss', h3, rfl⟩ := Option.map_eq_some_iff.1 h2
  match bY, hi with
  | φ :: bY, ⟨h4, h5⟩ => exact ⟨fun a w hs => h4 (hs.op (sL h1)), QH h3 hc h5⟩
theorem Wm {c : Cx} {Ω : List OB} {xs : List Operand} {ss : List Sh} (hss : PZ G xs = some ss) : ∀ {cs : List qd} {bY : List RP}, cs.all (qd.ok c.n) = true → nK ((cs.map KP ++ ss).map (Sh.rp c)) bY →
  wB E N (dN c G) Ω frF ((cs.map (qd.val c.η)).map .const ++ xs) bY
 | [], bY, _, hi => by
  have h := QH (E := E) (N := N) (c := c) (Ω := Ω) (cs := []) (bY := bY) hss rfl (by simpa using hi)
  simpa using h
 | k :: cs, bY, hc, hi => by
  simp only [List.all_cons, Bool.and_eq_true] at hc
  match bY, hi with
  | φ :: bY, ⟨h1, h2⟩ => exact ⟨fun a w hs => h1 (SN (c := c) hc.1), Wm hss hc.2 h2⟩
theorem argsOkV {c : Cx} {Ω : List OB} {f : Nat} {xs : List Operand} {ss : List Sh} {cs : List qd} {bY : List RP} (hss : PZ G xs = some ss) (hcs : cs.all (qd.ok c.n) = true) (hi : nK ((fnA f ss (cs.map KP)).map (Sh.rp c)) bY) :
  wB E N (dN c G) Ω frF (fnA f xs ((cs.map (qd.val c.η)).map .const)) bY := by
 unfold fnA at hi ⊢
 cases hb : Nat.blt f IA with
 | true => rw [hb] at hi; exact QH hss hcs hi
 | false => rw [hb] at hi; exact Wm hss hcs hi
def KA.words : KA → List (Nat × Nat)
 | .d j q => [(j, q)]
 | .pj j 0 => [(j, 0)]
 | .vs _ _ j q _ => [(j, q)]
 | _ => []
def KO.words : KO → List (Nat × Nat)
 | .oa _ w => w.words
 | .oc _ l => l.flatMap KA.words
 | _ => []
def bI.wl [xw] (C : bI) : List (Nat × Nat) := C.rs.flatMap (fun v => v.2.flatMap KA.words) ++ C.os'.flatMap KO.words
def OQ (P : Program) [bl P] (ts : List Ty) (r : vQ ts) : List (Nat × Nat) → Option (List cm)
 | [] => some []
 | (j, q) :: l => (leaf P ts r j q).bind fun D => (OQ P ts r l).map (D :: ·)
theorem EX {ts : List Ty} {r : vQ ts} : ∀ {l : List (Nat × Nat)} {Ds : List cm}, OQ P ts r l = some Ds → Ds.length = l.length ∧ ∀ {i : Nat} {p : Nat × Nat}, l[i]? = some p → ∃ D, Ds[i]? = some D ∧ leaf P ts r p.1 p.2 = some D
 | [], _, h => by cases h; exact ⟨rfl, fun h => by simp at h⟩
 | (j, q) :: l, Ds, h => by
  simp only [OQ] at h
  obtain ⟨D, h1, h2⟩ := Option.bind_eq_some_iff.1 h
  obtain ⟨Ds', h3, rfl⟩ := Option.map_eq_some_iff.1 h2
  obtain ⟨h4, h5⟩ := EX h3
  refine ⟨by simp [h4], fun {i p} hp => ?_⟩
  cases i with
  | zero => simp only [List.getElem?_cons_zero, Option.some.injEq] at hp; subst hp; exact ⟨D, rfl, h1⟩
  | succ i => exact h5 (by simpa using hp)
def ixW : List (Nat × Nat) → Nat → Nat → Nat → Option Nat
 | [], _, _, _ => none
 | (j, q) :: l, i, p, k => bif Nat.beq j i && Nat.beq q p then some k else ixW l i p (k + 1)
theorem Qo : ∀ {l : List (Nat × Nat)} {j q k i : Nat}, ixW l j q k = some i → k ≤ i ∧ l[i - k]? = some (j, q)
 | [], _, _, _, _, h => by cases h
 | (j', q') :: l, j, q, k, i, h => by
  simp only [ixW] at h
  cases hb : Nat.beq j' j && Nat.beq q' q with
  | true =>
   rw [hb] at h; cases h
   simp only [Bool.and_eq_true] at hb
   obtain rfl := Nat.eq_of_beq_eq_true hb.1
   obtain rfl := Nat.eq_of_beq_eq_true hb.2
   exact ⟨Nat.le_refl _, by simp⟩
  | false =>
   rw [hb] at h
   obtain ⟨h1, h2⟩ := Qo h
   refine ⟨by omega, ?_⟩
   rw [show i - k = (i - (k + 1)) + 1 from by omega]
   simpa using h2
end
section
variable [qc] [aq]
structure Bk where
 n0 : Nat
 nH : List (Nat × bX)
 n : Nat
 wl : List (Nat × Nat)
 om : List (Nat × (Nat × Nat))
 nh : Nat
 P8 : Nat
 pos : Nat → Nat
def Bk.hid (B : Bk) (k : Nat) : Option Nat := bif Nat.blt k B.nh then (match I_ B.om k with
  | some (_, h) => bif Nat.blt h B.n then some h else none
  | none => none) else bif Nat.blt k B.P8 then some (B.n + B.wl.length + (k - B.nh)) else none
def Bk.caps (B : Bk) : List (Option Nat) → Option (List qd)
 | [] => some []
 | none :: l => (B.caps l).map (.nF :: ·)
 | some k :: l => (B.hid k).bind fun h => (B.caps l).map (.ptr (B.pos k) h :: ·)
def Bk.at (B : Bk) : KA → Option At
 | .d j q => (ixW B.wl j q 0).map fun i => .vr (B.n + i)
 | .own k => (B.hid k).map fun h => .own (B.pos k) h
 | .ptr k => (B.hid k).map fun h => .ptr (B.pos k) h 0
 | .mp k => (B.hid k).map fun h => .mp (B.pos k) h
 | .fn f cs => (B.caps cs).map (.fn f)
 | .nl => some .nl
 | .nF => some .nF
 | .H8 => some .H8
 | .pj j q => (ixW B.wl j 0 0).map fun i => .pj (B.n + i) q
 | .fs k c => (B.hid k).map fun h => .fs (B.pos k) h c
 | .vs k off j q c => (B.hid k).bind fun h => (ixW B.wl j q 0).map fun i => .vs (B.pos k) h off (B.n + i) c
 | .fx a => bif a.J_ B.n0 B.nH then some a else none
def Bk.ats (B : Bk) : List KA → Option (List At)
 | [] => some []
 | k :: l => (B.at k).bind fun a => (B.ats l).map (a :: ·)
def Bk.vals (B : Bk) : List (Bool × List KA) → Option (List (Bool × List At))
 | [] => some []
 | (g, l) :: r => (B.ats l).bind fun y_ => (B.vals r).map ((g, y_) :: ·)
def Bk.obj (B : Bk) : KO → Option MO
 | .dead => some .dead
 | .same => none
 | .oa k (.d j q) => (B.hid k).bind fun h => (ixW B.wl j q 0).map fun i => .oa h (B.n + i)
 | .oa k (.fx (.vr i)) => (B.hid k).bind fun h => bif (iQ B.nH i).isSome then some (.oa h i) else none
 | .oa _ _ => none
 | .oc k l => (B.hid k).bind fun h => (B.ats l).map fun y_ => .oc h y_
def Bk.objs (B : Bk) (O : List MO) : List Nat → List KO → Option (List MO × List MO)
 | p :: ps, .same :: os => (O[p]?).bind fun o => (B.objs O ps os).map fun r => (o :: r.1, r.2)
 | _ :: ps, o :: os => (B.obj o).bind fun m => (B.objs O ps os).map fun r => (m :: r.1, r.2)
 | [], o :: os => (B.obj o).bind fun m => (B.objs O [] os).map fun r => (r.1, m :: r.2)
 | [], [] => some ([], [])
 | _ :: _, [] => none
structure vS (B : Bk) (L : Nat → Nat → Option cm) (hs : Nat → Hd) (c0 c : Cx) : Prop where
 n0 : B.n0 = c0.n
 nH : B.nH = c0.env
 x : Ext c0 c
 w : ∀ j q i, ixW B.wl j q 0 = some i → ∃ D, iQ c.env (B.n + i) = some ⟨D.t, D.d, none⟩ ∧ L j q = some D ∧ D.t.one = true
 h : ∀ k x, B.hid k = some x → c.η x = hs k ∧ Nat.blt x c.n = true
section
variable {B : Bk} {L : Nat → Nat → Option cm} {hs : Nat → Hd} {c0 c : Cx}
theorem vS.caps (H : vS B L hs c0 c) : ∀ {l : List (Option Nat)} {cs : List qd}, B.caps l = some cs → cs.map (qd.val c.η) = l.map (aan hs) ∧ cs.all (qd.ok c.n) = true
 | [], _, h => by cases h; exact ⟨rfl, rfl⟩
 | none :: l, cs, h => by
  simp only [Bk.caps] at h
  obtain ⟨cs', h1, rfl⟩ := Option.map_eq_some_iff.1 h
  obtain ⟨h2, h3⟩ := H.caps h1
  exact ⟨by rw [List.map_cons, List.map_cons, h2]; rfl, by simp [h3, qd.ok]⟩
 | some k :: l, cs, h => by
  simp only [Bk.caps] at h
  obtain ⟨x, h0, h⟩ := Option.bind_eq_some_iff.1 h
  obtain ⟨cs', h1, rfl⟩ := Option.map_eq_some_iff.1 h
  obtain ⟨h2, h3⟩ := H.caps h1
  obtain ⟨h4, h5⟩ := H.h _ _ h0
  refine ⟨by rw [List.map_cons, List.map_cons, h2]; simp only [aan, qd.val, h4], ?_⟩
  rw [List.all_cons, h3]
  show (Nat.blt x c.n && true) = true
  rw [h5]; rfl
theorem vS.at (H : vS B L hs c0 c) {k : KA} {a : At} (h : B.at k = some a) : a.rp c = k.rp c0 L hs := by
 cases k with
 | d j q =>
  simp only [Bk.at] at h
  obtain ⟨i, h1, rfl⟩ := Option.map_eq_some_iff.1 h
  obtain ⟨D, h2, h3, h4⟩ := H.w _ _ _ h1
  simp only [At.rp, h2, h4, cond_true, KA.rp, h3, cm.rp]
 | own k =>
  obtain ⟨x, h1, rfl⟩ := Option.map_eq_some_iff.1 h
  obtain ⟨h2, h3⟩ := H.h _ _ h1
  rw [xT h3, h2]; rfl
 | ptr k =>
  obtain ⟨x, h1, rfl⟩ := Option.map_eq_some_iff.1 h
  obtain ⟨h2, h3⟩ := H.h _ _ h1
  rw [lQ h3, h2]; rfl
 | mp k =>
  obtain ⟨x, h1, rfl⟩ := Option.map_eq_some_iff.1 h
  obtain ⟨h2, h3⟩ := H.h _ _ h1
  simp only [At.rp, h3, cond_true, h2]; rfl
 | fn f cs =>
  obtain ⟨ds, h1, rfl⟩ := Option.map_eq_some_iff.1 h
  obtain ⟨h2, h3⟩ := H.caps h1
  simp only [At.rp, h3, cond_true, h2]; rfl
 | nl => cases h; rfl
 | nF => cases h; rfl
 | H8 => cases h; rfl
 | pj j q =>
  obtain ⟨i, h1, rfl⟩ := Option.map_eq_some_iff.1 h
  obtain ⟨⟨t, d⟩, h2, h3, h4⟩ := H.w _ _ _ h1
  simp only [At.rp, h2, KA.rp, h3]
  cases t <;> rfl
 | fs k cp =>
  obtain ⟨x, h1, rfl⟩ := Option.map_eq_some_iff.1 h
  obtain ⟨h2, h3⟩ := H.h _ _ h1
  simp only [At.rp, h3, cond_true, h2]; rfl
 | vs k off j q cp =>
  simp only [Bk.at] at h
  obtain ⟨x, h0, h⟩ := Option.bind_eq_some_iff.1 h
  obtain ⟨i, h1, rfl⟩ := Option.map_eq_some_iff.1 h
  obtain ⟨⟨t, d⟩, h2, h3, h4⟩ := H.w _ _ _ h1
  obtain ⟨h5, h6⟩ := H.h _ _ h0
  simp only [At.rp, h2, KA.rp, h3]
  cases t with
  | int kd => simp only [h6, cond_true, h5]
  | _ => rfl
 | fx a' =>
  simp only [Bk.at] at h
  cases hb : a'.J_ B.n0 B.nH with
  | false => rw [hb] at h; cases h
  | true =>
   rw [hb] at h; cases h
   rw [H.n0, H.nH] at hb
   exact At.G5 H.x hb
theorem vS.ats (H : vS B L hs c0 c) : ∀ {l : List KA} {y_ : List At}, B.ats l = some y_ → y_.map (At.rp c) = l.map (KA.rp c0 L hs)
 | [], _, h => by cases h; rfl
 | k :: l, y_, h => by
  simp only [Bk.ats] at h
  obtain ⟨a, h1, h2⟩ := Option.bind_eq_some_iff.1 h
  obtain ⟨as_', h3, rfl⟩ := Option.map_eq_some_iff.1 h2
  rw [List.map_cons, List.map_cons, H.at h1, H.ats h3]
theorem vS.vals (H : vS B L hs c0 c) : ∀ {l : List (Bool × List KA)} {vs : List (Bool × List At)}, B.vals l = some vs → (vs.map fun x => wS c x.1 x.2) = l.map (GO c0 L hs)
 | [], _, h => by cases h; rfl
 | (g, l) :: r, vs, h => by
  simp only [Bk.vals] at h
  obtain ⟨y_, h1, h2⟩ := Option.bind_eq_some_iff.1 h
  obtain ⟨vs', h3, rfl⟩ := Option.map_eq_some_iff.1 h2
  rw [List.map_cons, List.map_cons, H.vals h3]
  simp only [wS, GO]
  rw [H.ats h1]
theorem vS.obj (H : vS B L hs c0 c) {o : KO} {m : MO} (h : B.obj o = some m) : m.ob c = o.ob c0 L hs := by
 cases o with
 | dead => cases h; rfl
 | same => cases h
 | oa k w =>
  unfold Bk.obj at h
  split at h
  ·rename_i e0; cases e0
  ·cases h
  ·rename_i k j q e0
   cases e0
   obtain ⟨x, h1, h2⟩ := Option.bind_eq_some_iff.1 h
   obtain ⟨i, h3, rfl⟩ := Option.map_eq_some_iff.1 h2
   obtain ⟨h4, h5⟩ := H.h _ _ h1
   obtain ⟨D, h6, h7, _⟩ := H.w _ _ _ h3
   simp only [MO.ob, h6, KO.ob, KA.sl, h7, h5, cond_true, h4]
  ·rename_i k i e0
   cases e0
   obtain ⟨x, h1, h2⟩ := Option.bind_eq_some_iff.1 h
   cases hb : (iQ B.nH i).isSome with
   | false => rw [hb] at h2; cases h2
   | true =>
    rw [hb] at h2; cases h2
    rw [H.nH] at hb
    obtain ⟨e, he⟩ := Option.isSome_iff_exists.1 hb
    obtain ⟨h4, h5⟩ := H.h _ _ h1
    simp only [MO.ob, H.x.env i e he, KO.ob, KA.sl, he, Option.map_some, h5, cond_true, h4]
  ·cases h
  ·rename_i e0; cases e0
 | oc k l =>
  simp only [Bk.obj] at h
  obtain ⟨x, h1, h2⟩ := Option.bind_eq_some_iff.1 h
  obtain ⟨y_, h3, rfl⟩ := Option.map_eq_some_iff.1 h2
  obtain ⟨h4, h5⟩ := H.h _ _ h1
  simp only [MO.ob, h5, cond_true, h4, KO.ob, H.ats h3]
end
end
section
variable [aq] {P : Program} [bl P] {E : Env} {N : Nat} {op : Op} {ty : TypeId} {n : Nat} {env : List (Nat × bX)} {G : List (Nat × Sh)} {O : List MO}
theorem Dz : ∀ {js : List Nat} {os Ω : List OB} {i j : Nat} {o : OB}, js[i]? = some j → os[i]? = some o → dG (js.drop (i + 1)) j = false → j < Ω.length → (jG js os Ω)[j]? = some o
 | [], _, _, i, _, _, h, _, _, _ => by simp at h
 | _ :: _, [], _, i, _, _, _, h, _, _ => by simp at h
 | k :: js, p :: os, Ω, 0, j, o, h1, h2, h3, h4 => by
  simp only [List.getElem?_cons_zero, Option.some.injEq] at h1 h2
  subst h1; subst h2
  simp only [jG]
  rw [BF (fun hh => by simp only [List.drop_succ_cons, List.drop_zero] at h3; rw [fk.2 hh] at h3; cases h3), List.getElem?_set_self h4]
 | k :: js, p :: os, Ω, i + 1, j, o, h1, h2, h3, h4 => by
  simp only [jG]
  exact Dz (i := i) (by simpa using h1) (by simpa using h2) (by simpa using h3) (by simpa using h4)
def mC : List Nat → Bool
 | [] => true
 | j :: js => !dG js j && mC js
theorem zm : ∀ {js : List Nat}, mC js = true → ∀ {i j : Nat}, js[i]? = some j → dG (js.drop (i + 1)) j = false
 | [], _, i, j, h => by simp at h
 | k :: js, hn, 0, j, h => by
  simp only [mC, Bool.and_eq_true, Bool.not_eq_true'] at hn
  simp only [List.getElem?_cons_zero, Option.some.injEq] at h
  subst h; simpa using hn.1
 | k :: js, hn, i + 1, j, h => by
  simp only [mC, Bool.and_eq_true] at hn
  simpa using zm hn.2 (i := i) (by simpa using h)
theorem Rc : ∀ {l : List (Nat × MO)} {O : List MO}, (wU l O).length = O.length
 | [], _ => rfl
 | (j, o) :: l, O => by simp only [wU]; rw [Rc]; simp
theorem HA {i : Nat} : ∀ {l : List (Nat × MO)} {O : List MO}, i ∉ l.map (·.1) → (wU l O)[i]? = O[i]?
 | [], _, _ => rfl
 | (j, o) :: l, O, h => by
  simp only [List.map_cons, List.mem_cons, not_or] at h
  simp only [wU]
  rw [HA h.2, List.getElem?_set_ne (Ne.symm h.1)]
theorem Oc : ∀ {js : List Nat} {ms : List MO} {O : List MO} {i j : Nat} {m : MO}, js[i]? = some j → ms[i]? = some m → dG (js.drop (i + 1)) j = false → j < O.length → js.length = ms.length → (wU (js.zip ms) O)[j]? = some m
 | [], _, _, i, _, _, h, _, _, _, _ => by simp at h
 | _ :: _, [], _, i, _, _, _, h, _, _, _ => by simp at h
 | k :: js, p :: ms, O, 0, j, m, h1, h2, h3, h4, h5 => by
  simp only [List.getElem?_cons_zero, Option.some.injEq] at h1 h2
  subst h1; subst h2
  simp only [List.zip_cons_cons, wU]
  rw [HA, List.getElem?_set_self h4]
  intro hm
  simp only [List.drop_succ_cons, List.drop_zero] at h3
  have : k ∈ js := by
   obtain ⟨x, hx, e⟩ := List.mem_map.1 hm
   rw [← e]; exact (List.of_mem_zip hx).1
  rw [fk.2 this] at h3; cases h3
 | k :: js, p :: ms, O, i + 1, j, m, h1, h2, h3, h4, h5 => by
  simp only [List.zip_cons_cons, wU]
  exact Oc (i := i) (by simpa using h1) (by simpa using h2) (by simpa using h3) (by simpa using h4) (by simpa using h5)
theorem TP {c c' : Cx} (hx : Ext c c') {O : List MO} {Γ : List (Nat × RP)} {a : Act} {w : World} {js : List Nat} {ms : List MO} {obs : List OB} {new : List MO} {ex : List OB} (hnd : mC js = true) (hlt : ∀ j ∈ js, j < O.length)
  (hl : js.length = ms.length) (hl' : js.length = obs.length) (hm : ∀ (i : Nat) (m : MO) (o : OB), ms[i]? = some m → obs[i]? = some o → m.ob c' = o) (hn : new.map (MO.ob c') = ex)
  (hs : Sat E N Γ (jG js obs (bL c O) ++ ex) a w) : bL c' (wU (js.zip ms) O ++ new) = jG js obs (bL c O) ++ ex := by
 unfold bL at hs ⊢
 rw [List.map_append, hn]
 congr 1
 refine List.ext_getElem? fun j => ?_
 rw [List.getElem?_map]
 by_cases hj : j ∈ js
 ·obtain ⟨i, hi⟩ := List.mem_iff_getElem?.1 hj
  have NK : i < js.length := (List.getElem?_eq_some_iff.1 hi).1
  obtain ⟨m, hm1⟩ : ∃ m, ms[i]? = some m := ⟨ms[i]'(by omega), List.getElem?_eq_getElem (by omega)⟩
  obtain ⟨o, ho1⟩ : ∃ o, obs[i]? = some o := ⟨obs[i]'(by omega), List.getElem?_eq_getElem (by omega)⟩
  rw [Oc hi hm1 (zm hnd hi) (hlt j hj) hl, Dz hi ho1 (zm hnd hi) (by simpa using hlt j hj)]
  simp only [Option.map_some]
  rw [hm i m o hm1 ho1]
 ·rw [HA, BF hj, List.getElem?_map]
  ·cases ho : O[j]? with
   | none => rfl
   | some q =>
    simp only [Option.map_some]
    have hq : (jG js obs (O.map (MO.ob c)) ++ ex)[j]? = some (q.ob c) := by
     rw [List.getElem?_append_left (by rw [L7, List.length_map]; exact (List.getElem?_eq_some_iff.1 ho).1), BF hj, List.getElem?_map, ho]; rfl
    rw [MO.OL hx (hs.ob _ (List.mem_of_getElem? hq))]
  ·intro hm
   obtain ⟨x, hx', e⟩ := List.mem_map.1 hm
   exact hj (by rw [← e]; exact (List.of_mem_zip hx').1)
end
end Go.Dc
namespace Go.Dc
variable [aq] {P : Program} [bl P] {E : Env} {N : Nat} {op : Op} {ty : TypeId} {n : Nat} {env : List (Nat × bX)} {G : List (Nat × Sh)} {O : List MO}
theorem Bk.zk {B : Bk} {Li Lo : Nat → Nat → Option cm} {hs0 hs : Nat → Hd} {c' : Cx} {O : List MO} (H : vS B Lo hs Dq c') : ∀ {os' : List KO} {os : List KO} {ps : List Nat} {ms new : List MO}, B.objs O ps os' = some (ms, new) → ps.length = os.length →
  ms.length = ps.length ∧ (fZ Li Lo hs0 hs os os').length = ms.length + new.length ∧
  (∀ (i : Nat) (m : MO) (o : OB), ms[i]? = some m → ((fZ Li Lo hs0 hs os os').take ps.length)[i]? = some o → m.ob c' = o ∨ (∃ p q k, ps[i]? = some p ∧ O[p]? = some q ∧ m = q ∧ os[i]? = some k ∧ o = k.ob Dq Li hs0)) ∧
  new.map (MO.ob c') = (fZ Li Lo hs0 hs os os').drop ps.length
 | [], os, [], ms, new, h, hl => by
  cases h
  cases os with
  | nil => exact ⟨rfl, rfl, fun i m o h => by simp at h, rfl⟩
  | cons _ _ => simp at hl
 | [], _, _ :: _, _, _, h, _ => by cases h
 | o :: os', [], [], ms, new, h, hl => by
  have hh : (B.obj o).bind (fun m => (B.objs O [] os').map fun r => (r.1, m :: r.2)) = some (ms, new) := by cases o <;> exact h
  obtain ⟨m, h1, h2⟩ := Option.bind_eq_some_iff.1 hh
  obtain ⟨⟨a, b⟩, h3, h4⟩ := Option.map_eq_some_iff.1 h2
  cases h4
  obtain ⟨h5, h6, h7, h8⟩ := Bk.zk (Li := Li) (hs0 := hs0) H (os := []) h3 rfl
  have hk : fZ Li Lo hs0 hs [] (o :: os') = o.ob Dq Lo hs :: fZ Li Lo hs0 hs [] os' := by cases o <;> rfl
  rw [hk]
  refine ⟨h5, by simp only [List.length_cons, h6]; omega, fun i m' o' hm' ho' => ?_, ?_⟩
  ·have h9 := (List.getElem?_eq_some_iff.1 hm').1
   simp only [h5, List.length_nil] at h9; omega
  ·simp only [List.map_cons, List.length_nil, List.drop_zero] at h8 ⊢
   rw [h8, H.obj h1]
 | o :: os', [], _ :: _, ms, new, h, hl => by simp at hl
 | o :: os', _ :: _, [], ms, new, h, hl => by simp at hl
 | .same :: os', k :: os, p :: ps, ms, new, h, hl => by
  have hh : (O[p]?).bind (fun o => (B.objs O ps os').map fun r => (o :: r.1, r.2)) = some (ms, new) := h
  obtain ⟨q, h1, h2⟩ := Option.bind_eq_some_iff.1 hh
  obtain ⟨⟨a, b⟩, h3, h4⟩ := Option.map_eq_some_iff.1 h2
  cases h4
  obtain ⟨h5, h6, h7, h8⟩ := Bk.zk (Li := Li) (hs0 := hs0) H (os := os) h3 (by simpa using hl)
  have hk : fZ Li Lo hs0 hs (k :: os) (.same :: os') = k.ob Dq Li hs0 :: fZ Li Lo hs0 hs os os' := rfl
  rw [hk]
  refine ⟨by simp [h5], by simp only [List.length_cons, h6]; omega, fun i m' o' hm' ho' => ?_, ?_⟩
  ·cases i with
   | zero =>
    simp only [List.getElem?_cons_zero, Option.some.injEq, List.length_cons, List.take_succ_cons] at hm' ho'
    subst hm'; subst ho'
    exact .inr ⟨p, q, k, by simp, h1, rfl, by simp, rfl⟩
   | succ i =>
    simp only [List.getElem?_cons_succ, List.length_cons, List.take_succ_cons] at hm' ho' ⊢
    exact h7 i m' o' hm' ho'
  ·simpa using h8
 | .dead :: os', k :: os, p :: ps, ms, new, h, hl => by
  have hh : (B.obj .dead).bind (fun m => (B.objs O ps os').map fun r => (m :: r.1, r.2)) = some (ms, new) := h
  obtain ⟨q, h1, h2⟩ := Option.bind_eq_some_iff.1 hh
  obtain ⟨⟨a, b⟩, h3, h4⟩ := Option.map_eq_some_iff.1 h2
  cases h4
  obtain ⟨h5, h6, h7, h8⟩ := Bk.zk (Li := Li) (hs0 := hs0) H (os := os) h3 (by simpa using hl)
  have hk : fZ Li Lo hs0 hs (k :: os) (.dead :: os') = KO.dead.ob Dq Lo hs :: fZ Li Lo hs0 hs os os' := rfl
  rw [hk]
  refine ⟨by simp [h5], by simp only [List.length_cons, h6]; omega, fun i m' o' hm' ho' => ?_, by simpa using h8⟩
  cases i with
  | zero =>
   simp only [List.getElem?_cons_zero, Option.some.injEq, List.length_cons, List.take_succ_cons] at hm' ho'
   subst hm'; subst ho'
   exact .inl (H.obj h1)
  | succ i =>
   simp only [List.getElem?_cons_succ, List.length_cons, List.take_succ_cons] at hm' ho' ⊢
   exact h7 i m' o' hm' ho'
 | .oa x w :: os', k :: os, p :: ps, ms, new, h, hl => by
  have hh : (B.obj (.oa x w)).bind (fun m => (B.objs O ps os').map fun r => (m :: r.1, r.2)) = some (ms, new) := h
  obtain ⟨q, h1, h2⟩ := Option.bind_eq_some_iff.1 hh
  obtain ⟨⟨a, b⟩, h3, h4⟩ := Option.map_eq_some_iff.1 h2
  cases h4
  obtain ⟨h5, h6, h7, h8⟩ := Bk.zk (Li := Li) (hs0 := hs0) H (os := os) h3 (by simpa using hl)
  have hk : fZ Li Lo hs0 hs (k :: os) (.oa x w :: os') = (KO.oa x w).ob Dq Lo hs :: fZ Li Lo hs0 hs os os' := rfl
  rw [hk]
  refine ⟨by simp [h5], by simp only [List.length_cons, h6]; omega, fun i m' o' hm' ho' => ?_, by simpa using h8⟩
  cases i with
  | zero =>
   simp only [List.getElem?_cons_zero, Option.some.injEq, List.length_cons, List.take_succ_cons] at hm' ho'
   subst hm'; subst ho'
   exact .inl (H.obj h1)
  | succ i =>
   simp only [List.getElem?_cons_succ, List.length_cons, List.take_succ_cons] at hm' ho' ⊢
   exact h7 i m' o' hm' ho'
 | .oc x l :: os', k :: os, p :: ps, ms, new, h, hl => by
  have hh : (B.obj (.oc x l)).bind (fun m => (B.objs O ps os').map fun r => (m :: r.1, r.2)) = some (ms, new) := h
  obtain ⟨q, h1, h2⟩ := Option.bind_eq_some_iff.1 hh
  obtain ⟨⟨a, b⟩, h3, h4⟩ := Option.map_eq_some_iff.1 h2
  cases h4
  obtain ⟨h5, h6, h7, h8⟩ := Bk.zk (Li := Li) (hs0 := hs0) H (os := os) h3 (by simpa using hl)
  have hk : fZ Li Lo hs0 hs (k :: os) (.oc x l :: os') = (KO.oc x l).ob Dq Lo hs :: fZ Li Lo hs0 hs os os' := rfl
  rw [hk]
  refine ⟨by simp [h5], by simp only [List.length_cons, h6]; omega, fun i m' o' hm' ho' => ?_, by simpa using h8⟩
  cases i with
  | zero =>
   simp only [List.getElem?_cons_zero, Option.some.injEq, List.length_cons, List.take_succ_cons] at hm' ho'
   subst hm'; subst ho'
   exact .inl (H.obj h1)
  | succ i =>
   simp only [List.getElem?_cons_succ, List.length_cons, List.take_succ_cons] at hm' ho' ⊢
   exact h7 i m' o' hm' ho'
theorem jx {Li Lo : Nat → Nat → Option cm} {hs0 hs : Nat → Hd} : ∀ {os' os : List KO}, Pk (CB os') (fZ Li Lo hs0 hs os os')
 | [], os => by cases os <;> trivial
 | .dead :: os', [] => ⟨rfl, jx (os := [])⟩
 | .dead :: os', _ :: os => ⟨rfl, jx (os := os)⟩
 | .same :: os', [] => jx (os' := os') (os := [])
 | .same :: os', _ :: os => jx (os' := os') (os := os)
 | .oa _ _ :: os', [] => jx (os' := os') (os := [])
 | .oa _ _ :: os', _ :: os => jx (os' := os') (os := os)
 | .oc _ _ :: os', [] => jx (os' := os') (os := [])
 | .oc _ _ :: os', _ :: os => jx (os' := os') (os := os)
structure aG (P : Program) [bl P] (f : FuncId) (C : bI) : Prop where
 call : ∀ args w, (callFunc f args).run P w = .ok (.enter f args) w
 ok : Pn P f C
structure Cf (C : bI) where
 M : Mt
 ps : List (Nat × Nat)
 a : vQ C.ins
def bI.find (P : Program) [bl P] (C : bI) (n : Nat) (env : List (Nat × bX)) (O : List MO) (ss : List Sh) : Option (Cf C) :=
 (TS P C.ins false 0 [] n env ⟨[], []⟩ C.ps ss).bind fun M0 => (mtOs P C.ins 0 [] n env O M0 C.os).bind fun M => (Vt M C.os).bind fun ps =>
  bif mC (ps.map (·.1)) && Nat.beq C.nh C.os.length then (M.I9 P C.ins).map fun a => ⟨M, ps, a⟩ else none
def posK (O : List MO) (M : Mt) (C : bI) (k : Nat) : Nat := match I_ M.om k with
 | some (o, _) => o
 | none => O.length + ((C.os'.drop C.os.length).findIdx fun o => match o.key with | some i => Nat.beq i k | none => false)
def Pu (vs : List (Bool × List At)) : Sh := match vs with
 | [(g, l)] => .vl g l
 | vs => .I9 vs
theorem WC {c : Cx} {vs : List (Bool × List At)} {bY : List RP} (h : (vs.map fun x => wS c x.1 x.2) = bY) {F : FP} {w : World} {v : Value} (hr : HO F w bY v) : ((Pu vs).rp c).h F w v := by
 subst h
 unfold Pu
 split
 ·exact hr
 ·rename_i h1
  match vs, h1, hr with
  | [], _, hr => exact hr
  | [(g, l)], h1, _ => exact (h1 g l rfl).elim
  | a :: b :: vs, _, hr => exact hr
def bI.bk (C : bI) (n : Nat) (O : List MO) (M : Mt) : Bk := ⟨0, [], n, C.wl, M.om, C.nh, C.P8, posK O M C⟩
def callE (P : Program) [bl P] (C : bI) (n : Nat) (env : List (Nat × bX)) (O : List MO) (X : Cf C) : Ask dV :=
 .bind (C.m X.a) fun r => Ask.of (OQ P C.outs r C.wl) fun Ds => Ask.when (Ds.all fun D => D.t.one) (Ask.of ((C.bk n O X.M).vals C.rs) fun vs =>
  Ask.of ((C.bk n O X.M).objs O (X.ps.map (·.1)) C.os') fun ob => .ret ⟨Pu vs, Ck Ds, C.P8 - C.nh, (X.ps.map (·.1)).zip ob.1, ob.2⟩)
theorem callE_ok (hw : WF n env) {f : FuncId} {C : bI} (hC : aG P (fnT f) C) {x : Operand} {args : List Operand} {cs : List qd} {ats : Array TypeId} {ss : List Sh} {X : Cf C}
  (hx : CA G x = some (.fn f cs)) (hcs : cs.all (qd.ok n) = true) (hss : PZ G args = some ss) (hX : C.find P n env O (fnA f ss (cs.map KP)) = some X) :
  aC (aM P E N (.call ⟨.value x, args.toArray, ats⟩) ty n env G O) (callE P C n env O X) := by
 intro r hr
 refine aC.of fun Ds hDs => aC.when fun hone => aC.of fun vs hvs => aC.of fun ob jP => ?_
 obtain ⟨ms, new⟩ := ob
 obtain ⟨M0, h1, h2⟩ := Option.bind_eq_some_iff.1 hX
 obtain ⟨M, h3, h4⟩ := Option.bind_eq_some_iff.1 h2
 obtain ⟨ps, h5, h6⟩ := Option.bind_eq_some_iff.1 h4
 cases hb : mC (ps.map (·.1)) && Nat.beq C.nh C.os.length with
 | false => rw [hb] at h6; cases h6
 | true =>
 rw [hb] at h6
 simp only [cond_true, Option.map_eq_some_iff] at h6
 obtain ⟨a, ha, rfl⟩ := h6
 simp only [Bool.and_eq_true] at hb
 have hnd := hb.1
 obtain ⟨l1, l2⟩ := EX hDs
 have hsrc : ∀ e ∈ Ck Ds, gR env e := Es
 have hlen : (Ck Ds).length = C.wl.length := by simp [Ck, l1]
 refine ⟨hsrc, (fun h => by cases h), fun η => ?_⟩
 obtain ⟨m1, m2⟩ := P_ (c0 := Dq) h1
 obtain ⟨m3, m4⟩ := VB (c0 := Dq) h3
 obtain ⟨m5, m6, m7⟩ := m4 h5
 have jo := M.say ha η
 have hsay0 := jo.le m3
 have hargs := argsOkV (E := E) (N := N) (c := ⟨n, env, η⟩) (Ω := bL ⟨n, env, η⟩ O) (f := f) hss hcs (m2 (E5 _) hsay0).1
 have p6 := m7 (E5 _) jo
 have hpsl : (ps.map (·.1)).length = C.os.length := by simp [m5]
 have hlt : ∀ j ∈ ps.map (·.1), j < (bL ⟨n, env, η⟩ O).length := fun j hj => by
  obtain ⟨p, hp, rfl⟩ := List.mem_map.1 hj
  simpa [bL] using (m6 p hp).1
 -- the objects that are handed on
 have Eg : ∀ (ps : List (Nat × Nat)) (os : List KO), ps.length = os.length → mC (ps.map (·.1)) = true → (∀ (i : Nat) (p : Nat × Nat) (o : KO), ps[i]? = some p → os[i]? = some o → (bL ⟨n, env, η⟩ O)[p.1]? = some (o.ob Dq (leaf P C.ins a) (M.hs η))) →
   wA (bL ⟨n, env, η⟩ O) (ps.map (·.1)) (os.map (KO.ob Dq (leaf P C.ins a) (M.hs η))) := by
  intro ps
  induction ps with
  | nil => intro os hl _ _; cases os with
   | nil => trivial
   | cons _ _ => simp at hl
  | cons p ps ih =>
   intro os hl hn h
   cases os with
   | nil => simp at hl
   | cons o os =>
    simp only [List.map_cons, mC, Bool.and_eq_true, Bool.not_eq_true'] at hn
    exact ⟨h 0 p o rfl rfl, hn.1, ih os (by simpa using hl) hn.2 fun i p' o' hp' ho' => h (i + 1) p' o' (by simpa using hp') (by simpa using ho')⟩
 -- handles behind the call
 let ηx : (Nat → Hd) → Nat → Hd := fun hs' y => bif Nat.blt y (n + C.wl.length) then η y else hs' (C.nh + (y - (n + C.wl.length)))
 have hηx : ∀ hs' y, y < n → ηx hs' y = η y := fun hs' y hy => by
  have : Nat.blt y (n + C.wl.length) = true := by simp only [Nat.blt_eq]; omega
  simp only [ηx, this, cond_true]
 let R : dV := ⟨Pu vs, Ck Ds, C.P8 - C.nh, (ps.map (·.1)).zip ms, new⟩
 have hext : ∀ hs', Ext ⟨n, env, η⟩ (R.bC n env (ηx hs')) := fun hs' => aM.ext hw (r := R) hsrc ⟨ηx hs', hηx hs'⟩
 have hbk : ∀ x : S_ C.nh (M.hs η), vS (C.bk n O M) (leaf P C.outs r) x.1 Dq (R.bC n env (ηx x.1)) := fun x => by
  refine ⟨rfl, rfl, E5 _, fun j q i hi => ?_, fun k y hy => ?_⟩
  ·obtain ⟨_, h8⟩ := Qo hi
   rw [Nat.sub_zero] at h8
   obtain ⟨D, h9, h10⟩ := l2 h8
   refine ⟨D, ?_, h10, List.all_eq_true.1 hone D (List.mem_of_getElem? h9)⟩
   exact EV (es := Ck Ds) (by simp [Ck, h9])
  ·unfold Bk.hid at hy
   cases hk : Nat.blt k (C.bk n O M).nh with
   | true =>
    rw [hk] at hy
    simp only [cond_true] at hy
    split at hy
    ·rename_i x0 o y' hl
     cases hyn : Nat.blt y' (C.bk n O M).n with
     | false => rw [hyn] at hy; cases hy
     | true =>
      rw [hyn] at hy
      simp only [cond_true, Option.some.injEq] at hy
      subst hy
      have XF : Nat.blt y' n = true := hyn
      have hkn : k < C.nh := by simpa [Nat.blt_eq] using (show Nat.blt k C.nh = true from hk)
      have hl' : I_ M.om k = some (o, y') := hl
      refine ⟨?_, bV XF (by simp only [dV.bC, dV.n']; omega)⟩
      rw [x.2 k hkn]
      simp only [dV.bC]
      rw [hηx _ _ (by simpa [Nat.blt_eq] using XF)]
      simp only [Mt.hs, hl']
    ·cases hy
   | false =>
    rw [hk] at hy
    simp only [cond_false] at hy
    cases hk2 : Nat.blt k (C.bk n O M).P8 with
    | false => rw [hk2] at hy; cases hy
    | true =>
     rw [hk2] at hy
     simp only [cond_true, Option.some.injEq] at hy
     have hy' : n + C.wl.length + (k - C.nh) = y := hy
     have e1 : ¬ k < C.nh := fun h => by
      have : Nat.blt k C.nh = true := by simpa [Nat.blt_eq] using h
      have hk' : Nat.blt k C.nh = false := hk
      rw [this] at hk'; cases hk'
     have e2 : k < C.P8 := by simpa [Nat.blt_eq] using (show Nat.blt k C.P8 = true from hk2)
     subst hy'
     refine ⟨?_, ?_⟩
     ·have : Nat.blt (n + C.wl.length + (k - C.nh)) (n + C.wl.length) = false := by
       cases hh : Nat.blt (n + C.wl.length + (k - C.nh)) (n + C.wl.length) with
       | false => rfl
       | true => simp only [Nat.blt_eq] at hh; omega
      have e3 : C.nh + (n + C.wl.length + (k - C.nh) - (n + C.wl.length)) = k := by omega
      simp only [dV.bC, ηx, this, cond_false]
      rw [e3]
     ·show Nat.blt (n + C.wl.length + (k - C.nh)) (n + (Ck Ds).length + (C.P8 - C.nh)) = true
      rw [hlen]; simp only [Nat.blt_eq]; omega
 -- the call
 have hfn := (hC.ok a r hr (M.hs η)).YI (Tg := fun x => C.Tg (P := P) a r (M.hs η) x.1) (fun x => ?dd1) (fun x => ?dd2)
 case dd1 => exact Is jx
 case dd2 => exact EZ jx
 have hxf : dw (dN ⟨n, env, η⟩ G) x = some (pv (Ur f (cs.map (qd.val η)))) := by
  rw [fB (c := ⟨n, env, η⟩) hx]
  simp only [At.rp]
  rw [hcs]; rfl
 have hln : ∀ x : S_ C.nh (M.hs η), (ps.map (·.1)).length = ((C.Tg (P := P) a r (M.hs η) x.1).take (ps.map (·.1)).length).length := fun x => by
  obtain ⟨k1, k2, _, _⟩ := Bk.zk (Li := leaf P C.ins a) (hs0 := M.hs η) (hbk x) (os := C.os) jP hpsl
  have k1' : ms.length = (ps.map (·.1)).length := k1
  rw [List.length_take, bI.Tg, k2]; omega
 have hobj := Eg ps C.os m5 hnd p6
 have hst := Y_ (op := .call ⟨.value x, args.toArray, ats⟩) (X := S_ C.nh (M.hs η)) (E := E) (N := N) (ty := ty) (Γ := dN ⟨n, env, η⟩ G) (Ω := bL ⟨n, env, η⟩ O) (js := ps.map (·.1)) (os := fun x => (C.Tg (P := P) a r (M.hs η) x.1).take (ps.map (·.1)).length) (ex := fun x => (C.Tg (P := P) a r (M.hs η) x.1).drop (ps.map (·.1)).length)
  (xs := fnA f args ((cs.map (qd.val η)).map .const)) (ψ := fun x => R.val.rp (R.bC n env (ηx x.1))) (fun a w hs o ho => WZ hC.call (show _ = _ from hs.op hxf) o ho) hfn hobj (fun x => (List.take_append_drop _ _).symm) hln hargs (fun x F w v hv => WC ((hbk x).vals hvs) hv)
 have Ul : ∀ (x : S_ C.nh (M.hs η)), ((ps.map (·.1)).zip ms).map (·.1) = ps.map (·.1) := fun x => by
  obtain ⟨k1, _, _, _⟩ := Bk.zk (Li := leaf P C.ins a) (hs0 := M.hs η) (hbk x) (os := C.os) jP hpsl
  have k1' : ms.length = (ps.map (·.1)).length := k1
  rw [List.map_fst_zip (by omega)]
 have Ul := Ul ⟨M.hs η, fun _ _ => rfl⟩
 show St P E N _ ty _ _ (((ps.map (·.1)).zip ms).map (·.1)) _ _
 rw [Ul]
 refine hst.to' fun x aa w oK => ⟨⟨ηx x.1, hηx x.1⟩, ?_, rfl⟩
 obtain ⟨k1, k2, k3, k4⟩ := Bk.zk (Li := leaf P C.ins a) (hs0 := M.hs η) (hbk x) (os := C.os) jP hpsl
 refine TP (hext x.1) hnd (fun j hj => by simpa [bL] using hlt j hj) k1.symm (hln x) (fun i m o hm ho => ?_) k4 oK
 rcases k3 i m o hm ho with h | ⟨p, q, k, hp, hq, rfl, hk, rfl⟩
 ·exact h
 ·obtain ⟨pp, hpp, rfl⟩ : ∃ pp, ps[i]? = some pp ∧ pp.1 = p := by
   rw [List.getElem?_map] at hp
   obtain ⟨pp, h1, h2⟩ := Option.map_eq_some_iff.1 hp
   exact ⟨pp, h1, h2⟩
  have e1 := p6 i pp k hpp hk
  have e2 : (bL ⟨n, env, η⟩ O)[pp.1]? = some (m.ob ⟨n, env, η⟩) := by simp [bL, hq]
  rw [e2] at e1
  have e3 : m.ob ⟨n, env, η⟩ = k.ob Dq (leaf P C.ins a) (M.hs η) := Option.some.inj e1
  have hin := List.mem_of_getElem? (Dz (Ω := bL ⟨n, env, η⟩ O) hp ho (zm hnd hp) (hlt _ (List.mem_of_getElem? hp)))
  have hin := List.mem_append_left ((C.Tg (P := P) a r (M.hs η) x.1).drop (ps.map (·.1)).length) hin
  rw [← e3] at hin ⊢
  exact MO.OL (hext x.1) (oK.ob _ hin)
end Go.Dc
namespace Go.Dc
variable [aq] {P : Program} [bl P] {E : Env} {N : Nat} {n : Nat} {env : List (Nat × bX)} {G : List (Nat × Sh)} {O : List MO}
structure Ac where
 ts : List Ty
 slots : List (Nat × (Bool × List KA))
 objs : List KO
 Ut : List (Nat × (Nat × Nat))
 nh : Nat
 P8 : Nat
def Ac.Γ (p : Ac) (c0 : Cx) (L : Nat → Nat → Option cm) (hs : Nat → Hd) : List (Nat × RP) := p.slots.map fun x => (x.1, GO c0 L hs x.2)
def Ac.Ω (p : Ac) (c0 : Cx) (L : Nat → Nat → Option cm) (hs : Nat → Hd) : List OB := p.objs.map (KO.ob c0 L hs)
def Kq (c0 : Cx) (p : Ac) (hs : Nat → Hd) : Prop := ∀ k o h, I_ p.Ut k = some (o, h) → Nat.blt h c0.n = true → hs k = c0.η h
def Ac.wl (p : Ac) : List (Nat × Nat) := p.slots.flatMap (fun x => x.2.2.flatMap KA.words) ++ p.objs.flatMap KO.words
def Ac.pos (p : Ac) (k : Nat) : Nat := match I_ p.Ut k with
 | some (o, _) => o
 | none => p.objs.findIdx fun o => match o.key with | some i => Nat.beq i k | none => false
def Ac.bk (p : Ac) (n : Nat) (env : List (Nat × bX)) : Bk := ⟨n, env, n, p.wl, p.Ut, p.nh, p.P8, p.pos⟩
def Bk.slots (B : Bk) : List (Nat × (Bool × List KA)) → Option (List (Nat × Sh))
 | [] => some []
 | (t, (g, l)) :: r => (B.ats l).bind fun y_ => (B.slots r).map ((t, .vl g y_) :: ·)
def Bk.RM (B : Bk) : List KO → Option (List MO)
 | [] => some []
 | o :: r => (B.obj o).bind fun m => (B.RM r).map (m :: ·)
theorem vS.slots {B : Bk} {L : Nat → Nat → Option cm} {hs : Nat → Hd} {c0 c : Cx} (H : vS B L hs c0 c) : ∀ {l : List (Nat × (Bool × List KA))} {G : List (Nat × Sh)}, B.slots l = some G → dN c G = l.map fun x => (x.1, GO c0 L hs x.2)
 | [], _, h => by cases h; rfl
 | (t, (g, l)) :: r, G, h => by
  simp only [Bk.slots] at h
  obtain ⟨y_, h1, h2⟩ := Option.bind_eq_some_iff.1 h
  obtain ⟨G', h3, rfl⟩ := Option.map_eq_some_iff.1 h2
  have := H.slots h3
  unfold dN at this ⊢
  rw [List.map_cons, List.map_cons, this]
  simp only [Sh.rp, wS, GO]
  rw [H.ats h1]
theorem vS.RM {B : Bk} {L : Nat → Nat → Option cm} {hs : Nat → Hd} {c0 c : Cx} (H : vS B L hs c0 c) : ∀ {l : List KO} {O : List MO}, B.RM l = some O → bL c O = l.map (KO.ob c0 L hs)
 | [], _, h => by cases h; rfl
 | o :: r, O, h => by
  simp only [Bk.RM] at h
  obtain ⟨m, h1, h2⟩ := Option.bind_eq_some_iff.1 h
  obtain ⟨O', h3, rfl⟩ := Option.map_eq_some_iff.1 h2
  have := H.RM h3
  unfold bL at this ⊢
  rw [List.map_cons, List.map_cons, this, H.obj h1]
def etaP (n wl nh : Nat) (η hs : Nat → Hd) : Nat → Hd := fun y => bif Nat.blt y (n + wl) then η y else hs (nh + (y - (n + wl)))
theorem V7 {n wl nh : Nat} {η hs : Nat → Hd} {y : Nat} (h : y < n) : etaP n wl nh η hs y = η y := by
 have : Nat.blt y (n + wl) = true := by simp only [Nat.blt_eq]; omega
 simp only [etaP, this, cond_true]
theorem bk_say {p : Ac} {c0 : Cx} (hw : WF c0.n c0.env) {s : vQ p.ts} {Ds : List cm} (hDs : OQ P p.ts s p.wl = some Ds) (hone : (Ds.all fun D => D.t.one) = true) {hs : Nat → Hd} (MZ : Kq c0 p hs) :
  vS (p.bk c0.n c0.env) (leaf P p.ts s) hs c0 ⟨c0.n + Ds.length + (p.P8 - p.nh), keyed c0.n (Ck Ds) c0.env, etaP c0.n p.wl.length p.nh c0.η hs⟩ := by
 obtain ⟨l1, l2⟩ := EX hDs
 obtain ⟨w1, w2⟩ := AS hw (es := Ck Ds) Es
 refine ⟨rfl, rfl, ⟨by simp only; omega, w2, fun h hh => V7 hh⟩, fun j q i hi => ?_, fun k y hy => ?_⟩
 ·obtain ⟨_, h8⟩ := Qo hi
  rw [Nat.sub_zero] at h8
  obtain ⟨D, h9, h10⟩ := l2 h8
  exact ⟨D, EV (es := Ck Ds) (by simp [Ck, h9]), h10, List.all_eq_true.1 hone D (List.mem_of_getElem? h9)⟩
 ·unfold Bk.hid at hy
  cases hk : Nat.blt k (p.bk c0.n c0.env).nh with
  | true =>
   rw [hk] at hy
   simp only [cond_true] at hy
   split at hy
   ·rename_i x0 o y' hl
    cases hyn : Nat.blt y' (p.bk c0.n c0.env).n with
    | false => rw [hyn] at hy; cases hy
    | true =>
     rw [hyn] at hy
     simp only [cond_true, Option.some.injEq] at hy
     subst hy
     have XF : Nat.blt y' c0.n = true := hyn
     have hl' : I_ p.Ut k = some (o, y') := hl
     refine ⟨?_, bV XF (by simp only; omega)⟩
     simp only
     rw [V7 (by simpa [Nat.blt_eq] using XF), MZ k o y' hl' XF]
   ·cases hy
  | false =>
   rw [hk] at hy
   simp only [cond_false] at hy
   cases hk2 : Nat.blt k (p.bk c0.n c0.env).P8 with
   | false => rw [hk2] at hy; cases hy
   | true =>
    rw [hk2] at hy
    simp only [cond_true, Option.some.injEq] at hy
    have hy' : c0.n + p.wl.length + (k - p.nh) = y := hy
    have e1 : ¬ k < p.nh := fun h => by
     have h1 : Nat.blt k p.nh = true := by simpa [Nat.blt_eq] using h
     have hk' : Nat.blt k p.nh = false := hk
     rw [h1] at hk'; cases hk'
    have e2 : k < p.P8 := by simpa [Nat.blt_eq] using (show Nat.blt k p.P8 = true from hk2)
    subst hy'
    refine ⟨?_, ?_⟩
    ·have h1 : Nat.blt (c0.n + p.wl.length + (k - p.nh)) (c0.n + p.wl.length) = false := by
      cases hh : Nat.blt (c0.n + p.wl.length + (k - p.nh)) (c0.n + p.wl.length) with
      | false => rfl
      | true => simp only [Nat.blt_eq] at hh; omega
     have e3 : p.nh + (c0.n + p.wl.length + (k - p.nh) - (c0.n + p.wl.length)) = k := by omega
     simp only [etaP, h1, cond_false]
     rw [e3]
    ·show Nat.blt (c0.n + p.wl.length + (k - p.nh)) (c0.n + Ds.length + (p.P8 - p.nh)) = true
     rw [l1]; simp only [Nat.blt_eq]; omega
def Ac.inst (P : Program) [bl P] (p : Ac) (n : Nat) (env : List (Nat × bX)) (s : vQ p.ts) : Option iR :=
 (OQ P p.ts s p.wl).bind fun Ds => bif Ds.all fun D => D.t.one then ((p.bk n env).slots p.slots).bind fun G => ((p.bk n env).RM p.objs).map fun O =>
  ⟨n + Ds.length + (p.P8 - p.nh), keyed n (Ck Ds) env, G, O⟩ else none
theorem Ac.xh {p : Ac} {c0 : Cx} (hw : WF c0.n c0.env) {s : vQ p.ts} {st : iR} (h : p.inst P c0.n c0.env s = some st) {hs : Nat → Hd} (MZ : Kq c0 p hs) :
  ∃ η, dN ⟨st.n, st.env, η⟩ st.G = p.Γ c0 (leaf P p.ts s) hs ∧ bL ⟨st.n, st.env, η⟩ st.O = p.Ω c0 (leaf P p.ts s) hs ∧ WF st.n st.env ∧ Ext c0 ⟨st.n, st.env, η⟩ := by
 obtain ⟨Ds, h1, h2⟩ := Option.bind_eq_some_iff.1 h
 cases hb : Ds.all fun D => D.t.one with
 | false => rw [hb] at h2; cases h2
 | true =>
  rw [hb] at h2
  obtain ⟨G, h3, h4⟩ := Option.bind_eq_some_iff.1 h2
  obtain ⟨O, h5, rfl⟩ := Option.map_eq_some_iff.1 h4
  have jo := bk_say hw h1 hb MZ
  exact ⟨_, jo.slots h3, jo.RM h5, ((AS hw Es).1.le (by simp [Ck])), jo.x⟩
theorem Ac.aay {p : Ac} {c0 : Cx} (hw : WF c0.n c0.env) {s : vQ p.ts} {st : iR} (h : p.inst P c0.n c0.env s = some st) {hs : Nat → Hd} (MZ : Kq c0 p hs) :
  ∃ η, dN ⟨st.n, st.env, η⟩ st.G = p.Γ c0 (leaf P p.ts s) hs ∧ bL ⟨st.n, st.env, η⟩ st.O = p.Ω c0 (leaf P p.ts s) hs ∧ WF st.n st.env ∧ Ext c0 ⟨st.n, st.env, η⟩ ∧
   ∀ k, k < p.P8 - p.nh → η (c0.n + p.wl.length + k) = hs (p.nh + k) ∧ c0.n + p.wl.length + k < st.n := by
 obtain ⟨Ds, h1, h2⟩ := Option.bind_eq_some_iff.1 h
 cases hb : Ds.all fun D => D.t.one with
 | false => rw [hb] at h2; cases h2
 | true =>
  rw [hb] at h2
  obtain ⟨G, h3, h4⟩ := Option.bind_eq_some_iff.1 h2
  obtain ⟨O, h5, rfl⟩ := Option.map_eq_some_iff.1 h4
  have jo := bk_say hw h1 hb MZ
  refine ⟨_, jo.slots h3, jo.RM h5, ((AS hw Es).1.le (by simp [Ck])), jo.x, fun k hk => ⟨?_, ?_⟩⟩
  ·have e1 : Nat.blt (c0.n + p.wl.length + k) (c0.n + p.wl.length) = false := by
    cases hh : Nat.blt (c0.n + p.wl.length + k) (c0.n + p.wl.length) with
    | false => rfl
    | true => simp only [Nat.blt_eq] at hh; omega
   have e2 : c0.n + p.wl.length + k - (c0.n + p.wl.length) = k := by omega
   simp only [etaP, e1, cond_false, e2]
  ·have := (EX h1).1
   simp only; omega
def LB (P : Program) [bl P] (ts : List Ty) (n0 : Nat) (nH : List (Nat × bX)) (n : Nat) (env : List (Nat × bX)) (G : List (Nat × Sh)) : Mt → List (Nat × (Bool × List KA)) → Option Mt
 | M, [] => some M
 | M, (t, k) :: r => (y7 G t).bind fun s => (mtV P ts true n0 nH n env M k s).bind fun M => LB P ts n0 nH n env G M r
theorem My {c0 : Cx} {ts : List Ty} : ∀ {l : List (Nat × (Bool × List KA))} {M M' : Mt}, LB P ts c0.n c0.env n env G M l = some M' →
  Mt.Le M M' ∧ ∀ {L : Nat → Nat → Option cm} {hs η : Nat → Hd}, Ext c0 ⟨n, env, η⟩ → vR L hs η M' → Pg (dN ⟨n, env, η⟩ G) (l.map fun x => (x.1, GO c0 L hs x.2))
 | [], M, M', h => by cases h; exact ⟨.refl _, fun _ _ => trivial⟩
 | (t, k) :: r, M, M', h => by
  simp only [LB] at h
  obtain ⟨s, h0, h⟩ := Option.bind_eq_some_iff.1 h
  obtain ⟨M1, h1, h2⟩ := Option.bind_eq_some_iff.1 h
  obtain ⟨h3, h4⟩ := ZX h1
  obtain ⟨h5, h6⟩ := My h2
  refine ⟨h3.trans h5, fun hx hs => ⟨?_, h6 hx hs⟩⟩
  rw [iw, h0]
  show some _ = some _
  rw [(h4 hx (hs.le h5)).2 rfl]
def JF (P : Program) [bl P] (ts : List Ty) (n0 : Nat) (nH : List (Nat × bX)) (n : Nat) (env : List (Nat × bX)) (O : List MO) : Mt → List KO → Option Mt
 | M, [] => some M
 | M, .dead :: os => JF P ts n0 nH n env O M os
 | M, o :: os => (mtO P ts n0 nH n env O M o).bind fun M => JF P ts n0 nH n env O M os
def EP (M : Mt) (len : Nat) : List KO → Option (List Nat)
 | [] => some []
 | .dead :: os => (EP M len os).map (len :: ·)
 | o :: os => (o.key.bind (I_ M.om)).bind fun x => (EP M len os).map (x.1 :: ·)
def uU (len : Nat) (l : List Nat) : List Nat := l.filter fun i => !Nat.beq i len
theorem JE {c0 : Cx} {ts : List Ty} : ∀ {os : List KO} {M M' : Mt}, JF P ts c0.n c0.env n env O M os = some M' →
  Mt.Le M M' ∧ ∀ {is : List Nat}, EP M' O.length os = some is → is.length = os.length ∧ ∀ {L : Nat → Nat → Option cm} {hs η : Nat → Hd}, Ext c0 ⟨n, env, η⟩ → vR L hs η M' →
   ∀ (i : Nat) (p : Nat) (o : KO), is[i]? = some p → os[i]? = some o → (bL ⟨n, env, η⟩ O ++ [Dc.dead])[p]? = some (o.ob c0 L hs) ∧ (p = O.length → o = .dead)
 | [], M, M', h => by cases h; exact ⟨.refl _, fun hp => by cases hp; exact ⟨rfl, fun _ _ i p o h => by simp at h⟩⟩
 | o :: os, M, M', h => by
  by_cases ho : o = .dead
  ·subst ho
   simp only [JF] at h
   obtain ⟨h5, h6⟩ := JE h
   refine ⟨h5, fun {is} hp => ?_⟩
   simp only [EP] at hp
   obtain ⟨is', hp', rfl⟩ := Option.map_eq_some_iff.1 hp
   obtain ⟨h7, h9⟩ := h6 hp'
   refine ⟨by simp [h7], fun hx jo i q o' hq ho' => ?_⟩
   cases i with
   | zero =>
    simp only [List.getElem?_cons_zero, Option.some.injEq] at hq ho'
    subst hq; subst ho'
    refine ⟨?_, fun _ => rfl⟩
    rw [List.getElem?_append_right (by simp [bL])]
    simp [bL, KO.ob]
   | succ i => exact h9 hx jo i q o' (by simpa using hq) (by simpa using ho')
  ·have h : (mtO P ts c0.n c0.env n env O M o).bind (fun M => JF P ts c0.n c0.env n env O M os) = some M' := by
    cases o <;> first | exact h | exact (ho rfl).elim
   obtain ⟨M1, h1, h2⟩ := Option.bind_eq_some_iff.1 h
   obtain ⟨h3, k, p, x, hk, hm, hlt, hb, p6⟩ := Qa h1
   obtain ⟨h5, h6⟩ := JE h2
   refine ⟨h3.trans h5, fun {is} hp => ?_⟩
   have hp : (o.key.bind (I_ M'.om)).bind (fun x => (EP M' O.length os).map (x.1 :: ·)) = some is := by
    cases o <;> first | exact hp | exact (ho rfl).elim
   simp only [hk, Option.bind_some, h5.o _ _ (h3.o _ _ hm)] at hp
   obtain ⟨is', hp', rfl⟩ := Option.map_eq_some_iff.1 hp
   obtain ⟨h7, h9⟩ := h6 hp'
   refine ⟨by simp [h7], fun hx jo i q o' hq ho' => ?_⟩
   cases i with
   | zero =>
    simp only [List.getElem?_cons_zero, Option.some.injEq] at hq ho'
    subst hq; subst ho'
    refine ⟨?_, fun e => by omega⟩
    rw [List.getElem?_append_left (by simpa [bL] using hlt)]
    exact p6 hx (jo.le h5)
   | succ i => exact h9 hx jo i q o' (by simpa using hq) (by simpa using ho')
theorem HW : ∀ {is : List Nat} {os Ω : List OB} {len : Nat}, is.length = os.length → mC (uU len is) = true → (∀ (i p : Nat) (o : OB), is[i]? = some p → os[i]? = some o → Ω[p]? = some o ∧ (p = len → o = Dc.dead)) → wQ Ω is os
 | [], [], _, _, _, _, _ => trivial
 | [], _ :: _, _, _, h, _, _ => by simp at h
 | _ :: _, [], _, _, h, _, _ => by simp at h
 | p :: is, o :: os, Ω, len, hl, hn, h => by
  obtain ⟨h1, h2⟩ := h 0 p o rfl rfl
  refine ⟨h1, ?_⟩
  by_cases e : p = len
  ·subst e
   have hd := h2 rfl
   subst hd
   have hs : Ω.set p Dc.dead = Ω := L5 h1
   rw [hs]
   refine HW (len := p) (by simpa using hl) ?_ fun i q o' hq ho' => h (i + 1) q o' (by simpa using hq) (by simpa using ho')
   simpa [uU] using hn
  ·have hlp : uU len (p :: is) = p :: uU len is := by simp [uU, wz e]
   rw [hlp] at hn
   simp only [mC, Bool.and_eq_true, Bool.not_eq_true'] at hn
   refine HW (len := len) (by simpa using hl) hn.2 fun i q o' hq ho' => ?_
   obtain ⟨h3, h4⟩ := h (i + 1) q o' (by simpa using hq) (by simpa using ho')
   refine ⟨?_, h4⟩
   by_cases e2 : p = q
   ·exfalso
    subst e2
    have : p ∈ uU len is := List.mem_filter.2 ⟨List.mem_of_getElem? hq, by simp [wz e]⟩
    rw [fk.2 this] at hn; cases hn.1
   ·rw [List.getElem?_set_ne e2]; exact h3
def Ac.read (P : Program) [bl P] (p : Ac) (n0 : Nat) (nH : List (Nat × bX)) (st : iR) : Option (vQ p.ts) :=
 (LB P p.ts n0 nH st.n st.env st.G ⟨[], p.Ut⟩ p.slots).bind fun M0 => (JF P p.ts n0 nH st.n st.env st.O M0 p.objs).bind fun M =>
  (EP M st.O.length p.objs).bind fun is => bif mC (uU st.O.length is) && (p.Ut.all fun x => Nat.blt x.2.2 n0) then M.I9 P p.ts else none
theorem Ac.BN {p : Ac} {c0 : Cx} {st : iR} {s : vQ p.ts} (h : p.read P c0.n c0.env st = some s) {η : Nat → Hd} (hx : Ext c0 ⟨st.n, st.env, η⟩) :
  ∃ hs, Kq c0 p hs ∧ ∀ a w, Sat E N (dN ⟨st.n, st.env, η⟩ st.G) (bL ⟨st.n, st.env, η⟩ st.O) a w → Sat E N (p.Γ c0 (leaf P p.ts s) hs) (p.Ω c0 (leaf P p.ts s) hs) a w := by
 obtain ⟨M0, h1, h⟩ := Option.bind_eq_some_iff.1 h
 obtain ⟨M, h3, h⟩ := Option.bind_eq_some_iff.1 h
 obtain ⟨is, h5, h⟩ := Option.bind_eq_some_iff.1 h
 cases hb : mC (uU st.O.length is) && (p.Ut.all fun x => Nat.blt x.2.2 c0.n) with
 | false => rw [hb] at h; cases h
 | true =>
  rw [hb] at h
  simp only [Bool.and_eq_true] at hb
  obtain ⟨m1, m2⟩ := My h1
  obtain ⟨m3, m4⟩ := JE h3
  obtain ⟨m5, m6⟩ := m4 h5
  have jo := M.say h η
  refine ⟨M.hs η, fun k o x hk hlt => ?_, fun a w hs => ?_⟩
  ·have h7 := m3.o _ _ (m1.o _ _ hk)
   simp only [Mt.hs, h7]
   exact hx.η x (by simpa [Nat.blt_eq] using hlt)
  ·have hΓ := m2 hx (jo.le m3)
   refine (weak is hΓ (HW (len := st.O.length) ?_ hb.1 fun i q o hq ho => ?_)) a w (hs.room 1)
   ·simp [m5, Ac.Ω]
   ·simp only [Ac.Ω, List.getElem?_map] at ho
    obtain ⟨o', ho', rfl⟩ := Option.map_eq_some_iff.1 ho
    obtain ⟨h8, h9⟩ := m6 hx jo i q o' hq ho'
    exact ⟨h8, fun e => by rw [h9 e]; rfl⟩
end Go.Dc
namespace Go.Dc
section
variable [qc] [aq] {E : Env} {N : Nat} {a : Act} {w : World}
theorem Sat.rel {c c' : Cx} {G G' : List (Nat × Sh)} {Ω fE : List OB} (hs : Sat E N (dN c G) Ω a w)
  (hG : ∀ t s', y7 G' t = some s' → ∃ s, y7 G t = some s ∧ ∀ v, (s.rp c).h (fr E Ω) w v → (s'.rp c').h (fr E fE) w v) (hO : ∀ o ∈ fE, o.h (fr E fE) w) (hnd : (ow fE).Nodup) (hsub : ∀ b ∈ ow fE, b ∈ ow Ω) :
  Sat E N (dN c' G') fE a w :=
 ⟨hs.sz, hs.df, fun t φ ht => by
  rw [iw] at ht
  obtain ⟨s', h1, rfl⟩ := Option.map_eq_some_iff.1 ht
  obtain ⟨s, h2, h3⟩ := hG t s' h1
  exact h3 _ (hs.sl t (s.rp c) (by rw [iw, h2]; rfl)), hO, hnd, fun b hb => hs.bd b (hsub b hb), hs.kp, hs.fs⟩
def Sh.map (f : At → At) : Sh → Sh
 | .undef => .undef
 | .vl g l => .vl g (l.map f)
 | .I9 l => .I9 (l.map fun x => (x.1, x.2.map f))
def MO.map (f : At → At) : MO → MO
 | .oc h l => .oc h (l.map f)
 | o => o
def mapG (f : At → At) (G : List (Nat × Sh)) : List (Nat × Sh) := G.map fun x => (x.1, x.2.map f)
def y6 (f : At → At) (O : List MO) : List MO := O.map (MO.map f)
theorem VI {f : At → At} {G : List (Nat × Sh)} {t : Nat} : y7 (mapG f G) t = (y7 G t).map (Sh.map f) := by
 induction G with
 | nil => rfl
 | cons x r ih =>
  simp only [mapG, List.map_cons, y7]
  cases Nat.beq x.1 t with
  | true => rfl
  | false => exact ih
section
variable {c : Cx} {f : At → At} {F F' : FP} (hf : ∀ x v, (x.rp c).h F w v → ((f x).rp c).h F' w v)
include hf
theorem Qc : ∀ {l : List At} {vs : List Value}, bZ F w (l.map (At.rp c)) vs → bZ F' w ((l.map f).map (At.rp c)) vs
 | [], [], _ => trivial
 | x :: l, v :: vs, ⟨h1, h2⟩ => ⟨hf x v h1, Qc h2⟩
 | [], _ :: _, h => h.elim
 | _ :: _, [], h => h.elim
theorem VE {g : Bool} {l : List At} {v : Value} (h : (wS c g l).h F w v) : (wS c g (l.map f)).h F' w v := by
 unfold wS at h ⊢
 cases g with
 | true => obtain ⟨cs, e, h⟩ := h; exact ⟨cs, e, Qc hf h⟩
 | false =>
  cases l with
  | nil => exact h.elim
  | cons x l => exact hf x v h
theorem VF : ∀ {l : List (Bool × List At)} {vs : List Value}, bZ F w (l.map (fun x => wS c x.1 x.2)) vs → bZ F' w ((l.map fun x => (x.1, x.2.map f)).map (fun x => wS c x.1 x.2)) vs
 | [], [], _ => trivial
 | x :: l, v :: vs, ⟨h1, h2⟩ => ⟨VE hf h1, VF h2⟩
 | [], _ :: _, h => h.elim
 | _ :: _, [], h => h.elim
theorem map_sh {s : Sh} {v : Value} (h : (s.rp c).h F w v) : ((s.map f).rp c).h F' w v := by
 cases s with
 | undef => exact h
 | vl g l => exact VE hf h
 | I9 l => obtain ⟨cs, e, h⟩ := h; exact ⟨cs, e, VF hf h⟩
theorem map_oc {h : Nat} {l : List At} (hh : ((MO.oc h l).ob c).h F w) : ((MO.oc h (l.map f)).ob c).h F' w := by
 simp only [MO.ob] at hh ⊢
 cases hb : Nat.blt h c.n with
 | false => rw [hb] at hh; exact hh
 | true =>
  rw [hb] at hh
  obtain ⟨cells, ty, h1, h2⟩ := hh
  exact ⟨cells, ty, h1, Qc hf h2⟩
end
theorem map_S {c : Cx} {f : At → At} {o : MO} : ((o.map f).ob c).S = (o.ob c).S := by
 cases o with
 | oc h l => simp only [MO.map, MO.ob]; cases Nat.blt h c.n <;> rfl
 | _ => rfl
theorem HY {c : Cx} {f : At → At} {O : List MO} : ow (bL c (y6 f O)) = ow (bL c O) := by
 unfold ow bL y6
 induction O with
 | nil => rfl
 | cons o O ih => simp only [List.map_cons, List.flatMap_cons, map_S, ih]
def Ej (h i : Nat) : At → At
 | .own o k => bif Nat.beq k h then .vr i else .own o k
 | x => x
def bX.asF (e : bX) : Bool := match e with
 | ⟨.sl _, _, _⟩ => true
 | _ => false
def Iz (st : iR) (o : Nat) : Option iR := match st.O[o]? with
 | some (.oa h i) => bif Nat.blt h st.n && ((iQ st.env i).map bX.asF).getD false then some ⟨st.n, st.env, mapG (Ej h i) st.G, (y6 (Ej h i) st.O).set o .dead⟩ else none
 | _ => none
theorem xU {c : Cx} {O : List MO} {j : Nat} : bL c (O.set j .dead) = (bL c O).set j Dc.dead := by
 unfold bL; rw [List.map_set]; rfl
theorem frz_ok {st st' : iR} {o : Nat} (h : Iz st o = some st') {η : Nat → Hd} (hs : Sat E N (dN ⟨st.n, st.env, η⟩ st.G) (bL ⟨st.n, st.env, η⟩ st.O) a w) :
  st'.n = st.n ∧ st'.env = st.env ∧ Sat E N (dN ⟨st.n, st.env, η⟩ st'.G) (bL ⟨st.n, st.env, η⟩ st'.O) a w := by
 unfold Iz at h
 split at h
 ·rename_i k i ho
  cases hb : Nat.blt k st.n && ((iQ st.env i).map bX.asF).getD false with
  | false => rw [hb] at h; cases h
  | true =>
   rw [hb] at h; cases h
   refine ⟨rfl, rfl, ?_⟩
   simp only [Bool.and_eq_true] at hb
   obtain ⟨e, he, hF⟩ : ∃ e, iQ st.env i = some e ∧ e.asF = true := by
    have h2 := hb.2
    cases he : iQ st.env i with
    | none => rw [he] at h2; cases h2
    | some e => rw [he] at h2; exact ⟨e, rfl, by simpa using h2⟩
   obtain ⟨X, hj, Uf⟩ : ∃ X, (bL ⟨st.n, st.env, η⟩ st.O)[o]? = some X ∧ ((At.vr i).rp ⟨st.n, st.env, η⟩).h (fr E ((bL ⟨st.n, st.env, η⟩ st.O).set o Dc.dead)) w (η k).hv := by
    unfold bX.asF at hF
    split at hF
    ·rename_i t d s
     have hj : (bL ⟨st.n, st.env, η⟩ st.O)[o]? = some (oa t.rep (η k).hv (η k).S d) := by
      simp only [bL, List.getElem?_map, ho, Option.map_some, MO.ob, he, cm.ob, hb.1, cond_true]
     refine ⟨_, hj, ?_⟩
     simp only [At.rp, he, Ty.one, cond_true]
     exact VY hj hs fun b hb => hs.mine (Sat.me hj hb)
    ·cases hF
   have hfz := hs.freeze hj
   have hlt : o < (bL ⟨st.n, st.env, η⟩ st.O).length := (List.getElem?_eq_some_iff.1 hj).1
   have hfr : fr E (bL ⟨st.n, st.env, η⟩ ((y6 (Ej k i) st.O).set o .dead)) = fr E ((bL ⟨st.n, st.env, η⟩ st.O).set o Dc.dead) := by
    have : ow (bL ⟨st.n, st.env, η⟩ ((y6 (Ej k i) st.O).set o .dead)) = ow ((bL ⟨st.n, st.env, η⟩ st.O).set o Dc.dead) := by
     rw [← xU]
     have e1 : (y6 (Ej k i) st.O).set o .dead = y6 (Ej k i) (st.O.set o .dead) := by unfold y6; rw [List.map_set]; rfl
     rw [e1, HY]
    unfold fr; rw [this]
   have hf : ∀ x v, (x.rp ⟨st.n, st.env, η⟩).h (fr E ((bL ⟨st.n, st.env, η⟩ st.O).set o Dc.dead)) w v → ((Ej k i x).rp ⟨st.n, st.env, η⟩).h (fr E ((bL ⟨st.n, st.env, η⟩ st.O).set o Dc.dead)) w v := by
    intro x v hv
    cases x with
    | own o' k' =>
     simp only [Ej]
     cases hk : Nat.beq k' k with
     | false => exact hv
     | true =>
      obtain rfl := Nat.eq_of_beq_eq_true hk
      simp only [cond_true]
      rw [xT hb.1] at hv
      rw [show v = _ from hv]
      exact Uf
    | _ => exact hv
   refine hfz.rel (fun t' s' ht => ?_) (fun q hq => ?_) ?_ ?_
   ·rw [VI] at ht
    obtain ⟨s0, h1, rfl⟩ := Option.map_eq_some_iff.1 ht
    exact ⟨s0, h1, fun v hv => by rw [hfr]; exact map_sh hf hv⟩
   ·rw [hfr]
    have e1 : (y6 (Ej k i) st.O).set o .dead = y6 (Ej k i) (st.O.set o .dead) := by unfold y6; rw [List.map_set]; rfl
    rw [e1] at hq
    obtain ⟨m, hm, rfl⟩ := List.mem_map.1 hq
    obtain ⟨m0, hm0, rfl⟩ := List.mem_map.1 hm
    have h2 := hfz.ob (m0.ob ⟨st.n, st.env, η⟩) (by rw [← xU]; exact List.mem_map_of_mem hm0)
    cases m0 with
    | oc h l => exact map_oc hf h2
    | dead => exact h2
    | oa h i => exact h2
   ·have e1 : (y6 (Ej k i) st.O).set o .dead = y6 (Ej k i) (st.O.set o .dead) := by unfold y6; rw [List.map_set]; rfl
    rw [e1, HY, xU]; exact hfz.nd
   ·intro b hb'
    have e1 : (y6 (Ej k i) st.O).set o .dead = y6 (Ej k i) (st.O.set o .dead) := by unfold y6; rw [List.map_set]; rfl
    rw [e1, HY, xU] at hb'; exact hb'
 ·cases h
def Gi (st st' : iR) : Prop := st'.n = st.n ∧ st'.env = st.env ∧ ∀ {E : Env} {N : Nat} (η : Nat → Hd) a w, Sat E N (dN ⟨st.n, st.env, η⟩ st.G) (bL ⟨st.n, st.env, η⟩ st.O) a w → Sat E N (dN ⟨st.n, st.env, η⟩ st'.G) (bL ⟨st.n, st.env, η⟩ st'.O) a w
theorem Gi.refl (st : iR) : Gi st st := ⟨rfl, rfl, fun _ _ _ h => h⟩
theorem Gi.trans {a b c : iR} (h : Gi a b) (k : Gi b c) : Gi a c :=
 ⟨k.1.trans h.1, k.2.1.trans h.2.1, fun η x w hs => by have := k.2.2 η x w (by rw [h.1, h.2.1]; exact h.2.2 η x w hs); rwa [h.1, h.2.1] at this⟩
theorem GU {st st' : iR} {o : Nat} (h : Iz st o = some st') : Gi st st' := by
 have hh : st'.n = st.n ∧ st'.env = st.env := by
  unfold Iz at h
  split at h
  ·rename_i k i ho
   cases hb : Nat.blt k st.n && ((iQ st.env i).map bX.asF).getD false with
   | false => rw [hb] at h; cases h
   | true => rw [hb] at h; cases h; exact ⟨rfl, rfl⟩
  ·cases h
 exact ⟨hh.1, hh.2, fun η a w hs => (frz_ok h hs).2.2⟩
def qW : List Nat → iR → Option iR
 | [], st => some st
 | o :: os, st => match st.O[o]? with
  | some .dead => qW os st
  | _ => (Iz st o).bind (qW os)
theorem pq : ∀ {os : List Nat} {st st' : iR}, qW os st = some st' → Gi st st'
 | [], st, st', h => by cases h; exact .refl _
 | o :: os, st, st', h => by
  unfold qW at h
  split at h
  ·exact pq h
  ·obtain ⟨s1, h1, h2⟩ := Option.bind_eq_some_iff.1 h
   exact (GU h1).trans (pq h2)
end
end Go.Dc
namespace Go.Dc
section
variable [qc] [aq] {E : Env} {N : Nat} {a : Act} {w : World}
inductive Loc where
 | slot (t q : Nat)
 | cell (o q : Nat)
def XB : Option At → Bool
 | some .nl => true
 | _ => false
theorem VO {x : Option At} (h : XB x = true) : x = some .nl := by
 unfold XB at h; split at h
 ·rfl
 ·cases h
def Nc (G : List (Nat × Sh)) (O : List MO) (x : At) : Loc → Option (List (Nat × Sh) × List MO)
 | .slot t q => match y7 G t with
  | some (.vl g l) => bif XB l[q]? then some ((t, .vl g (l.set q x)) :: G, O) else none
  | _ => none
 | .cell o q => match O[o]? with
  | some (.oc h l) => bif XB l[q]? then some (G, O.set o (.oc h (l.set q x))) else none
  | _ => none
theorem EG {c : Cx} {x y : At} {F : FP} {w : World} (hxy : ∀ v, (x.rp c).h F w v → (y.rp c).h F w v) : ∀ {l : List At} {vs : List Value} {q : Nat}, bZ F w (l.map (At.rp c)) vs → l[q]? = some x → bZ F w ((l.set q y).map (At.rp c)) vs
 | [], _, q, _, h => by simp at h
 | z :: l, v :: vs, 0, ⟨h1, h2⟩, h => by
  simp only [List.getElem?_cons_zero, Option.some.injEq] at h
  subst h
  exact ⟨hxy v h1, h2⟩
 | z :: l, v :: vs, q + 1, ⟨h1, h2⟩, h => ⟨h1, EG hxy h2 (by simpa using h)⟩
 | _ :: _, [], _, h, _ => h.elim
theorem O2 {c : Cx} {G G' : List (Nat × Sh)} {O O' : List MO} {x : At} {p : Loc} (h : Nc G O x p = some (G', O')) (hx : ∀ F w v, (At.nl.rp c).h F w v → (x.rp c).h F w v)
  (hs : Sat E N (dN c G) (bL c O) a w) : Sat E N (dN c G') (bL c O') a w := by
 cases p with
 | slot t q =>
  simp only [Nc] at h
  split at h
  ·rename_i g l hl
   cases hb : XB l[q]? with
   | false => rw [hb] at h; cases h
   | true =>
    rw [hb] at h
    simp only [cond_true, Option.some.injEq, Prod.mk.injEq] at h
    obtain ⟨rfl, rfl⟩ := h
    have hq := VO hb
    refine hs.rel (fun t' s' ht => ?_) (fun o ho => hs.ob o ho) hs.nd fun b hb => hb
    simp only [y7] at ht
    by_cases e : t = t'
    ·subst e
     simp only [Nat.beq_refl, cond_true, Option.some.injEq] at ht
     subst ht
     refine ⟨_, hl, fun v hv => ?_⟩
     simp only [Sh.rp, wS] at hv ⊢
     cases g with
     | true => obtain ⟨cs, e, hv⟩ := hv; exact ⟨cs, e, EG (fun v => hx _ _ v) hv hq⟩
     | false =>
      cases l with
      | nil => simp at hq
      | cons z l =>
       cases q with
       | zero =>
        simp only [List.getElem?_cons_zero, Option.some.injEq] at hq
        subst hq; exact hx _ _ v hv
       | succ q => exact hv
    ·rw [wz e] at ht; exact ⟨s', ht, fun v hv => hv⟩
  ·cases h
 | cell o q =>
  simp only [Nc] at h
  split at h
  ·rename_i k l hl
   cases hb : XB l[q]? with
   | false => rw [hb] at h; cases h
   | true =>
    rw [hb] at h
    simp only [cond_true, Option.some.injEq, Prod.mk.injEq] at h
    obtain ⟨rfl, rfl⟩ := h
    have hq := VO hb
    have hlt := (List.getElem?_eq_some_iff.1 hl).1
    have jP := hs.ob ((MO.oc k l).ob c) (List.mem_map_of_mem (List.mem_of_getElem? hl))
    have hS : ((MO.oc k (l.set q x)).ob c).S = ((MO.oc k l).ob c).S := by simp only [MO.ob]; cases Nat.blt k c.n <;> rfl
    have how : ow (bL c (O.set o (.oc k (l.set q x)))) = ow (bL c O) := by
     unfold bL
     rw [List.map_set]
     exact DS (by rw [List.getElem?_map, hl]; rfl) hS
    have hfr : fr E (bL c (O.set o (.oc k (l.set q x)))) = fr E (bL c O) := by unfold fr; rw [how]
    refine hs.rel (fun t' s' ht => ⟨s', ht, fun v hv => by rw [hfr]; exact hv⟩) (fun p hp => ?_) (by rw [how]; exact hs.nd) fun b hb => by rw [how] at hb; exact hb
    rw [hfr]
    obtain ⟨m, hm, rfl⟩ := List.mem_map.1 hp
    rcases List.mem_or_eq_of_mem_set hm with h1 | rfl
    ·exact hs.ob _ (List.mem_map_of_mem h1)
    ·simp only [MO.ob] at jP ⊢
     cases uX : Nat.blt k c.n with
     | false => rw [uX] at jP; exact jP
     | true =>
      rw [uX] at jP
      obtain ⟨cells, ty, h1, h2⟩ := jP
      exact ⟨cells, ty, h1, EG (fun v => hx _ _ v) h2 hq⟩
  ·cases h
def nlSl (t : Ty) (p : Loc) (st : iR) : Option iR := (Nc st.G st.O (.vr st.n) p).map fun r => ⟨st.n + 1, (st.n, ⟨.sl t, [], none⟩) :: st.env, r.1, r.2⟩
def nlOwn (t : Ty) (p : Loc) (st : iR) : Option iR := (Nc st.G (st.O ++ [.oa (st.n + 1) st.n]) (.own st.O.length (st.n + 1)) p).map fun r => ⟨st.n + 2, (st.n, ⟨.sl t, [], none⟩) :: st.env, r.1, r.2⟩
theorem nlSl_ok {t : Ty} {p : Loc} {st st' : iR} (hw : WF st.n st.env) (h : nlSl t p st = some st') {η : Nat → Hd} (hs : Sat E N (dN ⟨st.n, st.env, η⟩ st.G) (bL ⟨st.n, st.env, η⟩ st.O) a w) :
  WF st'.n st'.env ∧ Ext ⟨st.n, st.env, η⟩ ⟨st'.n, st'.env, η⟩ ∧ Sat E N (dN ⟨st'.n, st'.env, η⟩ st'.G) (bL ⟨st'.n, st'.env, η⟩ st'.O) a w := by
 obtain ⟨⟨G', O'⟩, h1, rfl⟩ := Option.map_eq_some_iff.1 h
 have hw' : WF (st.n + 1) ((st.n, ⟨.sl t, [], none⟩) :: st.env) := hw.cons (.none rfl)
 have hx : Ext ⟨st.n, st.env, η⟩ ⟨st.n + 1, (st.n, ⟨.sl t, [], none⟩) :: st.env, η⟩ := ⟨by simp, fun i e he => by
  have := hw.lt i e he
  simp only [bM]; rw [if_neg (by omega)]; exact he, fun _ _ => rfl⟩
 refine ⟨hw', hx, O2 h1 (fun F w v hv => ?_) (hs.mext hx)⟩
 simp only [At.rp, bM, if_true, Ty.one, cond_true]
 exact BX hv
theorem ZQ {t : Ty} {p : Loc} {st st' : iR} (hw : WF st.n st.env) (h : nlOwn t p st = some st') {η : Nat → Hd} :
  WF st'.n st'.env ∧ ∃ lY, Ext ⟨st.n, st.env, η⟩ ⟨st'.n, st'.env, lY⟩ ∧ ∀ a w, Sat E N (dN ⟨st.n, st.env, η⟩ st.G) (bL ⟨st.n, st.env, η⟩ st.O) a w → Sat E N (dN ⟨st'.n, st'.env, lY⟩ st'.G) (bL ⟨st'.n, st'.env, lY⟩ st'.O) a w := by
 obtain ⟨⟨G', O'⟩, h1, rfl⟩ := Option.map_eq_some_iff.1 h
 have hw' : WF (st.n + 2) ((st.n, ⟨.sl t, [], none⟩) :: st.env) := (hw.cons (.none rfl)).le (by omega)
 let lY : Nat → Hd := fun y => bif Nat.beq y (st.n + 1) then ⟨.slice none 0 0, [], 0, rfl⟩ else η y
 have hη : lY (st.n + 1) = ⟨.slice none 0 0, [], 0, rfl⟩ := by simp [lY]
 have hx : Ext ⟨st.n, st.env, η⟩ ⟨st.n + 2, (st.n, ⟨.sl t, [], none⟩) :: st.env, lY⟩ := ⟨by simp, fun i e he => by
  have := hw.lt i e he
  simp only [bM]; rw [if_neg (by omega)]; exact he, fun h hh => by simp only [lY]; rw [wz (by simp only at hh; omega)]; rfl⟩
 have hb : Nat.blt (st.n + 1) (st.n + 2) = true := by simp [Nat.blt_eq]
 refine ⟨hw', lY, hx, fun a w hs => O2 h1 (fun F w v hv => ?_) ?_⟩
 ·rw [xT (c := ⟨st.n + 2, _, lY⟩) hb]
  simp only [hη]
  exact hv
 ·have h2 := LA t.rep a w (hs.mext hx)
  have e : bL ⟨st.n + 2, (st.n, ⟨.sl t, [], none⟩) :: st.env, lY⟩ (st.O ++ [.oa (st.n + 1) st.n]) = bL ⟨st.n + 2, (st.n, ⟨.sl t, [], none⟩) :: st.env, lY⟩ st.O ++ [oa t.rep (.slice none 0 0) [] ([] : List t.den)] := by
   unfold bL
   rw [List.map_append]
   congr 1
   simp only [List.map_cons, List.map_nil, MO.ob, bM, if_true, Option.bind_some, cm.ob, bX.QG, hb, cond_true, hη]
  rw [e]; exact h2
end
end Go.Dc
namespace Go.Dc
variable [aq] {R : Type} {P : Program} [bl P] {E : Env} {N : Nat} {K : KT R} {m : Option R} {op : Op} {ty : TypeId} {n : Nat} {env : List (Nat × bX)} {G : List (Nat × Sh)} {O : List MO}
def Y2 (P : Program) [bl P] (n : Nat) (env : List (Nat × bX)) (G : List (Nat × Sh)) (t : TypeId) (x i : Operand) : Ask dV := match P.underlying t with
 | some .string => Ask.of (opS env G x) fun s => Ask.of (P3 env G i) fun ix => .bind (Y0 s ix.2) fun y => .ret (iB n (.int .u8) y)
 | _ => .fail
theorem Y1 (hw : WF n env) {t : TypeId} {x i : Operand} : aC (aM P E N (.index t x i) ty n env G O) (Y2 P n env G t x i) := by
 unfold Y2
 split
 ·rename_i hu
  exact aC.of fun s hs => aC.of fun ix hi => fun y hy => aM.dat hw rfl fun η => (r_sidx hy hu (Gz hs) (mB hi))
 ·trivial
end Go.Dc
namespace Go.Dc
variable [aq] {R : Type} {P : Program} [bl P] {E : Env} {N : Nat} {K : KT R} {m : Option R} {op : Op} {ty : TypeId} {n : Nat} {env : List (Nat × bX)} {G : List (Nat × Sh)} {O : List MO}
instance : DecidableEq Ty.str.den := inferInstanceAs (DecidableEq ByteArray)
theorem aM.newM (hw : WF n env) {k v : Ty} {d : List (k.den × v.den)} (h : ∀ η, St P E N op ty (dN ⟨n, env, η⟩ G) (bL ⟨n, env, η⟩ O) [] (fun b : Nat => pv (.map (some b))) (fun b => bL ⟨n, env, η⟩ O ++ [om k.rep v.rep b d])) :
  aM P E N op ty n env G O ⟨.vl false [.mp O.length (n + 1)], [⟨.mp k v, d, none⟩], 1, [], [.oa (n + 1) n]⟩ := by
 have hsrc : ∀ e ∈ [(⟨.mp k v, d, none⟩ : bX)], gR env e := fun e he => by rw [List.mem_singleton.1 he]; exact .none rfl
 refine ⟨hsrc, (fun _ _ h => by cases h), fun η => ?_⟩
 have h := h η
 refine h.to' fun b a w hs => ?_
 refine ⟨⟨Fb η (n + 1) ⟨.bool true, [], b, rfl⟩, fun k hk => qx (by omega)⟩, ?_, ?_⟩
 ·simp only [dV.O', wU]
  refine H7 (aM.ext hw (r := ⟨.vl false [.mp O.length (n + 1)], [⟨.mp k v, d, none⟩], 1, [], [.oa (n + 1) n]⟩) hsrc ⟨Fb η (n + 1) ⟨.bool true, [], b, rfl⟩, fun k hk => qx (by omega)⟩) ?_ hs
  simp only [MO.ob, dV.bC, dV.env', dV.n', keyed, bM, if_true, cm.ob, qy]
  rw [show Nat.blt (n + 1) (n + [(⟨.mp k v, d, none⟩ : bX)].length + 1) = true from by simp [Nat.blt_eq]]
  rfl
 ·simp only [Sh.rp, wS, cond_false, List.map_cons, List.headD_cons, At.rp, dV.bC, dV.n', qy]
  rw [show Nat.blt (n + 1) (n + [(⟨.mp k v, d, none⟩ : bX)].length + 1) = true from by simp [Nat.blt_eq]]
  rfl
theorem aM.setM (hw : WF n env) {k v : Ty} {d : List (k.den × v.den)} {j x : Nat} {X : Type} [Inhabited X] (hk : Nat.blt x n = true)
  (h : ∀ η, St P E N op ty (dN ⟨n, env, η⟩ G) (bL ⟨n, env, η⟩ O) [j] (fun _ : X => pv Go.undef) (fun _ => (bL ⟨n, env, η⟩ O).set j (om k.rep v.rep (η x).b d))) :
  aM P E N op ty n env G O ⟨.undef, [⟨.mp k v, d, none⟩], 0, [(j, .oa x n)], []⟩ := by
 have hsrc : ∀ e ∈ [(⟨.mp k v, d, none⟩ : bX)], gR env e := fun e he => by rw [List.mem_singleton.1 he]; exact .none rfl
 refine ⟨hsrc, (fun _ h => by cases h), fun η => ?_⟩
 have h := h η
 refine h.to' fun y a w hs => ?_
 refine ⟨⟨η, fun _ _ => rfl⟩, ?_, rfl⟩
 simp only [dV.O', wU, List.append_nil]
 refine BV (aM.ext hw (r := ⟨.undef, [⟨.mp k v, d, none⟩], 0, [(j, .oa x n)], []⟩) hsrc ⟨η, fun _ _ => rfl⟩) ?_ hs
 simp only [MO.ob, dV.bC, dV.n', dV.env', keyed, bM, if_true, cm.ob]
 rw [bV hk (show n ≤ n + [(⟨.mp k v, d, none⟩ : bX)].length + 0 from by omega)]
 rfl
def Z9 (P : Program) [bl P] (t : TypeId) : Option (TypeId × TypeId × Ty) := match P.underlying t with
 | some (.map kt et) => match P.underlying kt with
  | some .string => (codeT P et).map fun v => (kt, et, v)
  | _ => none
 | _ => none
theorem VG {t kt et : TypeId} {v : Ty} (h : Z9 P t = some (kt, et, v)) : P.underlying t = some (.map kt et) ∧ P.underlying kt = some .string ∧ codeT P et = some v := by
 unfold Z9 at h
 split at h
 ·rename_i kt' et' h1
  split at h
  ·rename_i h2
   obtain ⟨v', h3, h4⟩ := Option.map_eq_some_iff.1 h
   cases h4
   exact ⟨h1, h2, h3⟩
  ·cases h
 ·cases h
def Z1 (P : Program) [bl P] (n : Nat) (O : List MO) (t : TypeId) : Ask dV := Ask.of (Z9 P t) fun q => .ret ⟨.vl false [.mp O.length (n + 1)], [⟨.mp .str q.2.2, [], none⟩], 1, [], [.oa (n + 1) n]⟩
theorem Xk (hw : WF n env) {t : TypeId} : aC (aM P E N (.makeMap t none) ty n env G O) (Z1 P n O t) :=
 aC.of fun q _ => aM.newM hw fun η => Lu _ _
def mapA (n : Nat) (env : List (Nat × bX)) (O : List MO) (o h : Nat) (v : Ty) : Option (List (ByteArray × v.den)) := match X6 n env O o h with
 | some (_, ⟨.mp .str v', d⟩) => if e : v' = v then some (e ▸ d) else none
 | _ => none
theorem VH {o h : Nat} {v : Ty} {d : List (ByteArray × v.den)} (hh : mapA n env O o h v = some d) : Nat.blt h n = true ∧ o < O.length ∧ ∀ η, (bL ⟨n, env, η⟩ O)[o]? = some (om rS v.rep (η h).b d) := by
 unfold mapA at hh
 split at hh
 ·rename_i i v' d' h1
  split at hh
  ·rename_i e
   subst e
   cases hh
   obtain ⟨h2, h3, _, h4⟩ := LK h1
   exact ⟨h2, h3, h4⟩
  ·cases hh
 ·cases hh
theorem mp_rp {c : Cx} {o h : Nat} (hb : Nat.blt h c.n = true) : (At.mp o h).rp c = pv (.map (some (c.η h).b)) := by simp only [At.rp, hb, cond_true]
def oneD (env : List (Nat × bX)) (G : List (Nat × Sh)) (v : Ty) (x : Operand) : Option v.den := (opD env G x).bind fun D => if e : D.t = v then some (e ▸ D.d) else none
theorem oneD_rp {v : Ty} {x : Operand} {y : v.den} {η : Nat → Hd} (h : oneD env G v x = some y) : dw (dN ⟨n, env, η⟩ G) x = some (sh v.rep y) := by
 obtain ⟨D, h1, h2⟩ := Option.bind_eq_some_iff.1 h
 split at h2
 ·rename_i e
  subst e
  cases h2
  exact Mu h1
 ·cases h2
def mputE (P : Program) [bl P] (n : Nat) (env : List (Nat × bX)) (G : List (Nat × Sh)) (O : List MO) (t : TypeId) (x k v : Operand) : Ask dV := Ask.of (Z9 P t) fun q => Ask.of (CA G x) fun a => match a with
 | .mp o h => Ask.of (mapA n env O o h q.2.2) fun d => Ask.of (opS env G k) fun s => Ask.of (oneD env G q.2.2 v) fun y => .ret ⟨.undef, [⟨.mp .str q.2.2, iq d s y, none⟩], 0, [(o, .oa h n)], []⟩
 | _ => .fail
theorem ZY (hw : WF n env) {t : TypeId} {x k v : Operand} : aC (aM P E N (.mapUpdate t x k v) ty n env G O) (mputE P n env G O t x k v) :=
 aC.of fun q hq => aC.of fun a ha => by
  obtain ⟨kt, et, vt⟩ := q
  obtain ⟨h1, h2, _⟩ := VG hq
  split
  ·rename_i o h
   refine aC.of fun d hd => aC.of fun s hs => aC.of fun y hy => ?_
   obtain ⟨hb, hlt, hj⟩ := VH hd
   refine aM.setM (k := .str) (v := vt) (X := Unit) hw hb fun η => L8 h1 (RW h2) ?_ (hj η) (Gz hs) (oneD_rp hy)
   have h3 := fB (c := ⟨n, env, η⟩) ha
   rw [mp_rp (c := ⟨n, env, η⟩) hb] at h3
   exact h3
  ·trivial
def zOne (v : Ty) (z : Value) : Option v.den := match v, z with
 | .int k, .int k' i => if k = k' then some i else none
 | .bool, .bool b => some b
 | .str, .string s => some s
 | _, _ => none
theorem zOne_ok {v : Ty} {z : Value} {d : v.den} (h : zOne v z = some d) (F : FP) (w : World) : (sh v.rep d).h F w z := by
 unfold zOne at h
 split at h
 ·split at h
  ·rename_i e
   subst e
   cases h; rfl
  ·cases h
 ·cases h; rfl
 ·cases h; rfl
 ·cases h
theorem Yx {et : TypeId} {z : Value} (h : ((P.info? et).bind (·.zero)) = some z) (w : World) : (zeroValue et).run P w = .ok z w := by
 obtain ⟨i, h1, h2⟩ := Option.bind_eq_some_iff.1 h
 simp [zeroValue, typeInfo, h1, h2]
def mgetE (P : Program) [bl P] (n : Nat) (env : List (Nat × bX)) (G : List (Nat × Sh)) (O : List MO) (t : TypeId) (x k : Operand) : Ask dV := Ask.of (Z9 P t) fun q => match x with
 | .tmp x => Ask.of (CA G (.tmp x)) fun a => match a with
  | .mp o h => Ask.of (mapA n env O o h q.2.2) fun d => Ask.of (opS env G k) fun s => Ask.of (((P.info? q.2.1).bind (·.zero)).bind (zOne q.2.2)) fun z => Ask.when q.2.2.one
    (.ret ⟨.I9 [(false, [.vr n]), (false, [.vr (n + 1)])], [⟨q.2.2, cF d s z, none⟩, ⟨.bool, sU d s, none⟩], 0, [], []⟩)
  | _ => .fail
 | _ => .fail
theorem Z7 (hw : WF n env) {t : TypeId} {x k : Operand} : aC (aM P E N (.lookup t x k true) ty n env G O) (mgetE P n env G O t x k) :=
 aC.of fun q hq => by
  obtain ⟨kt, et, vt⟩ := q
  obtain ⟨h1, h2, _⟩ := VG hq
  split
  ·rename_i x
   refine aC.of fun a ha => ?_
   split
   ·rename_i o h
    refine aC.of fun d hd => aC.of fun s hs => aC.of fun z hz => aC.when fun h1v => ?_
    obtain ⟨hb, hlt, hj⟩ := VH hd
    obtain ⟨zv, z1, z2⟩ := Option.bind_eq_some_iff.1 hz
    have hx : ∀ η, dw (dN ⟨n, env, η⟩ G) (.tmp x) = some (pv (.map (some (η h).b))) := fun η => by
     have h3 := fB (c := ⟨n, env, η⟩) ha
     rw [mp_rp (c := ⟨n, env, η⟩) hb] at h3
     exact h3
    have hsrc : ∀ e ∈ [(⟨vt, cF d s z, none⟩ : bX), ⟨.bool, sU d s, none⟩], gR env e := fun e he => by
     rcases List.mem_cons.1 he with e1 | e1
     ·rw [e1]; exact .none rfl
     ·rw [List.mem_singleton.1 e1]; exact .none rfl
    refine aM.rdJ (J := [o]) hw hsrc (fun j hj' => ?_) fun η => ?_
    ·rw [List.mem_singleton.1 hj']
     have e0 : y7 G x = some (.vl false [.mp o h]) := by
      unfold CA OI at ha
      split at ha
      ·rename_i a e1; cases ha; exact e1
      ·cases ha
     show o ∈ Wr (y7 G x)
     rw [e0]
     exact List.mem_singleton.2 rfl
    ·have h5 := r_mget (P := P) (E := E) (N := N) (ty := ty) h1 (RW h2) ⟨zv, Yx z1, zOne_ok z2⟩ (hx η) (hj η) (Gz hs)
     have e1 : (Sh.I9 [(false, [At.vr n]), (false, [.vr (n + 1)])]).rp ⟨n + [(⟨vt, cF d s z, none⟩ : bX), ⟨.bool, sU d s, none⟩].length, keyed n [⟨vt, cF d s z, none⟩, ⟨.bool, sU d s, none⟩] env, η⟩ = I9 [sh vt.rep (cF d s z), bv (sU d s)] := by
      have l1 : iQ (keyed n [(⟨vt, cF d s z, none⟩ : bX), ⟨.bool, sU d s, none⟩] env) n = some ⟨vt, cF d s z, none⟩ := by simp only [keyed, bM]; rw [if_neg (by omega), if_pos trivial]
      have l2 : iQ (keyed n [(⟨vt, cF d s z, none⟩ : bX), ⟨.bool, sU d s, none⟩] env) (n + 1) = some ⟨.bool, sU d s, none⟩ := by simp only [keyed, bM]; rw [if_pos trivial]
      simp only [Sh.rp, List.map_cons, List.map_nil, wS, cond_false, List.headD_cons, At.rp, l1, l2, h1v, cond_true]
      rfl
     rw [e1]; exact h5
   ·trivial
  ·trivial
end Go.Dc
namespace Go.Dc
section
variable [aq] {P : Program} {E : Env} {N : Nat} {Γ : List (Nat × RP)} {Ω : List OB} {ty : TypeId}
theorem Wq {F : FP} {w : World} {ζ : RP} {v : Value} (h : ζ.h F w v) : ∀ n, bZ F w (List.replicate n ζ) (List.replicate n v)
 | 0 => trivial
 | n + 1 => ⟨h, Wq h n⟩
theorem V4 {p1 p2 : Nat → Option (Nat × Nat)} (hp : ∀ i x, p1 i = some x → p2 i = some x) : ∀ {rs : List (Nat × List RP)} {k : Nat}, CI p1 k rs = true → CI p2 k rs = true ∧ ∀ zs, zY p2 zs rs = zY p1 zs rs
 | [], _, _ => ⟨rfl, fun _ => rfl⟩
 | (i, cs) :: r, k, h => by
  cases h1 : p1 i with
  | none => simp only [CI, h1] at h; cases h
  | some x =>
   obtain ⟨off, sz⟩ := x
   simp only [CI, h1, Bool.and_eq_true] at h
   obtain ⟨h2, h3⟩ := V4 hp h.2
   refine ⟨?_, fun zs => ?_⟩
   ·simp only [CI, hp i _ h1, h.1, h2, Bool.and_self]
   ·simp only [zY, hp i _ h1, h1]; exact h3 _
theorem WS {t e : TypeId} {n : Nat} {ζ : RP} {ps : List (Nat × Operand)} {rs : List (Nat × List RP)} {out : List RP} (hu : P.underlying t = some (.slice e)) (hs : ∀ w, (Go.sizeOf e).run P w = .ok 1 w)
  (hz : ∃ i z, P.info? e = some i ∧ i.zero = some z ∧ ∀ F w, bZ F w [ζ] z.cells.toList) (h0 : 0 < n) (hn : n ≤ 64)
  (hp : E9 E N Γ Ω ps rs) (hfit : CI (fun i => some (i * 1, 1)) n rs = true) (ho : zY (fun i => some (i * 1, 1)) (List.replicate n ζ) rs = out) :
  St P E N (.buildSlice t n ps.toArray) ty Γ Ω [] (fun b : Nat => pv (.slice (some ⟨b, 0, none⟩) n n)) (fun b => Ω ++ [oc b out]) := by
 intro a w oK
 obtain ⟨i, z, hi, Yp, hzs⟩ := hz
 have hzv : (zeroValue e).run P w = .ok z w := by simp [zeroValue, typeInfo, hi, Yp]
 obtain ⟨v0, hv0⟩ : ∃ v0, z.cells.toList = [v0] := by
  have := hzs (fr E Ω) w
  match hh : z.cells.toList, this with
  | [v], _ => exact ⟨v, rfl⟩
  | [], h => exact h.elim
  | _ :: _ :: _, h => exact h.2.elim
 have hzc : z.cells = #[v0] := by rw [← Array.toArray_toList (xs := z.cells), hv0]
 have hcells : ((Array.range (n * 1)).map fun j => z.cells[j % z.cells.size]!) = (List.replicate n v0).toArray := by
  rw [hzc]
  apply Array.ext
  ·simp
  ·intro j h1 h2; simp [Nat.mod_one]
 have hall : bZ (fr E Ω) w (List.replicate n ζ) (List.replicate n v0).toArray.toList := by
  have := hzs (fr E Ω) w
  rw [hv0] at this
  exact Wq this.1 n
 obtain ⟨h1, h2⟩ := hp.all oK
 obtain ⟨cells, Iu, hout⟩ := Qu (F := fr E Ω) (w := w) (place := fun i => some (i * 1, 1)) a.eval h1 h2 hall (by rw [List.length_replicate]; exact hfit)
 rw [ho] at hout
 refine iU (v := .slice (some ⟨w.heap.size, 0, none⟩) n n) (w' := w.alloc (.cells cells e)) (fun o ho ht => ?_) ⟨w.heap.size, oK.newVar hout, rfl, by simp, fun b hb _ => bF w _ hb, BU (by simp [oc])⟩
 have hh : ¬ 16777216 < n := by omega
 have hn0 : ¬ n = 0 := by omega
 rw [← hcells] at Iu
 simp [execOp, ho, Instr.buildSlice, run_underlying hu, hs, hh, hn0, hzv] at Iu ⊢
 simp [Iu, newRow]
theorem W9 {t e : TypeId} {x i : Operand} {b c : Nat} {k : IntKind} {m : Int} (h0 : 0 ≤ m) (h1 : m < (c : Int)) (hu : P.underlying t = some (.slice e)) (hs : ∀ w, (Go.sizeOf e).run P w = .ok 1 w)
  (hx : dw Γ x = some (pv (.slice (some ⟨b, 0, none⟩) c c))) (hi : dw Γ i = some (iv k m)) : Rd P E N (.indexAddr t x i) ty Γ Ω [] (pv (Dc.ptr b m.toNat)) := .mk fun a w hs' => by
 have Ef : a.eval x = .slice (some ⟨b, 0, none⟩) c c := hs'.op hx
 have h2 : a.eval i = .int k m := hs'.op hi
 refine ⟨_, rfl, fun w' o ho _ => ?_⟩
 simp [execOp, ho, Ef, h2, Instr.indexAt, run_underlying hu, asIntOf, hs, h0, h1, ew, Dc.ptr]
end
variable [aq] {R : Type} {P : Program} [bl P] {E : Env} {N : Nat} {op : Op} {ty : TypeId} {n : Nat} {env : List (Nat × bX)} {G : List (Nat × Sh)} {O : List MO}
theorem aM.newF (hw : WF n env) {l : List At} {k : Nat} (h : ∀ η, St P E N op ty (dN ⟨n, env, η⟩ G) (bL ⟨n, env, η⟩ O) [] (fun b : Nat => pv (.slice (some ⟨b, 0, none⟩) k k)) (fun b => bL ⟨n, env, η⟩ O ++ [oc b (l.map (At.rp ⟨n, env, η⟩))])) :
  aM P E N op ty n env G O ⟨.vl false [.fs O.length n k], [], 1, [], [.oc n l]⟩ := by
 refine ⟨fun e he => by simp at he, (fun _ _ h => by cases h), fun η => ?_⟩
 refine (h η).to' fun b a w hs => ?_
 have hx := aM.ext hw (r := ⟨.vl false [.fs O.length n k], [], 1, [], [.oc n l]⟩) (fun e he => by simp at he) ⟨Fb η n ⟨.bool true, [], b, rfl⟩, fun k hk => qx hk⟩
 have hn : Nat.blt n (n + 0 + 1) = true := by simp [Nat.blt_eq]
 refine ⟨⟨Fb η n ⟨.bool true, [], b, rfl⟩, fun k hk => qx hk⟩, ?_, ?_⟩
 ·simp only [dV.O', wU]
  refine H7 hx ?_ hs
  obtain ⟨cells, ty', _, hl⟩ := hs.MB (o := oc b (l.map (At.rp ⟨n, env, η⟩))) (by simp)
  have h1 := Ns hx hl
  simp only [MO.ob, dV.bC, dV.n', List.length_nil, hn, qy, cond_true]
  simp only [dV.bC, dV.n', List.length_nil] at h1
  rw [h1]
 ·simp only [Sh.rp, wS, cond_false, List.map_cons, List.headD_cons, At.rp, dV.bC, dV.n', List.length_nil, hn, qy]
  rfl
def Qv (P : Program) [bl P] (n : Nat) (G : List (Nat × Sh)) (O : List MO) (t : TypeId) (k : Nat) (ps : List (Nat × Operand)) : Ask dV := match P.underlying t with
 | some (.slice e) => Ask.of (Cv P e) fun sz => Ask.of (LN P e) fun zs => Ask.of (Mp G ps) fun rs => match zs with
  | [z] => Ask.when (Nat.beq sz 1 && (Nat.blt 0 k && Nat.ble k 64)) (Ask.of (Sf ((List.range k).map fun i => (i * 1, 1)) (List.replicate k z) rs) fun out => .ret ⟨.vl false [.fs O.length n k], [], 1, [], [.oc n out]⟩)
  | _ => .fail
 | _ => .fail
theorem Ux (hw : WF n env) {t : TypeId} {k : Nat} {ps : List (Nat × Operand)} : aC (aM P E N (.buildSlice t k ps.toArray) ty n env G O) (Qv P n G O t k ps) := by
 unfold Qv
 split
 ·rename_i e hu
  refine aC.of fun sz hsz => aC.of fun zs hz => aC.of fun rs hrs => ?_
  split
  ·rename_i z
   refine aC.when fun hc => aC.of fun out hout => aM.newF hw fun η => ?_
   simp only [Bool.and_eq_true] at hc
   obtain rfl := Nat.eq_of_beq_eq_true hc.1
   have h0 : 0 < k := Nat.blt_eq.mp hc.2.1
   have hk : k ≤ 64 := Nat.le_of_ble_eq_true hc.2.2
   obtain ⟨i, z', hi, R4, hall⟩ := Hu hz
   obtain ⟨h1, h2⟩ := Na (f := At.rp ⟨n, env, η⟩) hout
   rw [List.length_replicate] at h1
   obtain ⟨h3, h4⟩ := V4 (p2 := fun i => some (i * 1, 1)) (fun i x hx => by
    rw [List.getElem?_map] at hx
    obtain ⟨j, hj, rfl⟩ := Option.map_eq_some_iff.1 hx
    obtain ⟨hj1, rfl⟩ := List.getElem?_eq_some_iff.1 hj
    simp) h1
   refine WS (ζ := z.rp ⟨n, env, η⟩) hu (gi hsz) ⟨i, z', hi, R4, fun F w => hall _ F w⟩ h0 hk (Jv hrs) h3 ?_
   rw [h4, ← List.map_replicate, h2]
  ·trivial
 ·trivial
def isFnT (P : Program) (t : TypeId) : Bool := match P.underlying t with
 | some (.slice e) => match P.underlying e with
  | some (.func _ _ _) => true
  | _ => false
 | _ => false
def isFs (G : List (Nat × Sh)) (x : Operand) : Bool := match CA G x with
 | some (.fs _ _ _) => true
 | _ => false
def Un (P : Program) (n : Nat) (G : List (Nat × Sh)) (t : TypeId) (x : Operand) : Ask dV := match P.underlying t with
 | some (.slice e) => Ask.of (CA G x) fun a => match a with
  | .fs o h c => Ask.when (Nat.blt h n) (.ret (yX (.vl false [.ci .i64 c])))
  | _ => .fail
 | _ => .fail
theorem XJ (hw : WF n env) {t : TypeId} {x : Operand} : aC (aM P E N (.call ⟨.builtin .len, #[x], #[t]⟩) ty n env G O) (Un P n G t x) := by
 unfold Un
 split
 ·rename_i e hu
  refine aC.of fun a ha => ?_
  split
  ·rename_i o h c
   refine aC.when fun hb => aM.same hw fun η => ?_
   have hx := fB (c := ⟨n, env, η⟩) ha
   simp only [At.rp, hb, cond_true] at hx
   exact Vn hu hx
  ·trivial
 ·trivial
def Uo (P : Program) [bl P] (n : Nat) (env : List (Nat × bX)) (G : List (Nat × Sh)) (t : TypeId) (x i : Operand) : Ask dV := match P.underlying t with
 | some (.slice e) => Ask.of (Cv P e) fun sz => Ask.of (P3 env G i) fun ix => Ask.of (CA G x) fun a => match a with
  | .fs o h c => Ask.when (Nat.beq sz 1 && Nat.blt h n) (Wj ix.2 (fun j => .ret (yX (.vl false [.ptr o h j]))) 0 c)
  | _ => .fail
 | _ => .fail
theorem XK (hw : WF n env) {t : TypeId} {x i : Operand} : aC (aM P E N (.indexAddr t x i) ty n env G O) (Uo P n env G t x i) := by
 unfold Uo
 split
 ·rename_i e hu
  refine aC.of fun sz hsz => aC.of fun ix Ja => aC.of fun a ha => ?_
  split
  ·rename_i o h c
   refine aC.when fun hc => ?_
   simp only [Bool.and_eq_true] at hc
   obtain rfl := Nat.eq_of_beq_eq_true hc.1
   refine Nu (Q := aM P E N (.indexAddr t x i) ty n env G O) (len := c) (fun j hj hje => ?_) (by omega)
   refine aM.same (v := .vl false [.ptr o h j]) hw fun η => ?_
   have hx := fB (c := ⟨n, env, η⟩) ha
   simp only [At.rp, hc.2, cond_true] at hx
   have hi := mB (n := n) (η := η) Ja
   have h2 := W9 (E := E) (N := N) (Ω := bL ⟨n, env, η⟩ O) (ty := ty) (m := ix.2) (by omega) (by omega) hu (gi hsz) hx hi
   simp only [Sh.rp, wS, cond_false, List.map_cons, List.headD_cons, At.rp, hc.2, cond_true]
   rw [hje] at h2
   exact h2
  ·trivial
 ·trivial
end Go.Dc
