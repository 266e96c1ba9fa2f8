/- Part M.Str of a proof: lemmas. -/
import Derived.Test.YtmejeobfjojfeaaMCall
set_option linter.unusedSectionVars false
set_option linter.unusedVariables false
set_option linter.unusedSimpArgs false
namespace Go.Dc
variable [DrawMode] {P : Program} [PTab P] {E : Env} {N : Nat} {op : Op} {ty : TypeId} {n : Nat} {env : List (Nat × Ent)} {G : List (Nat × Sh)} {O : List MO}

theorem Bk.objs_ok {B : Bk} {Li Lo : Nat → Nat → Option Dyn} {hs0 hs : Nat → Hd} {c' : Cx} {O : List MO} (H : BkSay B Lo hs cx0 c') : ∀ {os' : List KO} {os : List KO} {ps : List Nat} {ms new : List MO}, B.objs O ps os' = some (ms, new) → ps.length = os.length →
  ms.length = ps.length ∧ (kafter Li Lo hs0 hs os os').length = ms.length + new.length ∧
  (∀ (i : Nat) (m : MO) (o : OB), ms[i]? = some m → ((kafter Li Lo hs0 hs os os').take ps.length)[i]? = some o → m.ob c' = o ∨ (∃ p q k, ps[i]? = some p ∧ O[p]? = some q ∧ m = q ∧ os[i]? = some k ∧ o = k.ob cx0 Li hs0)) ∧
  new.map (MO.ob c') = (kafter Li Lo hs0 hs os os').drop ps.length
 | [], os, [], ms, new, h, hl => by
  cases h
  cases os with
  | nil => exact ⟨rfl, rfl, fun i m o h => by simp at h, rfl⟩
  | cons _ _ => simp at hl
 | [], _, _ :: _, _, _, h, _ => by cases h
 | o :: os', [], [], ms, new, h, hl => by
  have hh : (B.obj o).bind (fun m => (B.objs O [] os').map fun r => (r.1, m :: r.2)) = some (ms, new) := by cases o <;> exact h
  obtain ⟨m, h1, h2⟩ := Option.bind_eq_some_iff.1 hh
  obtain ⟨⟨a, b⟩, h3, h4⟩ := Option.map_eq_some_iff.1 h2
  cases h4
  obtain ⟨h5, h6, h7, h8⟩ := Bk.objs_ok (Li := Li) (hs0 := hs0) H (os := []) h3 rfl
  have hk : kafter Li Lo hs0 hs [] (o :: os') = o.ob cx0 Lo hs :: kafter Li Lo hs0 hs [] os' := by cases o <;> rfl
  rw [hk]
  refine ⟨h5, by simp only [List.length_cons, h6]; omega, fun i m' o' hm' ho' => ?_, ?_⟩
  ·have h9 := (List.getElem?_eq_some_iff.1 hm').1
   simp only [h5, List.length_nil] at h9; omega
  ·simp only [List.map_cons, List.length_nil, List.drop_zero] at h8 ⊢
   rw [h8, H.obj h1]
 | o :: os', [], _ :: _, ms, new, h, hl => by simp at hl
 | o :: os', _ :: _, [], ms, new, h, hl => by simp at hl
 | .same :: os', k :: os, p :: ps, ms, new, h, hl => by
  have hh : (O[p]?).bind (fun o => (B.objs O ps os').map fun r => (o :: r.1, r.2)) = some (ms, new) := h
  obtain ⟨q, h1, h2⟩ := Option.bind_eq_some_iff.1 hh
  obtain ⟨⟨a, b⟩, h3, h4⟩ := Option.map_eq_some_iff.1 h2
  cases h4
  obtain ⟨h5, h6, h7, h8⟩ := Bk.objs_ok (Li := Li) (hs0 := hs0) H (os := os) h3 (by simpa using hl)
  have hk : kafter Li Lo hs0 hs (k :: os) (.same :: os') = k.ob cx0 Li hs0 :: kafter Li Lo hs0 hs os os' := rfl
  rw [hk]
  refine ⟨by simp [h5], by simp only [List.length_cons, h6]; omega, fun i m' o' hm' ho' => ?_, ?_⟩
  ·cases i with
   | zero =>
    simp only [List.getElem?_cons_zero, Option.some.injEq, List.length_cons, List.take_succ_cons] at hm' ho'
    subst hm'; subst ho'
    exact .inr ⟨p, q, k, by simp, h1, rfl, by simp, rfl⟩
   | succ i =>
    simp only [List.getElem?_cons_succ, List.length_cons, List.take_succ_cons] at hm' ho' ⊢
    exact h7 i m' o' hm' ho'
  ·simpa using h8
 | .dead :: os', k :: os, p :: ps, ms, new, h, hl => by
  have hh : (B.obj .dead).bind (fun m => (B.objs O ps os').map fun r => (m :: r.1, r.2)) = some (ms, new) := h
  obtain ⟨q, h1, h2⟩ := Option.bind_eq_some_iff.1 hh
  obtain ⟨⟨a, b⟩, h3, h4⟩ := Option.map_eq_some_iff.1 h2
  cases h4
  obtain ⟨h5, h6, h7, h8⟩ := Bk.objs_ok (Li := Li) (hs0 := hs0) H (os := os) h3 (by simpa using hl)
  have hk : kafter Li Lo hs0 hs (k :: os) (.dead :: os') = KO.dead.ob cx0 Lo hs :: kafter Li Lo hs0 hs os os' := rfl
  rw [hk]
  refine ⟨by simp [h5], by simp only [List.length_cons, h6]; omega, fun i m' o' hm' ho' => ?_, by simpa using h8⟩
  cases i with
  | zero =>
   simp only [List.getElem?_cons_zero, Option.some.injEq, List.length_cons, List.take_succ_cons] at hm' ho'
   subst hm'; subst ho'
   exact .inl (H.obj h1)
  | succ i =>
   simp only [List.getElem?_cons_succ, List.length_cons, List.take_succ_cons] at hm' ho' ⊢
   exact h7 i m' o' hm' ho'
 | .oa x w :: os', k :: os, p :: ps, ms, new, h, hl => by
  have hh : (B.obj (.oa x w)).bind (fun m => (B.objs O ps os').map fun r => (m :: r.1, r.2)) = some (ms, new) := h
  obtain ⟨q, h1, h2⟩ := Option.bind_eq_some_iff.1 hh
  obtain ⟨⟨a, b⟩, h3, h4⟩ := Option.map_eq_some_iff.1 h2
  cases h4
  obtain ⟨h5, h6, h7, h8⟩ := Bk.objs_ok (Li := Li) (hs0 := hs0) H (os := os) h3 (by simpa using hl)
  have hk : kafter Li Lo hs0 hs (k :: os) (.oa x w :: os') = (KO.oa x w).ob cx0 Lo hs :: kafter Li Lo hs0 hs os os' := rfl
  rw [hk]
  refine ⟨by simp [h5], by simp only [List.length_cons, h6]; omega, fun i m' o' hm' ho' => ?_, by simpa using h8⟩
  cases i with
  | zero =>
   simp only [List.getElem?_cons_zero, Option.some.injEq, List.length_cons, List.take_succ_cons] at hm' ho'
   subst hm'; subst ho'
   exact .inl (H.obj h1)
  | succ i =>
   simp only [List.getElem?_cons_succ, List.length_cons, List.take_succ_cons] at hm' ho' ⊢
   exact h7 i m' o' hm' ho'
 | .oc x l :: os', k :: os, p :: ps, ms, new, h, hl => by
  have hh : (B.obj (.oc x l)).bind (fun m => (B.objs O ps os').map fun r => (m :: r.1, r.2)) = some (ms, new) := h
  obtain ⟨q, h1, h2⟩ := Option.bind_eq_some_iff.1 hh
  obtain ⟨⟨a, b⟩, h3, h4⟩ := Option.map_eq_some_iff.1 h2
  cases h4
  obtain ⟨h5, h6, h7, h8⟩ := Bk.objs_ok (Li := Li) (hs0 := hs0) H (os := os) h3 (by simpa using hl)
  have hk : kafter Li Lo hs0 hs (k :: os) (.oc x l :: os') = (KO.oc x l).ob cx0 Lo hs :: kafter Li Lo hs0 hs os os' := rfl
  rw [hk]
  refine ⟨by simp [h5], by simp only [List.length_cons, h6]; omega, fun i m' o' hm' ho' => ?_, by simpa using h8⟩
  cases i with
  | zero =>
   simp only [List.getElem?_cons_zero, Option.some.injEq, List.length_cons, List.take_succ_cons] at hm' ho'
   subst hm'; subst ho'
   exact .inl (H.obj h1)
  | succ i =>
   simp only [List.getElem?_cons_succ, List.length_cons, List.take_succ_cons] at hm' ho' ⊢
   exact h7 i m' o' hm' ho'

theorem kafter_dead {Li Lo : Nat → Nat → Option Dyn} {hs0 hs : Nat → Hd} : ∀ {os' os : List KO}, DeadB (kmask os') (kafter Li Lo hs0 hs os os')
 | [], os => by cases os <;> trivial
 | .dead :: os', [] => ⟨rfl, kafter_dead (os := [])⟩
 | .dead :: os', _ :: os => ⟨rfl, kafter_dead (os := os)⟩
 | .same :: os', [] => kafter_dead (os' := os') (os := [])
 | .same :: os', _ :: os => kafter_dead (os' := os') (os := os)
 | .oa _ _ :: os', [] => kafter_dead (os' := os') (os := [])
 | .oa _ _ :: os', _ :: os => kafter_dead (os' := os') (os := os)
 | .oc _ _ :: os', [] => kafter_dead (os' := os') (os := [])
 | .oc _ _ :: os', _ :: os => kafter_dead (os' := os') (os := os)

structure ConFn (P : Program) [PTab P] (f : FuncId) (C : Con) : Prop where
 call : ∀ args w, (callFunc f args).run P w = .ok (.enter f args) w
 ok : ConOk P f C

structure Cf (C : Con) where
 M : Mt
 ps : List (Nat × Nat)
 a : Tup C.ins
def Con.find (P : Program) [PTab P] (C : Con) (n : Nat) (env : List (Nat × Ent)) (O : List MO) (ss : List Sh) : Option (Cf C) :=
 (mtVs P C.ins false 0 [] n env ⟨[], []⟩ C.ps ss).bind fun M0 => (mtOs P C.ins 0 [] n env O M0 C.os).bind fun M => (posOs M C.os).bind fun ps =>
  bif nodupN (ps.map (·.1)) && Nat.beq C.nh C.os.length then (M.tup P C.ins).map fun a => ⟨M, ps, a⟩ else none

def posK (O : List MO) (M : Mt) (C : Con) (k : Nat) : Nat := match lkM M.om k with
 | some (o, _) => o
 | none => O.length + ((C.os'.drop C.os.length).findIdx fun o => match o.key with | some i => Nat.beq i k | none => false)

def sumRes (vs : List (Bool × List At)) : Sh := match vs with
 | [(g, l)] => .vl g l
 | vs => .tup vs
theorem sumRes_ok {c : Cx} {vs : List (Bool × List At)} {φs : List RP} (h : (vs.map fun x => vrp c x.1 x.2) = φs) {F : FP} {w : World} {v : Value} (hr : resH F w φs v) : ((sumRes vs).rp c).h F w v := by
 subst h
 unfold sumRes
 split
 ·exact hr
 ·rename_i h1
  match vs, h1, hr with
  | [], _, hr => exact hr
  | [(g, l)], h1, _ => exact (h1 g l rfl).elim
  | a :: b :: vs, _, hr => exact hr

def Con.bk (C : Con) (n : Nat) (O : List MO) (M : Mt) : Bk := ⟨0, [], n, C.wl, M.om, C.nh, C.nh', posK O M C⟩

def callE (P : Program) [PTab P] (C : Con) (n : Nat) (env : List (Nat × Ent)) (O : List MO) (X : Cf C) : Ask OpR :=
 .bind (C.m X.a) fun r => Ask.of (leafs P C.outs r C.wl) fun Ds => Ask.when (Ds.all fun D => D.t.one) (Ask.of ((C.bk n O X.M).vals C.rs) fun vs =>
  Ask.of ((C.bk n O X.M).objs O (X.ps.map (·.1)) C.os') fun ob => .ret ⟨sumRes vs, ents Ds, C.nh' - C.nh, (X.ps.map (·.1)).zip ob.1, ob.2⟩)

theorem callE_ok (hw : WF n env) {f : FuncId} {C : Con} (hC : ConFn P (fnT f) C) {x : Operand} {args : List Operand} {cs : List Cap} {ats : Array TypeId} {ss : List Sh} {X : Cf C}
  (hx : opA G x = some (.fn f cs)) (hcs : cs.all (Cap.ok n) = true) (hss : opds G args = some ss) (hX : C.find P n env O (fnA f ss (cs.map capSh)) = some X) :
  AskOk (OpOk P E N (.call ⟨.value x, args.toArray, ats⟩) ty n env G O) (callE P C n env O X) := by
 intro r hr
 refine AskOk.of fun Ds hDs => AskOk.when fun hone => AskOk.of fun vs hvs => AskOk.of fun ob hob => ?_
 obtain ⟨ms, new⟩ := ob
 obtain ⟨M0, h1, h2⟩ := Option.bind_eq_some_iff.1 hX
 obtain ⟨M, h3, h4⟩ := Option.bind_eq_some_iff.1 h2
 obtain ⟨ps, h5, h6⟩ := Option.bind_eq_some_iff.1 h4
 cases hb : nodupN (ps.map (·.1)) && Nat.beq C.nh C.os.length with
 | false => rw [hb] at h6; cases h6
 | true =>
 rw [hb] at h6
 simp only [cond_true, Option.map_eq_some_iff] at h6
 obtain ⟨a, ha, rfl⟩ := h6
 simp only [Bool.and_eq_true] at hb
 have hnd := hb.1
 obtain ⟨l1, l2⟩ := leafs_get hDs
 have hsrc : ∀ e ∈ ents Ds, SrcOk env e := ents_src
 have hlen : (ents Ds).length = C.wl.length := by simp [ents, l1]
 refine ⟨hsrc, (fun h => by cases h), fun η => ?_⟩
 obtain ⟨m1, m2⟩ := mtVs_ok (c0 := cx0) h1
 obtain ⟨m3, m4⟩ := mtOs_ok (c0 := cx0) h3
 obtain ⟨m5, m6, m7⟩ := m4 h5
 have hsay := M.say ha η
 have hsay0 := hsay.le m3
 have hargs := argsOkV (E := E) (N := N) (c := ⟨n, env, η⟩) (Ω := oma ⟨n, env, η⟩ O) (f := f) hss hcs (m2 (cx0_ext _) hsay0).1
 have hat := m7 (cx0_ext _) hsay
 have hpsl : (ps.map (·.1)).length = C.os.length := by simp [m5]
 have hlt : ∀ j ∈ ps.map (·.1), j < (oma ⟨n, env, η⟩ O).length := fun j hj => by
  obtain ⟨p, hp, rfl⟩ := List.mem_map.1 hj
  simpa [oma] using (m6 p hp).1
 -- the objects that are handed on
 have hobjs : ∀ (ps : List (Nat × Nat)) (os : List KO), ps.length = os.length → nodupN (ps.map (·.1)) = true → (∀ (i : Nat) (p : Nat × Nat) (o : KO), ps[i]? = some p → os[i]? = some o → (oma ⟨n, env, η⟩ O)[p.1]? = some (o.ob cx0 (leaf P C.ins a) (M.hs η))) →
   ObjsAt (oma ⟨n, env, η⟩ O) (ps.map (·.1)) (os.map (KO.ob cx0 (leaf P C.ins a) (M.hs η))) := by
  intro ps
  induction ps with
  | nil => intro os hl _ _; cases os with
   | nil => trivial
   | cons _ _ => simp at hl
  | cons p ps ih =>
   intro os hl hn h
   cases os with
   | nil => simp at hl
   | cons o os =>
    simp only [List.map_cons, nodupN, Bool.and_eq_true, Bool.not_eq_true'] at hn
    exact ⟨h 0 p o rfl rfl, hn.1, ih os (by simpa using hl) hn.2 fun i p' o' hp' ho' => h (i + 1) p' o' (by simpa using hp') (by simpa using ho')⟩
 -- handles behind the call
 let ηx : (Nat → Hd) → Nat → Hd := fun hs' y => bif Nat.blt y (n + C.wl.length) then η y else hs' (C.nh + (y - (n + C.wl.length)))
 have hηx : ∀ hs' y, y < n → ηx hs' y = η y := fun hs' y hy => by
  have : Nat.blt y (n + C.wl.length) = true := by simp only [Nat.blt_eq]; omega
  simp only [ηx, this, cond_true]
 let R : OpR := ⟨sumRes vs, ents Ds, C.nh' - C.nh, (ps.map (·.1)).zip ms, new⟩
 have hext : ∀ hs', Ext ⟨n, env, η⟩ (R.cx' n env (ηx hs')) := fun hs' => OpOk.ext hw (r := R) hsrc ⟨ηx hs', hηx hs'⟩
 have hbk : ∀ x : Agr C.nh (M.hs η), BkSay (C.bk n O M) (leaf P C.outs r) x.1 cx0 (R.cx' n env (ηx x.1)) := fun x => by
  refine ⟨rfl, rfl, cx0_ext _, fun j q i hi => ?_, fun k y hy => ?_⟩
  ·obtain ⟨_, h8⟩ := ixW_get hi
   rw [Nat.sub_zero] at h8
   obtain ⟨D, h9, h10⟩ := l2 h8
   refine ⟨D, ?_, h10, List.all_eq_true.1 hone D (List.mem_of_getElem? h9)⟩
   exact lkE_keyed (es := ents Ds) (by simp [ents, h9])
  ·unfold Bk.hid at hy
   cases hk : Nat.blt k (C.bk n O M).nh with
   | true =>
    rw [hk] at hy
    simp only [cond_true] at hy
    split at hy
    ·rename_i x0 o y' hl
     cases hyn : Nat.blt y' (C.bk n O M).n with
     | false => rw [hyn] at hy; cases hy
     | true =>
      rw [hyn] at hy
      simp only [cond_true, Option.some.injEq] at hy
      subst hy
      have hyn' : Nat.blt y' n = true := hyn
      have hkn : k < C.nh := by simpa [Nat.blt_eq] using (show Nat.blt k C.nh = true from hk)
      have hl' : lkM M.om k = some (o, y') := hl
      refine ⟨?_, blt_mono hyn' (by simp only [OpR.cx', OpR.n']; omega)⟩
      rw [x.2 k hkn]
      simp only [OpR.cx']
      rw [hηx _ _ (by simpa [Nat.blt_eq] using hyn')]
      simp only [Mt.hs, hl']
    ·cases hy
   | false =>
    rw [hk] at hy
    simp only [cond_false] at hy
    cases hk2 : Nat.blt k (C.bk n O M).nh' with
    | false => rw [hk2] at hy; cases hy
    | true =>
     rw [hk2] at hy
     simp only [cond_true, Option.some.injEq] at hy
     have hy' : n + C.wl.length + (k - C.nh) = y := hy
     have e1 : ¬ k < C.nh := fun h => by
      have : Nat.blt k C.nh = true := by simpa [Nat.blt_eq] using h
      have hk' : Nat.blt k C.nh = false := hk
      rw [this] at hk'; cases hk'
     have e2 : k < C.nh' := by simpa [Nat.blt_eq] using (show Nat.blt k C.nh' = true from hk2)
     subst hy'
     refine ⟨?_, ?_⟩
     ·have : Nat.blt (n + C.wl.length + (k - C.nh)) (n + C.wl.length) = false := by
       cases hh : Nat.blt (n + C.wl.length + (k - C.nh)) (n + C.wl.length) with
       | false => rfl
       | true => simp only [Nat.blt_eq] at hh; omega
      have e3 : C.nh + (n + C.wl.length + (k - C.nh) - (n + C.wl.length)) = k := by omega
      simp only [OpR.cx', ηx, this, cond_false]
      rw [e3]
     ·show Nat.blt (n + C.wl.length + (k - C.nh)) (n + (ents Ds).length + (C.nh' - C.nh)) = true
      rw [hlen]; simp only [Nat.blt_eq]; omega
 -- the call
 have hfn := (hC.ok a r hr (M.hs η)).undead (Ω2 := fun x => C.Ω2 (P := P) a r (M.hs η) x.1) (fun x => ?dd1) (fun x => ?dd2)
 case dd1 => exact keepB_ow kafter_dead
 case dd2 => exact keepB_mem kafter_dead
 have hxf : lkO (gma ⟨n, env, η⟩ G) x = some (pv (fnV f (cs.map (Cap.val η)))) := by
  rw [opA_rp (c := ⟨n, env, η⟩) hx]
  simp only [At.rp]
  rw [hcs]; rfl
 have hln : ∀ x : Agr C.nh (M.hs η), (ps.map (·.1)).length = ((C.Ω2 (P := P) a r (M.hs η) x.1).take (ps.map (·.1)).length).length := fun x => by
  obtain ⟨k1, k2, _, _⟩ := Bk.objs_ok (Li := leaf P C.ins a) (hs0 := M.hs η) (hbk x) (os := C.os) hob hpsl
  have k1' : ms.length = (ps.map (·.1)).length := k1
  rw [List.length_take, Con.Ω2, k2]; omega
 have hobj := hobjs ps C.os m5 hnd hat
 have hst := s_callIG (op := .call ⟨.value x, args.toArray, ats⟩) (X := Agr C.nh (M.hs η)) (E := E) (N := N) (ty := ty) (Γ := gma ⟨n, env, η⟩ G) (Ω := oma ⟨n, env, η⟩ O) (js := ps.map (·.1)) (os := fun x => (C.Ω2 (P := P) a r (M.hs η) x.1).take (ps.map (·.1)).length) (ex := fun x => (C.Ω2 (P := P) a r (M.hs η) x.1).drop (ps.map (·.1)).length)
  (xs := fnA f args ((cs.map (Cap.val η)).map .const)) (ψ := fun x => R.val.rp (R.cx' n env (ηx x.1))) (fun a w hs o ho => run_callV hC.call (show _ = _ from hs.op hxf) o ho) hfn hobj (fun x => (List.take_append_drop _ _).symm) hln hargs (fun x F w v hv => sumRes_ok ((hbk x).vals hvs) hv)
 have hjs : ∀ (x : Agr C.nh (M.hs η)), ((ps.map (·.1)).zip ms).map (·.1) = ps.map (·.1) := fun x => by
  obtain ⟨k1, _, _, _⟩ := Bk.objs_ok (Li := leaf P C.ins a) (hs0 := M.hs η) (hbk x) (os := C.os) hob hpsl
  have k1' : ms.length = (ps.map (·.1)).length := k1
  rw [List.map_fst_zip (by omega)]
 have hjs := hjs ⟨M.hs η, fun _ _ => rfl⟩
 show St P E N _ ty _ _ (((ps.map (·.1)).zip ms).map (·.1)) _ _
 rw [hjs]
 refine hst.to' fun x aa w hsat => ⟨⟨ηx x.1, hηx x.1⟩, ?_, rfl⟩
 obtain ⟨k1, k2, k3, k4⟩ := Bk.objs_ok (Li := leaf P C.ins a) (hs0 := M.hs η) (hbk x) (os := C.os) hob hpsl
 refine oma_setAll (hext x.1) hnd (fun j hj => by simpa [oma] using hlt j hj) k1.symm (hln x) (fun i m o hm ho => ?_) k4 hsat
 rcases k3 i m o hm ho with h | ⟨p, q, k, hp, hq, rfl, hk, rfl⟩
 ·exact h
 ·obtain ⟨pp, hpp, rfl⟩ : ∃ pp, ps[i]? = some pp ∧ pp.1 = p := by
   rw [List.getElem?_map] at hp
   obtain ⟨pp, h1, h2⟩ := Option.map_eq_some_iff.1 hp
   exact ⟨pp, h1, h2⟩
  have e1 := hat i pp k hpp hk
  have e2 : (oma ⟨n, env, η⟩ O)[pp.1]? = some (m.ob ⟨n, env, η⟩) := by simp [oma, hq]
  rw [e2] at e1
  have e3 : m.ob ⟨n, env, η⟩ = k.ob cx0 (leaf P C.ins a) (M.hs η) := Option.some.inj e1
  have hin := List.mem_of_getElem? (setAll_self (Ω := oma ⟨n, env, η⟩ O) hp ho (nodupN_drop hnd hp) (hlt _ (List.mem_of_getElem? hp)))
  have hin := List.mem_append_left ((C.Ω2 (P := P) a r (M.hs η) x.1).drop (ps.map (·.1)).length) hin
  rw [← e3] at hin ⊢
  exact MO.ob_eq (hext x.1) (hsat.ob _ hin)
end Go.Dc

namespace Go.Dc
variable [DrawMode] {P : Program} [PTab P] {E : Env} {N : Nat} {n : Nat} {env : List (Nat × Ent)} {G : List (Nat × Sh)} {O : List MO}

structure Pat where
 ts : List Ty
 slots : List (Nat × (Bool × List KA))
 objs : List KO
 fixd : List (Nat × (Nat × Nat))
 nh : Nat
 nh' : Nat

def Pat.Γ (p : Pat) (c0 : Cx) (L : Nat → Nat → Option Dyn) (hs : Nat → Hd) : List (Nat × RP) := p.slots.map fun x => (x.1, kvrp c0 L hs x.2)
def Pat.Ω (p : Pat) (c0 : Cx) (L : Nat → Nat → Option Dyn) (hs : Nat → Hd) : List OB := p.objs.map (KO.ob c0 L hs)
def FxOk (c0 : Cx) (p : Pat) (hs : Nat → Hd) : Prop := ∀ k o h, lkM p.fixd k = some (o, h) → Nat.blt h c0.n = true → hs k = c0.η h

def Pat.wl (p : Pat) : List (Nat × Nat) := p.slots.flatMap (fun x => x.2.2.flatMap KA.words) ++ p.objs.flatMap KO.words
def Pat.pos (p : Pat) (k : Nat) : Nat := match lkM p.fixd k with
 | some (o, _) => o
 | none => p.objs.findIdx fun o => match o.key with | some i => Nat.beq i k | none => false
def Pat.bk (p : Pat) (n : Nat) (env : List (Nat × Ent)) : Bk := ⟨n, env, n, p.wl, p.fixd, p.nh, p.nh', p.pos⟩

def Bk.slots (B : Bk) : List (Nat × (Bool × List KA)) → Option (List (Nat × Sh))
 | [] => some []
 | (t, (g, l)) :: r => (B.ats l).bind fun as_ => (B.slots r).map ((t, .vl g as_) :: ·)
def Bk.mobs (B : Bk) : List KO → Option (List MO)
 | [] => some []
 | o :: r => (B.obj o).bind fun m => (B.mobs r).map (m :: ·)

theorem BkSay.slots {B : Bk} {L : Nat → Nat → Option Dyn} {hs : Nat → Hd} {c0 c : Cx} (H : BkSay B L hs c0 c) : ∀ {l : List (Nat × (Bool × List KA))} {G : List (Nat × Sh)}, B.slots l = some G → gma c G = l.map fun x => (x.1, kvrp c0 L hs x.2)
 | [], _, h => by cases h; rfl
 | (t, (g, l)) :: r, G, h => by
  simp only [Bk.slots] at h
  obtain ⟨as_, h1, h2⟩ := Option.bind_eq_some_iff.1 h
  obtain ⟨G', h3, rfl⟩ := Option.map_eq_some_iff.1 h2
  have := H.slots h3
  unfold gma at this ⊢
  rw [List.map_cons, List.map_cons, this]
  simp only [Sh.rp, vrp, kvrp]
  rw [H.ats h1]
theorem BkSay.mobs {B : Bk} {L : Nat → Nat → Option Dyn} {hs : Nat → Hd} {c0 c : Cx} (H : BkSay B L hs c0 c) : ∀ {l : List KO} {O : List MO}, B.mobs l = some O → oma c O = l.map (KO.ob c0 L hs)
 | [], _, h => by cases h; rfl
 | o :: r, O, h => by
  simp only [Bk.mobs] at h
  obtain ⟨m, h1, h2⟩ := Option.bind_eq_some_iff.1 h
  obtain ⟨O', h3, rfl⟩ := Option.map_eq_some_iff.1 h2
  have := H.mobs h3
  unfold oma at this ⊢
  rw [List.map_cons, List.map_cons, this, H.obj h1]

def etaP (n wl nh : Nat) (η hs : Nat → Hd) : Nat → Hd := fun y => bif Nat.blt y (n + wl) then η y else hs (nh + (y - (n + wl)))
theorem etaP_lt {n wl nh : Nat} {η hs : Nat → Hd} {y : Nat} (h : y < n) : etaP n wl nh η hs y = η y := by
 have : Nat.blt y (n + wl) = true := by simp only [Nat.blt_eq]; omega
 simp only [etaP, this, cond_true]

theorem bk_say {p : Pat} {c0 : Cx} (hw : WF c0.n c0.env) {s : Tup p.ts} {Ds : List Dyn} (hDs : leafs P p.ts s p.wl = some Ds) (hone : (Ds.all fun D => D.t.one) = true) {hs : Nat → Hd} (hfx : FxOk c0 p hs) :
  BkSay (p.bk c0.n c0.env) (leaf P p.ts s) hs c0 ⟨c0.n + Ds.length + (p.nh' - p.nh), keyed c0.n (ents Ds) c0.env, etaP c0.n p.wl.length p.nh c0.η hs⟩ := by
 obtain ⟨l1, l2⟩ := leafs_get hDs
 obtain ⟨w1, w2⟩ := keyed_ok hw (es := ents Ds) ents_src
 refine ⟨rfl, rfl, ⟨by simp only; omega, w2, fun h hh => etaP_lt hh⟩, fun j q i hi => ?_, fun k y hy => ?_⟩
 ·obtain ⟨_, h8⟩ := ixW_get hi
  rw [Nat.sub_zero] at h8
  obtain ⟨D, h9, h10⟩ := l2 h8
  exact ⟨D, lkE_keyed (es := ents Ds) (by simp [ents, h9]), h10, List.all_eq_true.1 hone D (List.mem_of_getElem? h9)⟩
 ·unfold Bk.hid at hy
  cases hk : Nat.blt k (p.bk c0.n c0.env).nh with
  | true =>
   rw [hk] at hy
   simp only [cond_true] at hy
   split at hy
   ·rename_i x0 o y' hl
    cases hyn : Nat.blt y' (p.bk c0.n c0.env).n with
    | false => rw [hyn] at hy; cases hy
    | true =>
     rw [hyn] at hy
     simp only [cond_true, Option.some.injEq] at hy
     subst hy
     have hyn' : Nat.blt y' c0.n = true := hyn
     have hl' : lkM p.fixd k = some (o, y') := hl
     refine ⟨?_, blt_mono hyn' (by simp only; omega)⟩
     simp only
     rw [etaP_lt (by simpa [Nat.blt_eq] using hyn'), hfx k o y' hl' hyn']
   ·cases hy
  | false =>
   rw [hk] at hy
   simp only [cond_false] at hy
   cases hk2 : Nat.blt k (p.bk c0.n c0.env).nh' with
   | false => rw [hk2] at hy; cases hy
   | true =>
    rw [hk2] at hy
    simp only [cond_true, Option.some.injEq] at hy
    have hy' : c0.n + p.wl.length + (k - p.nh) = y := hy
    have e1 : ¬ k < p.nh := fun h => by
     have h1 : Nat.blt k p.nh = true := by simpa [Nat.blt_eq] using h
     have hk' : Nat.blt k p.nh = false := hk
     rw [h1] at hk'; cases hk'
    have e2 : k < p.nh' := by simpa [Nat.blt_eq] using (show Nat.blt k p.nh' = true from hk2)
    subst hy'
    refine ⟨?_, ?_⟩
    ·have h1 : Nat.blt (c0.n + p.wl.length + (k - p.nh)) (c0.n + p.wl.length) = false := by
      cases hh : Nat.blt (c0.n + p.wl.length + (k - p.nh)) (c0.n + p.wl.length) with
      | false => rfl
      | true => simp only [Nat.blt_eq] at hh; omega
     have e3 : p.nh + (c0.n + p.wl.length + (k - p.nh) - (c0.n + p.wl.length)) = k := by omega
     simp only [etaP, h1, cond_false]
     rw [e3]
    ·show Nat.blt (c0.n + p.wl.length + (k - p.nh)) (c0.n + Ds.length + (p.nh' - p.nh)) = true
     rw [l1]; simp only [Nat.blt_eq]; omega

def Pat.inst (P : Program) [PTab P] (p : Pat) (n : Nat) (env : List (Nat × Ent)) (s : Tup p.ts) : Option MSt :=
 (leafs P p.ts s p.wl).bind fun Ds => bif Ds.all fun D => D.t.one then ((p.bk n env).slots p.slots).bind fun G => ((p.bk n env).mobs p.objs).map fun O =>
  ⟨n + Ds.length + (p.nh' - p.nh), keyed n (ents Ds) env, G, O⟩ else none

theorem Pat.inst_ok {p : Pat} {c0 : Cx} (hw : WF c0.n c0.env) {s : Tup p.ts} {st : MSt} (h : p.inst P c0.n c0.env s = some st) {hs : Nat → Hd} (hfx : FxOk c0 p hs) :
  ∃ η, gma ⟨st.n, st.env, η⟩ st.G = p.Γ c0 (leaf P p.ts s) hs ∧ oma ⟨st.n, st.env, η⟩ st.O = p.Ω c0 (leaf P p.ts s) hs ∧ WF st.n st.env ∧ Ext c0 ⟨st.n, st.env, η⟩ := by
 obtain ⟨Ds, h1, h2⟩ := Option.bind_eq_some_iff.1 h
 cases hb : Ds.all fun D => D.t.one with
 | false => rw [hb] at h2; cases h2
 | true =>
  rw [hb] at h2
  obtain ⟨G, h3, h4⟩ := Option.bind_eq_some_iff.1 h2
  obtain ⟨O, h5, rfl⟩ := Option.map_eq_some_iff.1 h4
  have hsay := bk_say hw h1 hb hfx
  exact ⟨_, hsay.slots h3, hsay.mobs h5, ((keyed_ok hw ents_src).1.le (by simp [ents])), hsay.x⟩

theorem Pat.inst_okH {p : Pat} {c0 : Cx} (hw : WF c0.n c0.env) {s : Tup p.ts} {st : MSt} (h : p.inst P c0.n c0.env s = some st) {hs : Nat → Hd} (hfx : FxOk c0 p hs) :
  ∃ η, gma ⟨st.n, st.env, η⟩ st.G = p.Γ c0 (leaf P p.ts s) hs ∧ oma ⟨st.n, st.env, η⟩ st.O = p.Ω c0 (leaf P p.ts s) hs ∧ WF st.n st.env ∧ Ext c0 ⟨st.n, st.env, η⟩ ∧
   ∀ k, k < p.nh' - p.nh → η (c0.n + p.wl.length + k) = hs (p.nh + k) ∧ c0.n + p.wl.length + k < st.n := by
 obtain ⟨Ds, h1, h2⟩ := Option.bind_eq_some_iff.1 h
 cases hb : Ds.all fun D => D.t.one with
 | false => rw [hb] at h2; cases h2
 | true =>
  rw [hb] at h2
  obtain ⟨G, h3, h4⟩ := Option.bind_eq_some_iff.1 h2
  obtain ⟨O, h5, rfl⟩ := Option.map_eq_some_iff.1 h4
  have hsay := bk_say hw h1 hb hfx
  refine ⟨_, hsay.slots h3, hsay.mobs h5, ((keyed_ok hw ents_src).1.le (by simp [ents])), hsay.x, fun k hk => ⟨?_, ?_⟩⟩
  ·have e1 : Nat.blt (c0.n + p.wl.length + k) (c0.n + p.wl.length) = false := by
    cases hh : Nat.blt (c0.n + p.wl.length + k) (c0.n + p.wl.length) with
    | false => rfl
    | true => simp only [Nat.blt_eq] at hh; omega
   have e2 : c0.n + p.wl.length + k - (c0.n + p.wl.length) = k := by omega
   simp only [etaP, e1, cond_false, e2]
  ·have := (leafs_get h1).1
   simp only; omega

def mtSlots (P : Program) [PTab P] (ts : List Ty) (n0 : Nat) (env0 : List (Nat × Ent)) (n : Nat) (env : List (Nat × Ent)) (G : List (Nat × Sh)) : Mt → List (Nat × (Bool × List KA)) → Option Mt
 | M, [] => some M
 | M, (t, k) :: r => (lkG G t).bind fun s => (mtV P ts true n0 env0 n env M k s).bind fun M => mtSlots P ts n0 env0 n env G M r
theorem mtSlots_ok {c0 : Cx} {ts : List Ty} : ∀ {l : List (Nat × (Bool × List KA))} {M M' : Mt}, mtSlots P ts c0.n c0.env n env G M l = some M' →
  Mt.Le M M' ∧ ∀ {L : Nat → Nat → Option Dyn} {hs η : Nat → Hd}, Ext c0 ⟨n, env, η⟩ → MtSay L hs η M' → SubΓ (gma ⟨n, env, η⟩ G) (l.map fun x => (x.1, kvrp c0 L hs x.2))
 | [], M, M', h => by cases h; exact ⟨.refl _, fun _ _ => trivial⟩
 | (t, k) :: r, M, M', h => by
  simp only [mtSlots] at h
  obtain ⟨s, h0, h⟩ := Option.bind_eq_some_iff.1 h
  obtain ⟨M1, h1, h2⟩ := Option.bind_eq_some_iff.1 h
  obtain ⟨h3, h4⟩ := mtV_ok h1
  obtain ⟨h5, h6⟩ := mtSlots_ok h2
  refine ⟨h3.trans h5, fun hx hs => ⟨?_, h6 hx hs⟩⟩
  rw [lk_gma, h0]
  show some _ = some _
  rw [(h4 hx (hs.le h5)).2 rfl]

def mtObjs (P : Program) [PTab P] (ts : List Ty) (n0 : Nat) (env0 : List (Nat × Ent)) (n : Nat) (env : List (Nat × Ent)) (O : List MO) : Mt → List KO → Option Mt
 | M, [] => some M
 | M, .dead :: os => mtObjs P ts n0 env0 n env O M os
 | M, o :: os => (mtO P ts n0 env0 n env O M o).bind fun M => mtObjs P ts n0 env0 n env O M os
def posObjs (M : Mt) (len : Nat) : List KO → Option (List Nat)
 | [] => some []
 | .dead :: os => (posObjs M len os).map (len :: ·)
 | o :: os => (o.key.bind (lkM M.om)).bind fun x => (posObjs M len os).map (x.1 :: ·)
def livePos (len : Nat) (l : List Nat) : List Nat := l.filter fun i => !Nat.beq i len

theorem mtObjs_ok {c0 : Cx} {ts : List Ty} : ∀ {os : List KO} {M M' : Mt}, mtObjs P ts c0.n c0.env n env O M os = some M' →
  Mt.Le M M' ∧ ∀ {is : List Nat}, posObjs M' O.length os = some is → is.length = os.length ∧ ∀ {L : Nat → Nat → Option Dyn} {hs η : Nat → Hd}, Ext c0 ⟨n, env, η⟩ → MtSay L hs η M' →
   ∀ (i : Nat) (p : Nat) (o : KO), is[i]? = some p → os[i]? = some o → (oma ⟨n, env, η⟩ O ++ [Dc.dead])[p]? = some (o.ob c0 L hs) ∧ (p = O.length → o = .dead)
 | [], M, M', h => by cases h; exact ⟨.refl _, fun hp => by cases hp; exact ⟨rfl, fun _ _ i p o h => by simp at h⟩⟩
 | o :: os, M, M', h => by
  by_cases ho : o = .dead
  ·subst ho
   simp only [mtObjs] at h
   obtain ⟨h5, h6⟩ := mtObjs_ok h
   refine ⟨h5, fun {is} hp => ?_⟩
   simp only [posObjs] at hp
   obtain ⟨is', hp', rfl⟩ := Option.map_eq_some_iff.1 hp
   obtain ⟨h7, h9⟩ := h6 hp'
   refine ⟨by simp [h7], fun hx hsay i q o' hq ho' => ?_⟩
   cases i with
   | zero =>
    simp only [List.getElem?_cons_zero, Option.some.injEq] at hq ho'
    subst hq; subst ho'
    refine ⟨?_, fun _ => rfl⟩
    rw [List.getElem?_append_right (by simp [oma])]
    simp [oma, KO.ob]
   | succ i => exact h9 hx hsay i q o' (by simpa using hq) (by simpa using ho')
  ·have h : (mtO P ts c0.n c0.env n env O M o).bind (fun M => mtObjs P ts c0.n c0.env n env O M os) = some M' := by
    cases o <;> first | exact h | exact (ho rfl).elim
   obtain ⟨M1, h1, h2⟩ := Option.bind_eq_some_iff.1 h
   obtain ⟨h3, k, p, x, hk, hm, hlt, hb, hat⟩ := mtO_ok h1
   obtain ⟨h5, h6⟩ := mtObjs_ok h2
   refine ⟨h3.trans h5, fun {is} hp => ?_⟩
   have hp : (o.key.bind (lkM M'.om)).bind (fun x => (posObjs M' O.length os).map (x.1 :: ·)) = some is := by
    cases o <;> first | exact hp | exact (ho rfl).elim
   simp only [hk, Option.bind_some, h5.o _ _ (h3.o _ _ hm)] at hp
   obtain ⟨is', hp', rfl⟩ := Option.map_eq_some_iff.1 hp
   obtain ⟨h7, h9⟩ := h6 hp'
   refine ⟨by simp [h7], fun hx hsay i q o' hq ho' => ?_⟩
   cases i with
   | zero =>
    simp only [List.getElem?_cons_zero, Option.some.injEq] at hq ho'
    subst hq; subst ho'
    refine ⟨?_, fun e => by omega⟩
    rw [List.getElem?_append_left (by simpa [oma] using hlt)]
    exact hat hx (hsay.le h5)
   | succ i => exact h9 hx hsay i q o' (by simpa using hq) (by simpa using ho')

theorem picks_of : ∀ {is : List Nat} {os Ω : List OB} {len : Nat}, is.length = os.length → nodupN (livePos len is) = true → (∀ (i p : Nat) (o : OB), is[i]? = some p → os[i]? = some o → Ω[p]? = some o ∧ (p = len → o = Dc.dead)) → Picks Ω is os
 | [], [], _, _, _, _, _ => trivial
 | [], _ :: _, _, _, h, _, _ => by simp at h
 | _ :: _, [], _, _, h, _, _ => by simp at h
 | p :: is, o :: os, Ω, len, hl, hn, h => by
  obtain ⟨h1, h2⟩ := h 0 p o rfl rfl
  refine ⟨h1, ?_⟩
  by_cases e : p = len
  ·subst e
   have hd := h2 rfl
   subst hd
   have hs : Ω.set p Dc.dead = Ω := set_same h1
   rw [hs]
   refine picks_of (len := p) (by simpa using hl) ?_ fun i q o' hq ho' => h (i + 1) q o' (by simpa using hq) (by simpa using ho')
   simpa [livePos] using hn
  ·have hlp : livePos len (p :: is) = p :: livePos len is := by simp [livePos, beq_ne e]
   rw [hlp] at hn
   simp only [nodupN, Bool.and_eq_true, Bool.not_eq_true'] at hn
   refine picks_of (len := len) (by simpa using hl) hn.2 fun i q o' hq ho' => ?_
   obtain ⟨h3, h4⟩ := h (i + 1) q o' (by simpa using hq) (by simpa using ho')
   refine ⟨?_, h4⟩
   by_cases e2 : p = q
   ·exfalso
    subst e2
    have : p ∈ livePos len is := List.mem_filter.2 ⟨List.mem_of_getElem? hq, by simp [beq_ne e]⟩
    rw [hasN_iff.2 this] at hn; cases hn.1
   ·rw [List.getElem?_set_ne e2]; exact h3

def Pat.read (P : Program) [PTab P] (p : Pat) (n0 : Nat) (env0 : List (Nat × Ent)) (st : MSt) : Option (Tup p.ts) :=
 (mtSlots P p.ts n0 env0 st.n st.env st.G ⟨[], p.fixd⟩ p.slots).bind fun M0 => (mtObjs P p.ts n0 env0 st.n st.env st.O M0 p.objs).bind fun M =>
  (posObjs M st.O.length p.objs).bind fun is => bif nodupN (livePos st.O.length is) && (p.fixd.all fun x => Nat.blt x.2.2 n0) then M.tup P p.ts else none

theorem Pat.read_ok {p : Pat} {c0 : Cx} {st : MSt} {s : Tup p.ts} (h : p.read P c0.n c0.env st = some s) {η : Nat → Hd} (hx : Ext c0 ⟨st.n, st.env, η⟩) :
  ∃ hs, FxOk c0 p hs ∧ ∀ a w, Sat E N (gma ⟨st.n, st.env, η⟩ st.G) (oma ⟨st.n, st.env, η⟩ st.O) a w → Sat E N (p.Γ c0 (leaf P p.ts s) hs) (p.Ω c0 (leaf P p.ts s) hs) a w := by
 obtain ⟨M0, h1, h⟩ := Option.bind_eq_some_iff.1 h
 obtain ⟨M, h3, h⟩ := Option.bind_eq_some_iff.1 h
 obtain ⟨is, h5, h⟩ := Option.bind_eq_some_iff.1 h
 cases hb : nodupN (livePos st.O.length is) && (p.fixd.all fun x => Nat.blt x.2.2 c0.n) with
 | false => rw [hb] at h; cases h
 | true =>
  rw [hb] at h
  simp only [Bool.and_eq_true] at hb
  obtain ⟨m1, m2⟩ := mtSlots_ok h1
  obtain ⟨m3, m4⟩ := mtObjs_ok h3
  obtain ⟨m5, m6⟩ := m4 h5
  have hsay := M.say h η
  refine ⟨M.hs η, fun k o x hk hlt => ?_, fun a w hs => ?_⟩
  ·have h7 := m3.o _ _ (m1.o _ _ hk)
   simp only [Mt.hs, h7]
   exact hx.η x (by simpa [Nat.blt_eq] using hlt)
  ·have hΓ := m2 hx (hsay.le m3)
   refine (weak is hΓ (picks_of (len := st.O.length) ?_ hb.1 fun i q o hq ho => ?_)) a w (hs.room 1)
   ·simp [m5, Pat.Ω]
   ·simp only [Pat.Ω, List.getElem?_map] at ho
    obtain ⟨o', ho', rfl⟩ := Option.map_eq_some_iff.1 ho
    obtain ⟨h8, h9⟩ := m6 hx hsay i q o' hq ho'
    exact ⟨h8, fun e => by rw [h9 e]; rfl⟩
end Go.Dc

namespace Go.Dc
section
variable [SRep] [DrawMode] {E : Env} {N : Nat} {a : Act} {w : World}

theorem Sat.rel {c c' : Cx} {G G' : List (Nat × Sh)} {Ω Ω' : List OB} (hs : Sat E N (gma c G) Ω a w)
  (hG : ∀ t s', lkG G' t = some s' → ∃ s, lkG G t = some s ∧ ∀ v, (s.rp c).h (fr E Ω) w v → (s'.rp c').h (fr E Ω') w v) (hO : ∀ o ∈ Ω', o.h (fr E Ω') w) (hnd : (ow Ω').Nodup) (hsub : ∀ b ∈ ow Ω', b ∈ ow Ω) :
  Sat E N (gma c' G') Ω' a w :=
 ⟨hs.sz, hs.df, fun t φ ht => by
  rw [lk_gma] at ht
  obtain ⟨s', h1, rfl⟩ := Option.map_eq_some_iff.1 ht
  obtain ⟨s, h2, h3⟩ := hG t s' h1
  exact h3 _ (hs.sl t (s.rp c) (by rw [lk_gma, h2]; rfl)), hO, hnd, fun b hb => hs.bd b (hsub b hb), hs.kp, hs.fs⟩

def Sh.map (f : At → At) : Sh → Sh
 | .undef => .undef
 | .vl g l => .vl g (l.map f)
 | .tup l => .tup (l.map fun x => (x.1, x.2.map f))
def MO.map (f : At → At) : MO → MO
 | .oc h l => .oc h (l.map f)
 | o => o
def mapG (f : At → At) (G : List (Nat × Sh)) : List (Nat × Sh) := G.map fun x => (x.1, x.2.map f)
def mapO (f : At → At) (O : List MO) : List MO := O.map (MO.map f)

theorem lk_mapG {f : At → At} {G : List (Nat × Sh)} {t : Nat} : lkG (mapG f G) t = (lkG G t).map (Sh.map f) := by
 induction G with
 | nil => rfl
 | cons x r ih =>
  simp only [mapG, List.map_cons, lkG]
  cases Nat.beq x.1 t with
  | true => rfl
  | false => exact ih

section
variable {c : Cx} {f : At → At} {F F' : FP} (hf : ∀ x v, (x.rp c).h F w v → ((f x).rp c).h F' w v)
include hf
theorem map_ats : ∀ {l : List At} {vs : List Value}, AllP F w (l.map (At.rp c)) vs → AllP F' w ((l.map f).map (At.rp c)) vs
 | [], [], _ => trivial
 | x :: l, v :: vs, ⟨h1, h2⟩ => ⟨hf x v h1, map_ats h2⟩
 | [], _ :: _, h => h.elim
 | _ :: _, [], h => h.elim
theorem map_vrp {g : Bool} {l : List At} {v : Value} (h : (vrp c g l).h F w v) : (vrp c g (l.map f)).h F' w v := by
 unfold vrp at h ⊢
 cases g with
 | true => obtain ⟨cs, e, h⟩ := h; exact ⟨cs, e, map_ats hf h⟩
 | false =>
  cases l with
  | nil => exact h.elim
  | cons x l => exact hf x v h
theorem map_tup : ∀ {l : List (Bool × List At)} {vs : List Value}, AllP F w (l.map (fun x => vrp c x.1 x.2)) vs → AllP F' w ((l.map fun x => (x.1, x.2.map f)).map (fun x => vrp c x.1 x.2)) vs
 | [], [], _ => trivial
 | x :: l, v :: vs, ⟨h1, h2⟩ => ⟨map_vrp hf h1, map_tup h2⟩
 | [], _ :: _, h => h.elim
 | _ :: _, [], h => h.elim
theorem map_sh {s : Sh} {v : Value} (h : (s.rp c).h F w v) : ((s.map f).rp c).h F' w v := by
 cases s with
 | undef => exact h
 | vl g l => exact map_vrp hf h
 | tup l => obtain ⟨cs, e, h⟩ := h; exact ⟨cs, e, map_tup hf h⟩
theorem map_oc {h : Nat} {l : List At} (hh : ((MO.oc h l).ob c).h F w) : ((MO.oc h (l.map f)).ob c).h F' w := by
 simp only [MO.ob] at hh ⊢
 cases hb : Nat.blt h c.n with
 | false => rw [hb] at hh; exact hh
 | true =>
  rw [hb] at hh
  obtain ⟨cells, ty, h1, h2⟩ := hh
  exact ⟨cells, ty, h1, map_ats hf h2⟩
end

theorem map_S {c : Cx} {f : At → At} {o : MO} : ((o.map f).ob c).S = (o.ob c).S := by
 cases o with
 | oc h l => simp only [MO.map, MO.ob]; cases Nat.blt h c.n <;> rfl
 | _ => rfl
theorem ow_mapO {c : Cx} {f : At → At} {O : List MO} : ow (oma c (mapO f O)) = ow (oma c O) := by
 unfold ow oma mapO
 induction O with
 | nil => rfl
 | cons o O ih => simp only [List.map_cons, List.flatMap_cons, map_S, ih]

def frzA (h i : Nat) : At → At
 | .own o k => bif Nat.beq k h then .vr i else .own o k
 | x => x
def Ent.asF (e : Ent) : Bool := match e with
 | ⟨.sl _, _, _⟩ => true
 | ⟨.dp _, _, _⟩ => true
 | _ => false
def frzSt (st : MSt) (o : Nat) : Option MSt := match st.O[o]? with
 | some (.oa h i) => bif Nat.blt h st.n && ((lkE st.env i).map Ent.asF).getD false then some ⟨st.n, st.env, mapG (frzA h i) st.G, (mapO (frzA h i) st.O).set o .dead⟩ else none
 | _ => none

theorem oma_setD {c : Cx} {O : List MO} {j : Nat} : oma c (O.set j .dead) = (oma c O).set j Dc.dead := by
 unfold oma; rw [List.map_set]; rfl

theorem frz_ok {st st' : MSt} {o : Nat} (h : frzSt st o = some st') {η : Nat → Hd} (hs : Sat E N (gma ⟨st.n, st.env, η⟩ st.G) (oma ⟨st.n, st.env, η⟩ st.O) a w) :
  st'.n = st.n ∧ st'.env = st.env ∧ Sat E N (gma ⟨st.n, st.env, η⟩ st'.G) (oma ⟨st.n, st.env, η⟩ st'.O) a w := by
 unfold frzSt at h
 split at h
 ·rename_i k i ho
  cases hb : Nat.blt k st.n && ((lkE st.env i).map Ent.asF).getD false with
  | false => rw [hb] at h; cases h
  | true =>
   rw [hb] at h; cases h
   refine ⟨rfl, rfl, ?_⟩
   simp only [Bool.and_eq_true] at hb
   obtain ⟨e, he, hF⟩ : ∃ e, lkE st.env i = some e ∧ e.asF = true := by
    have h2 := hb.2
    cases he : lkE st.env i with
    | none => rw [he] at h2; cases h2
    | some e => rw [he] at h2; exact ⟨e, rfl, by simpa using h2⟩
   obtain ⟨X, hj, hχ⟩ : ∃ X, (oma ⟨st.n, st.env, η⟩ st.O)[o]? = some X ∧ ((At.vr i).rp ⟨st.n, st.env, η⟩).h (fr E ((oma ⟨st.n, st.env, η⟩ st.O).set o Dc.dead)) w (η k).hv := by
    unfold Ent.asF at hF
    split at hF
    ·rename_i t d s
     have hj : (oma ⟨st.n, st.env, η⟩ st.O)[o]? = some (oa t.rep (η k).hv (η k).S d) := by
      simp only [oma, List.getElem?_map, ho, Option.map_some, MO.ob, he, Dyn.ob, hb.1, cond_true]
     refine ⟨_, hj, ?_⟩
     simp only [At.rp, he, Ty.one, cond_true]
     exact frz_chi hj hs fun b hb => hs.mine (Sat.notin hj hb)
    ·rename_i t d s
     have hj : (oma ⟨st.n, st.env, η⟩ st.O)[o]? = some (od t.rep (η k).hv (η k).S (η k).subs d) := by
      simp only [oma, List.getElem?_map, ho, Option.map_some, MO.ob, he, Dyn.ob, hb.1, cond_true]
     refine ⟨_, hj, ?_⟩
     simp only [At.rp, he, Ty.one, cond_true]
     refine od_sl (hs.objAt hj) (fun b hb hF' => ⟨hF'.1, fun hm => hF'.2 ?_⟩) fun b hb' => ⟨hs.mine (Sat.notin hj hb'), mem_ow_set hj hs.nd hb' (by simp [dead])⟩
     obtain ⟨A, B, hA, rfl⟩ := ow_split hj
     rw [hA] at hm ⊢
     rw [set_split] at hm
     rw [ow_mid] at hm ⊢
     simp [dead] at hm
     simp only [List.mem_append]
     exact hm.imp id .inr
    ·cases hF
   have hfz := hs.freeze hj
   have hlt : o < (oma ⟨st.n, st.env, η⟩ st.O).length := (List.getElem?_eq_some_iff.1 hj).1
   have hfr : fr E (oma ⟨st.n, st.env, η⟩ ((mapO (frzA k i) st.O).set o .dead)) = fr E ((oma ⟨st.n, st.env, η⟩ st.O).set o Dc.dead) := by
    have : ow (oma ⟨st.n, st.env, η⟩ ((mapO (frzA k i) st.O).set o .dead)) = ow ((oma ⟨st.n, st.env, η⟩ st.O).set o Dc.dead) := by
     rw [← oma_setD]
     have e1 : (mapO (frzA k i) st.O).set o .dead = mapO (frzA k i) (st.O.set o .dead) := by unfold mapO; rw [List.map_set]; rfl
     rw [e1, ow_mapO]
    unfold fr; rw [this]
   have hf : ∀ x v, (x.rp ⟨st.n, st.env, η⟩).h (fr E ((oma ⟨st.n, st.env, η⟩ st.O).set o Dc.dead)) w v → ((frzA k i x).rp ⟨st.n, st.env, η⟩).h (fr E ((oma ⟨st.n, st.env, η⟩ st.O).set o Dc.dead)) w v := by
    intro x v hv
    cases x with
    | own o' k' =>
     simp only [frzA]
     cases hk : Nat.beq k' k with
     | false => exact hv
     | true =>
      obtain rfl := Nat.eq_of_beq_eq_true hk
      simp only [cond_true]
      rw [own_rp hb.1] at hv
      rw [show v = _ from hv]
      exact hχ
    | _ => exact hv
   refine hfz.rel (fun t' s' ht => ?_) (fun q hq => ?_) ?_ ?_
   ·rw [lk_mapG] at ht
    obtain ⟨s0, h1, rfl⟩ := Option.map_eq_some_iff.1 ht
    exact ⟨s0, h1, fun v hv => by rw [hfr]; exact map_sh hf hv⟩
   ·rw [hfr]
    have e1 : (mapO (frzA k i) st.O).set o .dead = mapO (frzA k i) (st.O.set o .dead) := by unfold mapO; rw [List.map_set]; rfl
    rw [e1] at hq
    obtain ⟨m, hm, rfl⟩ := List.mem_map.1 hq
    obtain ⟨m0, hm0, rfl⟩ := List.mem_map.1 hm
    have h2 := hfz.ob (m0.ob ⟨st.n, st.env, η⟩) (by rw [← oma_setD]; exact List.mem_map_of_mem hm0)
    cases m0 with
    | oc h l => exact map_oc hf h2
    | dead => exact h2
    | oa h i => exact h2
    | pin a b c => exact h2
    | eqv a b => exact h2
    | fm a b => exact h2
   ·have e1 : (mapO (frzA k i) st.O).set o .dead = mapO (frzA k i) (st.O.set o .dead) := by unfold mapO; rw [List.map_set]; rfl
    rw [e1, ow_mapO, oma_setD]; exact hfz.nd
   ·intro b hb'
    have e1 : (mapO (frzA k i) st.O).set o .dead = mapO (frzA k i) (st.O.set o .dead) := by unfold mapO; rw [List.map_set]; rfl
    rw [e1, ow_mapO, oma_setD] at hb'; exact hb'
 ·cases h
def Keeps (st st' : MSt) : Prop := st'.n = st.n ∧ st'.env = st.env ∧ ∀ {E : Env} {N : Nat} (η : Nat → Hd) a w, Sat E N (gma ⟨st.n, st.env, η⟩ st.G) (oma ⟨st.n, st.env, η⟩ st.O) a w → Sat E N (gma ⟨st.n, st.env, η⟩ st'.G) (oma ⟨st.n, st.env, η⟩ st'.O) a w
theorem Keeps.refl (st : MSt) : Keeps st st := ⟨rfl, rfl, fun _ _ _ h => h⟩
theorem Keeps.trans {a b c : MSt} (h : Keeps a b) (k : Keeps b c) : Keeps a c :=
 ⟨k.1.trans h.1, k.2.1.trans h.2.1, fun η x w hs => by have := k.2.2 η x w (by rw [h.1, h.2.1]; exact h.2.2 η x w hs); rwa [h.1, h.2.1] at this⟩
theorem frz_keeps' {st st' : MSt} {o : Nat} (h : frzSt st o = some st') : Keeps st st' := by
 have hh : st'.n = st.n ∧ st'.env = st.env := by
  unfold frzSt at h
  split at h
  ·rename_i k i ho
   cases hb : Nat.blt k st.n && ((lkE st.env i).map Ent.asF).getD false with
   | false => rw [hb] at h; cases h
   | true => rw [hb] at h; cases h; exact ⟨rfl, rfl⟩
  ·cases h
 exact ⟨hh.1, hh.2, fun η a w hs => (frz_ok h hs).2.2⟩
def frzAll : List Nat → MSt → Option MSt
 | [], st => some st
 | o :: os, st => match st.O[o]? with
  | some .dead => frzAll os st
  | _ => (frzSt st o).bind (frzAll os)
theorem frzAll_ok : ∀ {os : List Nat} {st st' : MSt}, frzAll os st = some st' → Keeps st st'
 | [], st, st', h => by cases h; exact .refl _
 | o :: os, st, st', h => by
  unfold frzAll at h
  split at h
  ·exact frzAll_ok h
  ·obtain ⟨s1, h1, h2⟩ := Option.bind_eq_some_iff.1 h
   exact (frz_keeps' h1).trans (frzAll_ok h2)
end
end Go.Dc

namespace Go.Dc
section
variable [SRep] {n : Nat} {env : List (Nat × Ent)}
theorem dl_at (hw : WF n env) {y i0 kx : Nat} {ix : Int} {u t' : Ty} {yd : List u.den} {d : List (List t'.den)} (he : lkE env y = some ⟨.sl u, yd, some (.dl i0 kx ix)⟩)
  (h3 : ∃ s, lkE env i0 = some ⟨.dp t', d, s⟩ ∨ ∃ q, lkE env i0 = some ⟨.dh t', (q, d), s⟩) : ∃ hu : u = t', idxM d ix = some (hu ▸ yd) := by
 obtain ⟨t2, l, s2, y2, g1, g2, g3, _⟩ := hw.src y _ he
 cases g3
 obtain ⟨s, h3⟩ := h3
 rcases g1 with g1 | ⟨q, g1⟩ <;> rcases h3 with h3 | ⟨q', h3⟩ <;> rw [h3] at g1 <;> cases g1 <;> exact ⟨rfl, g2⟩
theorem innV_at {c : Cx} {h y : Nat} {t : Ty} {d : t.den} {i k : Nat} {jx : Int} (hb : Nat.blt h c.n = true) (he : lkE c.env y = some ⟨t, d, some (.dl i k jx)⟩) : innV c h y = some ((c.η h).subs jx.toNat).v := by
 unfold innV; rw [he]; simp only [hb, cond_true]
theorem inn_rp {c : Cx} {o h y : Nat} {v : Value} (hv : innV c h y = some v) : (At.inn o h y).rp c = pv v := by simp only [At.rp, hv]
end
variable [DrawMode] {R : Type} {P : Program} [PTab P] {E : Env} {N : Nat} {op : Op} {ty : TypeId} {n : Nat} {env : List (Nat × Ent)} {G : List (Nat × Sh)} {O : List MO}

theorem OpOk.newDp (hw : WF n env) {t : Ty} {d : List (List t.den)} (h : ∀ η, St P E N op ty (gma ⟨n, env, η⟩ G) (oma ⟨n, env, η⟩ O) [] (fun X : Value × List Nat => pv X.1) (fun X => oma ⟨n, env, η⟩ O ++ [od t.rep X.1 X.2 (fun _ => nilB) d])) :
  OpOk P E N op ty n env G O ⟨.vl false [.own O.length (n + 1)], [⟨.dp t, d, none⟩], 1, [], [.oa (n + 1) n]⟩ := by
 have hsrc : ∀ e ∈ [(⟨.dp t, d, none⟩ : Ent)], SrcOk env e := fun e he => by rw [List.mem_singleton.1 he]; exact .none rfl
 refine ⟨hsrc, (fun _ _ h => by cases h), fun η => ?_⟩
 have h := h η
 refine h.to' fun X a w hs => ?_
 have h1 := oa_one (hs.mem_ob (o := od t.rep X.1 X.2 (fun _ => nilB) d) (by simp)).1
 refine ⟨⟨updH η (n + 1) ⟨X.1, X.2, 0, h1, fun _ => nilB⟩, fun k hk => updH_lt (by omega)⟩, ?_, ?_⟩
 ·simp only [OpR.O', updO]
  refine oma_add (OpOk.ext hw (r := ⟨.vl false [.own O.length (n + 1)], [⟨.dp t, d, none⟩], 1, [], [.oa (n + 1) n]⟩) hsrc ⟨updH η (n + 1) ⟨X.1, X.2, 0, h1, fun _ => nilB⟩, fun k hk => updH_lt (by omega)⟩) ?_ hs
  simp only [MO.ob, OpR.cx', OpR.env', OpR.n', keyed, lkE_cons, if_true, Option.bind_some, Dyn.ob, updH_at]
  rw [show Nat.blt (n + 1) (n + [(⟨.dp t, d, none⟩ : Ent)].length + 1) = true from by simp [Nat.blt_eq]]
  rfl
 ·simp only [Sh.rp, vrp, cond_false, List.map_cons, List.headD_cons, At.rp, OpR.cx', OpR.n', updH_at]
  rw [show Nat.blt (n + 1) (n + [(⟨.dp t, d, none⟩ : Ent)].length + 1) = true from by simp [Nat.blt_eq]]
  rfl

def slOf : Ty → Option Ty
 | .sl t => some t
 | _ => none
theorem slOf_eq {t u : Ty} (h : slOf t = some u) : t = .sl u := by
 unfold slOf at h; split at h
 ·cases h; rfl
 ·cases h
def isNlL : List At → Bool
 | [.nl] => true
 | _ => false
theorem isNlL_eq {l : List At} (h : isNlL l = true) : l = [.nl] := by
 unfold isNlL at h; split at h
 ·rfl
 ·cases h
theorem elT_head {e : TypeId} {t : Ty} {b : Nat} (h : ElT P e (Ty.sl t).rep b) : ElT P e rH b := ⟨h.info, h.agg, Nat.one_pos, h.bpos⟩

def dmakeE (P : Program) [PTab P] (n : Nat) (env : List (Nat × Ent)) (G : List (Nat × Sh)) (O : List MO) (t : TypeId) (x y : Operand) : Ask OpR := match P.underlying t with
 | some (.slice e) => Ask.of (elT P e) fun c => Ask.of (slOf c.1) fun u => Ask.of (opA G x) fun a => Ask.of (opA G y) fun b => Ask.when (sameAt a b) (Ask.of (opI env G x) fun l =>
   Ask.of (zeroT P e) fun z => Ask.when (isNlL z) (.bind (mkM c.2 ([] : List u.den) l.2) fun d => .ret ⟨.vl false [.own O.length (n + 1)], [⟨.dp u, d, none⟩], 1, [], [.oa (n + 1) n]⟩))
 | _ => .fail
theorem dmakeE_ok (hw : WF n env) {t : TypeId} {x y : Operand} : AskOk (OpOk P E N (.makeSlice t x y) ty n env G O) (dmakeE P n env G O t x y) := by
 unfold dmakeE
 split
 ·rename_i e hu
  refine AskOk.of fun c hc => AskOk.of fun u hsl => AskOk.of fun a ha => AskOk.of fun b hb => AskOk.when fun hab => AskOk.of fun l hl => AskOk.of fun z hz => AskOk.when fun hnl => fun d hd => ?_
  have hs := sameAt_ok hab
  subst hs
  have hy : ∀ η, lkO (gma ⟨n, env, η⟩ G) y = some (iv l.1 l.2) := fun η => by rw [opA_rp hb, ← opA_rp (c := ⟨n, env, η⟩) ha]; exact opI_rp hl
  obtain ⟨t', b'⟩ := c
  obtain rfl := slOf_eq hsl
  obtain rfl := isNlL_eq hnl
  have hE : ElT P e rH b' := elT_head (elT_ok hc)
  have hZ : ZeroT P e rH nilB := by
   obtain ⟨i, zv, hi, hz, hall⟩ := zeroT_ok hz
   exact ⟨i, zv, hi, hz, fun F w => hall ⟨0, [], fun _ => ⟨.bool true, [], 0, rfl, fun _ => nilB⟩⟩ F w⟩
  have hL : mkM b' nilB l.2 = some (List.replicate l.2.toNat nilB) ∧ d = List.replicate l.2.toNat [] := by
   simp only [mkM] at hd ⊢
   split at hd
   ·rename_i h; cases hd; rw [if_pos h]; exact ⟨rfl, rfl⟩
   ·cases hd
  refine OpOk.newDp hw fun η => ?_
  have := s_dmake (P := P) (E := E) (N := N) (ty := ty) (Ω := oma ⟨n, env, η⟩ O) (ρ := u.rep) hL.1 hu hE hZ (opI_rp (n := n) (η := η) hl) (hy η)
  rw [List.length_replicate, ← hL.2] at this
  exact this
 ·trivial

def dpA (n : Nat) (env : List (Nat × Ent)) (O : List MO) (o h : Nat) : Option (Nat × (t : Ty) × List (List t.den)) := match O[o]? with
 | some (.oa h' i) => bif Nat.beq h' h && Nat.blt h n then (match lkE env i with
  | some ⟨.dp t, d, _⟩ => some (i, ⟨t, d⟩)
  | some ⟨.dh t, d, _⟩ => some (i, ⟨t, d.2⟩)
  | _ => none) else none
 | _ => none
theorem dpA_ok {o h i : Nat} {t : Ty} {d : List (List t.den)} (hh : dpA n env O o h = some (i, ⟨t, d⟩)) :
  Nat.blt h n = true ∧ o < O.length ∧ (∃ s, lkE env i = some ⟨.dp t, d, s⟩ ∨ ∃ q, lkE env i = some ⟨.dh t, (q, d), s⟩) ∧
   ∀ η, ∃ X, (oma ⟨n, env, η⟩ O)[o]? = some X ∧ OuterO X (η h).hv (η h).S (η h).subs d.length := by
 unfold dpA at hh
 split at hh
 ·rename_i h' i' ho
  have hlt := (List.getElem?_eq_some_iff.1 ho).1
  cases hb : Nat.beq h' h && Nat.blt h n with
  | false => rw [hb] at hh; cases hh
  | true =>
   rw [hb] at hh
   simp only [Bool.and_eq_true] at hb
   obtain rfl := Nat.eq_of_beq_eq_true hb.1
   simp only [cond_true] at hh
   split at hh
   ·rename_i t' d' s' he
    cases hh
    refine ⟨hb.2, hlt, ⟨s', .inl he⟩, fun η => ⟨od t.rep (η h').hv (η h').S (η h').subs d, ?_, inferInstance⟩⟩
    simp only [oma, List.getElem?_map, ho, Option.map_some, MO.ob, he, Dyn.ob, hb.2, cond_true]
   ·rename_i t' d' s' he
    cases hh
    refine ⟨hb.2, hlt, ⟨s', .inr ⟨d'.1, he⟩⟩, fun η => ⟨oh t.rep (η h').hv (η h').S (η h').subs d'.1.toNat d'.2, ?_, inferInstance⟩⟩
    simp only [oma, List.getElem?_map, ho, Option.map_some, MO.ob, he, Dyn.ob, hb.2, cond_true]
   ·cases hh
 ·cases hh
def didxE (P : Program) [PTab P] (n : Nat) (env : List (Nat × Ent)) (G : List (Nat × Sh)) (O : List MO) (t : TypeId) (x i : Operand) : Ask OpR := match P.underlying t with
 | some (.slice e) => Ask.of (elT P e) fun c => Ask.of (opA G x) fun a => Ask.of (opA G i) fun b => match a, b with
  | .own o h, .vr k => Ask.of (dpA n env O o h) fun q => Ask.of ((lkE env k).bind entI) fun l => if c.1 = .sl q.2.1 then
    .bind (idxM q.2.2 l) fun y => .ret ⟨.vl false [.oea o h n], [⟨.sl q.2.1, y, some (.dl q.1 k l)⟩], 0, [], []⟩ else .fail
  | _, _ => .fail
 | _ => .fail
theorem didxE_ok (hw : WF n env) {t : TypeId} {x i : Operand} : AskOk (OpOk P E N (.indexAddr t x i) ty n env G O) (didxE P n env G O t x i) := by
 unfold didxE
 split
 ·rename_i e hu
  refine AskOk.of fun c hc => AskOk.of fun a ha => AskOk.of fun b hb => ?_
  split
  ·rename_i o h k
   refine AskOk.of fun q hq => AskOk.of fun l hl => ?_
   split
   ·rename_i hct
    obtain ⟨i0, t', d⟩ := q
    obtain ⟨c1, c2⟩ := c
    simp only at hct
    subst hct
    obtain ⟨h1, h2, ⟨s, h3⟩, h4⟩ := dpA_ok hq
    intro y hy
    obtain ⟨y0, y1, y2, y3⟩ := idxM_some hy
    obtain ⟨ek, hek, hl⟩ := Option.bind_eq_some_iff.1 hl
    obtain ⟨sk, rfl⟩ := entI_eq hl
    have h3' : lkE env i0 = some ⟨.dp t', d, s⟩ ∨ ∃ q, lkE env i0 = some ⟨.dh t', (q, d), s⟩ := h3
    refine OpOk.rd' hw (fun e' he' => ?_) fun η => ?_
    ·rw [List.mem_singleton.1 he']
     exact ⟨t', d, s, y, h3', hy, rfl, .i64, sk, hek⟩
    ·obtain ⟨X, hX, hO⟩ := h4 η
     have hx := opA_rp (c := ⟨n, env, η⟩) ha
     rw [own_rp (c := ⟨n, env, η⟩) h1] at hx
     have hi := opA_rp (c := ⟨n, env, η⟩) hb
     have hi' : lkO (gma ⟨n, env, η⟩ G) i = some (iv .i64 l) := by rw [hi]; simp only [At.rp, hek, Ty.one, cond_true]; rfl
     have h5 := r_dindex (P := P) (E := E) (N := N) (ty := ty) (Γ := gma ⟨n, env, η⟩ G) (Ω := oma ⟨n, env, η⟩ O) (hO := hO) y0 y1 hu (elT_head (elT_ok hc)) hx hX hi'
     simp only [Sh.rp, vrp, cond_false, List.map_cons, List.headD_cons, At.rp, keyed, lkE_cons, if_true]
     rw [blt_mono h1 (show n ≤ n + [(⟨.sl t', y, some (.dl i0 k l)⟩ : Ent)].length from by omega)]
     exact h5
   ·trivial
  ·trivial
 ·trivial

def dloadE (P : Program) [PTab P] (n : Nat) (env : List (Nat × Ent)) (G : List (Nat × Sh)) (O : List MO) (t : TypeId) (x : Operand) : Ask OpR := Ask.of (elT P t) fun c => Ask.of (opA G x) fun a => match a with
 | .oea o h y => match lkE env y with
  | some ⟨.sl u, _, some (.dl i0 _ _)⟩ => Ask.of (dpA n env O o h) fun q => if c.1 = .sl u ∧ q.1 = i0 then .ret (resS (.vl false [.inn o h y])) else .fail
  | _ => .fail
 | _ => .fail
theorem dloadE_ok (hw : WF n env) {t : TypeId} {x : Operand} : AskOk (OpOk P E N (.load t x) ty n env G O) (dloadE P n env G O t x) := by
 unfold dloadE
 refine AskOk.of fun c hc => AskOk.of fun a ha => ?_
 split
 ·rename_i o h y
  split
  ·rename_i u yd i0 kx ix he
   refine AskOk.of fun q hq => ?_
   split
   ·rename_i hct
    obtain ⟨c1, c2⟩ := c
    obtain ⟨iq, t', d⟩ := q
    obtain ⟨hc1, hi⟩ := hct
    simp only at hc1 hi
    subst hc1; subst hi
    obtain ⟨h1, h2, h3, h4⟩ := dpA_ok hq
    obtain ⟨hu, hix⟩ := dl_at hw he h3
    obtain ⟨y0, y1, _, _⟩ := idxM_some hix
    refine OpOk.rdJ (J := [o]) hw (fun e he => by simp at he) (readO_load ha (.inr (.inl ⟨_, _, rfl⟩))) fun η => ?_
    obtain ⟨X, hX, hO⟩ := h4 η
    have hx := opA_rp (c := ⟨n, env, η⟩) ha
    have hx2 : lkO (gma ⟨n, env, η⟩ G) x = some (pv (elA (η h).hv rH.size ix)) := by rw [hx]; simp only [At.rp, he, h1, cond_true]
    have hrd := r_dload (P := P) (E := E) (N := N) (ty := ty) (Γ := gma ⟨n, env, η⟩ G) (Ω := oma ⟨n, env, η⟩ O) (hO := hO) y0 y1 (elT_head (elT_ok hc)) hx2 hX
    have e1 : (Sh.vl false [.inn o h y]).rp ⟨n + ([] : List Ent).length, keyed n [] env, η⟩ = pv ((η h).subs ix.toNat).v := by
     have hv : innV ⟨n + ([] : List Ent).length, keyed n [] env, η⟩ h y = some ((η h).subs ix.toNat).v := innV_at (c := ⟨n, env, η⟩) h1 he
     simp only [Sh.rp, vrp, cond_false, List.map_cons, List.headD_cons, At.rp, hv]
    rw [e1]; exact hrd
   ·trivial
  ·trivial
 ·trivial

def innA (n : Nat) (env : List (Nat × Ent)) (O : List MO) (o h y : Nat) : Option (Nat × Int × (t : Ty) × List (List t.den) × List t.den) := match lkE env y with
 | some ⟨.sl u, yd, some (.dl i0 _ jx)⟩ => match O[o]? with
  | some (.oa h' i) => bif Nat.beq h' h && (Nat.blt h n && Nat.beq i i0) then (match lkE env i0 with
   | some ⟨.dp t, d, _⟩ => if hu : u = t then some (i0, jx, ⟨t, d, hu ▸ yd⟩) else none
   | _ => none) else none
  | _ => none
 | _ => none
theorem innA_ok (hw : WF n env) {o h y i0 : Nat} {jx : Int} {t : Ty} {d : List (List t.den)} {yd : List t.den} (hh : innA n env O o h y = some (i0, jx, ⟨t, d, yd⟩)) :
  Nat.blt h n = true ∧ o < O.length ∧ (∃ k, lkE env y = some ⟨.sl t, yd, some (.dl i0 k jx)⟩) ∧ (∃ s, lkE env i0 = some ⟨.dp t, d, s⟩) ∧ idxM d jx = some yd ∧ ∀ η, (oma ⟨n, env, η⟩ O)[o]? = some (od t.rep (η h).hv (η h).S (η h).subs d) := by
 unfold innA at hh
 split at hh
 ·rename_i u yd' i0' k jx' he
  split at hh
  ·rename_i h' i hO
   cases hb : Nat.beq h' h && (Nat.blt h n && Nat.beq i i0') with
   | false => rw [hb] at hh; cases hh
   | true =>
    rw [hb] at hh
    simp only [Bool.and_eq_true] at hb
    obtain rfl := Nat.eq_of_beq_eq_true hb.1
    obtain rfl := Nat.eq_of_beq_eq_true hb.2.2
    simp only [cond_true] at hh
    split at hh
    ·rename_i t' d' s' hi
     split at hh
     ·rename_i hu
      subst hu
      cases hh
      obtain ⟨hu, hix⟩ := dl_at hw he ⟨_, .inl hi⟩
      refine ⟨hb.2.1, (List.getElem?_eq_some_iff.1 hO).1, ⟨k, he⟩, ⟨_, hi⟩, hix, fun η => ?_⟩
      simp only [oma, List.getElem?_map, hO, Option.map_some, MO.ob, hi, Dyn.ob, hb.2.1, cond_true]
     ·cases hh
    ·cases hh
  ·cases hh
 ·cases hh
def innB (n : Nat) (env : List (Nat × Ent)) (O : List MO) (o h y : Nat) : Option (Nat × Int × (t : Ty) × List (List t.den)) := match lkE env y with
 | some ⟨.sl u, _, some (.dl _ _ jx)⟩ => match O[o]? with
  | some (.oa h' i) => bif Nat.beq h' h && Nat.blt h n then (match lkE env i with
   | some ⟨.dp t, d, _⟩ => if u = t then some (i, jx, ⟨t, d⟩) else none
   | _ => none) else none
  | _ => none
 | _ => none
theorem innB_ok {o h y i0 : Nat} {jx : Int} {t : Ty} {d : List (List t.den)} (hh : innB n env O o h y = some (i0, jx, ⟨t, d⟩)) :
  Nat.blt h n = true ∧ o < O.length ∧ (∃ k i yd, lkE env y = some ⟨.sl t, yd, some (.dl i k jx)⟩) ∧ (∃ s, lkE env i0 = some ⟨.dp t, d, s⟩) ∧ ∀ η, (oma ⟨n, env, η⟩ O)[o]? = some (od t.rep (η h).hv (η h).S (η h).subs d) := by
 unfold innB at hh
 split at hh
 ·rename_i u yd' i0' k jx' he
  split at hh
  ·rename_i h' i hO
   cases hb : Nat.beq h' h && Nat.blt h n with
   | false => rw [hb] at hh; cases hh
   | true =>
    rw [hb] at hh
    simp only [Bool.and_eq_true] at hb
    obtain rfl := Nat.eq_of_beq_eq_true hb.1
    simp only [cond_true] at hh
    split at hh
    ·rename_i t' d' s' hi
     split at hh
     ·rename_i hu
      subst hu
      cases hh
      refine ⟨hb.2, (List.getElem?_eq_some_iff.1 hO).1, ⟨k, _, _, he⟩, ⟨_, hi⟩, fun η => ?_⟩
      simp only [oma, List.getElem?_map, hO, Option.map_some, MO.ob, hi, Dyn.ob, hb.2, cond_true]
     ·cases hh
    ·cases hh
  ·cases hh
 ·cases hh

theorem r_dlen {t e : TypeId} {x : Operand} {Γ : List (Nat × RP)} {Ω : List OB} {o : OB} {hv : Value} {S0 : List Nat} {sub : Nat → Sb} {k j : Nat} [hO : OuterO o hv S0 sub k] (hu : P.underlying t = some (.slice e)) (hx : lkO Γ x = some (pv hv)) (hj : Ω[j]? = some o) :
  Rd P E N (.call ⟨.builtin .len, #[x], #[t]⟩) ty Γ Ω [] (iv .i64 (k : Int)) := .mk fun a w hs => by
 have hv : a.eval x = hv := hs.op hx
 obtain ⟨ad, c, rfl, _⟩ := hO.ob _ _ (hs.objAt hj)
 exact ⟨.int .i64 k, rfl, fun w' o ho _ => by simp [execOp, ho, resolve, invoke, builtin, Builtin.len_, hv, run_underlying hu, goInt, subL_len]⟩
def dlenE (P : Program) [PTab P] (n : Nat) (env : List (Nat × Ent)) (G : List (Nat × Sh)) (O : List MO) (t : TypeId) (x : Operand) : Ask OpR := match P.underlying t with
 | some (.slice e) => Ask.of (opA G x) fun a => match a with
  | .inn o h y => match innA n env O o h y with
   | some q => .ret (resD n (.int .i64) (q.2.2.2.2.length : Int))
   | none => Ask.of (innB n env O o h y) fun q => .bind (idxM q.2.2.2 q.2.1) fun yd => .ret (resD n (.int .i64) (yd.length : Int))
  | .own o h => Ask.of (dpA n env O o h) fun q => .ret (resD n (.int .i64) (q.2.2.length : Int))
  | _ => .fail
 | _ => .fail
theorem dlenE_ok (hw : WF n env) {t : TypeId} {x : Operand} : AskOk (OpOk P E N (.call ⟨.builtin .len, #[x], #[t]⟩) ty n env G O) (dlenE P n env G O t x) := by
 unfold dlenE
 split
 ·rename_i e hu
  refine AskOk.of fun a ha => ?_
  have hx := fun η => opA_rp (c := ⟨n, env, η⟩) ha
  split
  ·rename_i o h y
   split
   ·rename_i q hq
    obtain ⟨i0, jx, t', d, yd⟩ := q
    obtain ⟨h1, h2, ⟨k, h3⟩, _, h4, h5⟩ := innA_ok hw hq
    obtain ⟨y0, y1, y2, y3⟩ := idxM_some h4
    refine OpOk.dat hw rfl fun η => ?_
    have h6 := hx η
    rw [inn_rp (innV_at (c := ⟨n, env, η⟩) h1 h3)] at h6
    have hy : d[jx.toNat]? = some yd := by rw [List.getElem?_eq_getElem y2, y3]
    have h7 := r_olen (P := P) (E := E) (N := N) (ty := ty) hu h6 (openB_last (Ω := oma ⟨n, env, η⟩ O) (j := o) (ρ := t'.rep) (hv := (η h).hv) (S0 := (η h).S) (sub := (η h).subs) (d := d) (k := jx.toNat) (x := yd))
    exact Rd.inner (h5 η) hy h7 (fun i hi => by simp at hi)
   ·refine AskOk.of fun q hq => ?_
    obtain ⟨i0, jx, t', d⟩ := q
    obtain ⟨h1, h2, ⟨k, i, yd0, h3⟩, _, h5⟩ := innB_ok hq
    intro yd hyd
    obtain ⟨y0, y1, y2, y3⟩ := idxM_some hyd
    refine OpOk.dat hw rfl fun η => ?_
    have h6 := hx η
    rw [inn_rp (innV_at (c := ⟨n, env, η⟩) h1 h3)] at h6
    have hy : d[jx.toNat]? = some yd := by rw [List.getElem?_eq_getElem y2, y3]
    have h7 := r_olen (P := P) (E := E) (N := N) (ty := ty) hu h6 (openB_last (Ω := oma ⟨n, env, η⟩ O) (j := o) (ρ := t'.rep) (hv := (η h).hv) (S0 := (η h).S) (sub := (η h).subs) (d := d) (k := jx.toNat) (x := yd))
    exact Rd.inner (h5 η) hy h7 (fun i hi => by simp at hi)
  ·rename_i o h
   refine AskOk.of fun q hq => ?_
   obtain ⟨i0, t', d⟩ := q
   obtain ⟨h1, h2, _, h4⟩ := dpA_ok hq
   refine OpOk.dat hw rfl fun η => ?_
   obtain ⟨X, hX, hO⟩ := h4 η
   have h6 := hx η
   rw [own_rp (c := ⟨n, env, η⟩) h1] at h6
   exact r_dlen (hO := hO) hu h6 hX
  ·trivial
 ·trivial

def iidxE (P : Program) [PTab P] (n : Nat) (env : List (Nat × Ent)) (G : List (Nat × Sh)) (O : List MO) (t : TypeId) (x i : Operand) : Ask OpR := Ask.of (opI env G i) fun ix => match P.underlying t with
 | some (.slice e) => Ask.of (elT P e) fun c => Ask.of (opA G x) fun a => match a with
  | .inn o h y => match innA n env O o h y with
   | some q => if c.1 = q.2.2.1 then .bind (idxM q.2.2.2.2 ix.2) fun z => .ret ⟨.vl false [.oea o h n], [⟨q.2.2.1, z, some (.ie y q.1 ix.2)⟩], 0, [], []⟩ else .fail
   | none => Ask.of (innB n env O o h y) fun q => if c.1 = q.2.2.1 then .bind (idxM q.2.2.2 q.2.1) fun yd => .bind (idxM yd ix.2) fun z => .ret ⟨.vl false [.oea o h n], [⟨q.2.2.1, z, some (.ie y q.1 ix.2)⟩], 0, [], []⟩ else .fail
  | _ => .fail
 | _ => .fail
theorem iidx_one (hw : WF n env) {t : TypeId} {x i : Operand} {ix : IntKind × Int} (hix : opI env G i = some ix) {e : TypeId} (hu : P.underlying t = some (.slice e)) {c : Ty × Nat} (hc : elT P e = some c) {o h y : Nat} (ha : opA G x = some (.inn o h y))
  {i0 : Nat} {jx : Int} {d : List (List c.1.den)} {yd : List c.1.den} {z : c.1.den} (h1 : Nat.blt h n = true) (h3 : ∃ k i yd0, lkE env y = some ⟨.sl c.1, yd0, some (.dl i k jx)⟩) (h4 : ∃ s, lkE env i0 = some ⟨.dp c.1, d, s⟩)
  (h5 : ∀ η, (oma ⟨n, env, η⟩ O)[o]? = some (od c.1.rep (η h).hv (η h).S (η h).subs d)) (hyd : idxM d jx = some yd) (hz : idxM yd ix.2 = some z) :
  OpOk P E N (.indexAddr t x i) ty n env G O ⟨.vl false [.oea o h n], [⟨c.1, z, some (.ie y i0 ix.2)⟩], 0, [], []⟩ := by
 have hi := fun η => opI_rp (n := n) (η := η) hix
 obtain ⟨k, i2, yd0, h3⟩ := h3
 obtain ⟨s, h4⟩ := h4
 obtain ⟨y0, y1, y2, y3⟩ := idxM_some hyd
 refine OpOk.rd' hw (fun e' he' => ?_) fun η => ?_
 ·rw [List.mem_singleton.1 he']
  exact ⟨c.1, ⟨yd0, i2, k, jx, h3, d, s, yd, h4, hyd, z, hz, rfl⟩⟩
 ·have h6 := opA_rp (c := ⟨n, env, η⟩) ha
  rw [inn_rp (innV_at (c := ⟨n, env, η⟩) h1 h3)] at h6
  have hy : d[jx.toNat]? = some yd := by rw [List.getElem?_eq_getElem y2, y3]
  have h7 := r_oindex (P := P) (E := E) (N := N) (ty := ty) hz hu (elT_ok hc) h6 (openB_last (Ω := oma ⟨n, env, η⟩ O) (j := o) (ρ := c.1.rep) (hv := (η h).hv) (S0 := (η h).S) (sub := (η h).subs) (d := d) (k := jx.toNat) (x := yd)) (hi η)
  have h8 : Rd P E N (.indexAddr t x i) ty (gma ⟨n, env, η⟩ G) (oma ⟨n, env, η⟩ O) [] _ := Rd.inner (h5 η) hy h7 (fun i hi => by simp at hi)
  have hv : innV ⟨n + [(⟨c.1, z, some (.ie y i0 ix.2)⟩ : Ent)].length, keyed n [(⟨c.1, z, some (.ie y i0 ix.2)⟩ : Ent)] env, η⟩ h y = some ((η h).subs jx.toNat).v := by
   refine innV_at (c := ⟨_, _, η⟩) (blt_mono h1 (Nat.le_add_right _ _)) (t := .sl c.1) (d := yd0) (i := i2) (k := k) ?_
   have hlt := hw.lt y _ h3
   simp only [keyed, lkE_cons]; rw [if_neg (by omega)]; exact h3
  have e1 : (Sh.vl false [.oea o h n]).rp ⟨n + [(⟨c.1, z, some (.ie y i0 ix.2)⟩ : Ent)].length, keyed n [(⟨c.1, z, some (.ie y i0 ix.2)⟩ : Ent)] env, η⟩ = pv (elA ((η h).subs jx.toNat).v c.1.rep.size ix.2) := by
   have hl : lkE (keyed n [(⟨c.1, z, some (.ie y i0 ix.2)⟩ : Ent)] env) n = some ⟨c.1, z, some (.ie y i0 ix.2)⟩ := by simp [keyed, lkE_cons]
   simp only [Sh.rp, vrp, cond_false, List.map_cons, List.headD_cons, At.rp, hl, hv]
  rw [e1]; exact h8
theorem iidxE_ok (hw : WF n env) {t : TypeId} {x i : Operand} : AskOk (OpOk P E N (.indexAddr t x i) ty n env G O) (iidxE P n env G O t x i) :=
 AskOk.of fun ix hix => by
  split
  ·rename_i e hu
   refine AskOk.of fun c hc => AskOk.of fun a ha => ?_
   split
   ·rename_i o h y
    split
    ·rename_i q hq
     split
     ·rename_i hct
      obtain ⟨i0, jx, t', d, yd⟩ := q
      obtain ⟨c1, c2⟩ := c
      simp only at hct
      subst hct
      obtain ⟨h1, h2, ⟨k, h3⟩, h4, hyd, h5⟩ := innA_ok hw hq
      intro z hz
      exact iidx_one hw hix hu hc ha h1 ⟨k, _, _, h3⟩ h4 h5 hyd hz
     ·trivial
    ·refine AskOk.of fun q hq => ?_
     split
     ·rename_i hct
      obtain ⟨i0, jx, t', d⟩ := q
      obtain ⟨c1, c2⟩ := c
      simp only at hct
      subst hct
      obtain ⟨h1, h2, h3, h4, h5⟩ := innB_ok hq
      intro yd hyd z hz
      exact iidx_one hw hix hu hc ha h1 h3 h4 h5 hyd hz
     ·trivial
   ·trivial
  ·trivial

def innE (n : Nat) (env : List (Nat × Ent)) (O : List MO) (o h z : Nat) : Option (Ent × Nat × Int × Int × (t : Ty) × List (List t.den)) := match lkE env z with
 | some ⟨t, zd, some (.ie y0 ds ix)⟩ => match O[o]? with
  | some (.oa h' i) => bif Nat.beq h' h && (Nat.blt h n && Nat.beq i ds) then (match lkE env ds, lkE env y0 with
   | some ⟨.dp t', d, _⟩, some ⟨_, _, some (.dl _ _ jx)⟩ => some (⟨t, zd, some (.ie y0 ds ix)⟩, y0, jx, ix, ⟨t', d⟩)
   | _, _ => none) else none
  | _ => none
 | _ => none
theorem innE_ok (hw : WF n env) {o h z y0 : Nat} {e : Ent} {jx ix : Int} {p : (t : Ty) × List (List t.den)} (hh : innE n env O o h z = some (e, y0, jx, ix, p)) :
  lkE env z = some e ∧ (∃ ds, e.src = some (.ie y0 ds ix)) ∧ ∃ (l : List (List e.t.den)) (yl : List e.t.den), p = ⟨e.t, l⟩ ∧ idxM l jx = some yl ∧ idxM yl ix = some e.d ∧ Nat.blt h n = true ∧ o < O.length ∧
   (∃ t0 d0 i k, lkE env y0 = some ⟨t0, d0, some (.dl i k jx)⟩) ∧ ∀ η, (oma ⟨n, env, η⟩ O)[o]? = some (od e.t.rep (η h).hv (η h).S (η h).subs l) := by
 unfold innE at hh
 split at hh
 ·rename_i t zd y0' ds ix' he
  split at hh
  ·rename_i h' i hO
   cases hb : Nat.beq h' h && (Nat.blt h n && Nat.beq i ds) with
   | false => rw [hb] at hh; cases hh
   | true =>
    rw [hb] at hh
    simp only [Bool.and_eq_true] at hb
    obtain rfl := Nat.eq_of_beq_eq_true hb.1
    obtain rfl := Nat.eq_of_beq_eq_true hb.2.2
    simp only [cond_true] at hh
    split at hh
    ·rename_i t' d s t0 d0 i1 k1 jx' hds hy0
     cases hh
     obtain ⟨t2, yd, i2, k2, jx2, g1, l2, s2, yl, g2, g3, zd2, g4, g5⟩ := hw.src z _ he
     rw [hy0] at g1; cases g1
     rw [hds] at g2; cases g2
     cases g5
     refine ⟨he, ⟨_, rfl⟩, d, yl, rfl, g3, g4, hb.2.1, (List.getElem?_eq_some_iff.1 hO).1, ⟨_, _, _, _, hy0⟩, fun η => ?_⟩
     simp only [oma, List.getElem?_map, hO, Option.map_some, MO.ob, hds, Dyn.ob, hb.2.1, cond_true]
    ·cases hh
  ·cases hh
 ·cases hh

def ifldE (P : Program) [PTab P] (n : Nat) (env : List (Nat × Ent)) (G : List (Nat × Sh)) (O : List MO) (t : TypeId) (x : Operand) (f : Nat) : Ask OpR :=
 Ask.of (strctF P t f) fun fd => Ask.of (sizeT P fd.type) fun k => Ask.when (Nat.blt 0 k) (Ask.of (opA G x) fun a => match a with
  | .oea o h y => Ask.of (innE n env O o h y) fun q => Ask.of (fldE P q.1 f) fun p => Ask.when (Nat.beq fd.offset p.1) (.ret ⟨.vl false [.oef o h n], [⟨p.2.t, p.2.d, some (.fl y p.1)⟩], 0, [], []⟩)
  | _ => .fail)
theorem ifldE_ok (hw : WF n env) {t : TypeId} {x : Operand} {f : Nat} : AskOk (OpOk P E N (.fieldAddr t x f) ty n env G O) (ifldE P n env G O t x f) :=
 AskOk.of fun fd hfd => AskOk.of fun k hk => AskOk.when fun hk0 => AskOk.of fun a ha => by
  obtain ⟨fs, hu, hf⟩ := strctF_ok hfd
  obtain ⟨k, rfl⟩ : ∃ k', k = k' + 1 := ⟨k - 1, by simp only [Nat.blt_eq] at hk0; omega⟩
  have hx := fun η => opA_rp (c := ⟨n, env, η⟩) ha
  split
  ·rename_i o h y
   refine AskOk.of fun q hq => AskOk.of fun p hp => AskOk.when fun hb => ?_
   obtain ⟨e, y0, jx, ix, pl⟩ := q
   obtain ⟨he, ⟨ds, hsrc⟩, l, yl, rfl, hjx, hi, hbl, hlt, ⟨t0, d0, i1, k1, hy0⟩, hj⟩ := innE_ok hw hq
   obtain ⟨h1, h2⟩ := fldE_ok hp
   have hb := Nat.eq_of_beq_eq_true hb
   have hy : y ≠ n := fun h => by have := hw.lt y e he; omega
   have hy0n : y0 ≠ n := fun h => by have := hw.lt y0 _ hy0; omega
   obtain ⟨q0, q1, q2, q3⟩ := idxM_some hjx
   have hyl : l[jx.toNat]? = some yl := by rw [List.getElem?_eq_getElem q2, q3]
   refine OpOk.rd' hw (fun e' he' => ?_) fun η => ?_
   ·rw [List.mem_singleton.1 he']; exact ⟨e, he, h1, h2⟩
   ·have h3 := hx η
    obtain ⟨t', d', s'⟩ := e
    simp only at hsrc
    subst hsrc
    have hv := innV_at (c := ⟨n, env, η⟩) hbl hy0
    simp only [At.rp, he, hv] at h3
    have h4 := r_foea (E := E) (N := N) (Ω := openB (oma ⟨n, env, η⟩ O) o t'.rep (η h).hv (η h).S (η h).subs l jx.toNat yl) (ty := ty) (ρ := t'.rep) (fo := p.1) hi hu hf hb (sizeT_ok hk) h3 openB_last
    have h5 : Rd P E N (.fieldAddr t x f) ty (gma ⟨n, env, η⟩ G) (oma ⟨n, env, η⟩ O) [] _ := Rd.inner (hj η) hyl h4 (fun i hi => by simp at hi)
    have hx' : Ext ⟨n, env, η⟩ ⟨n + [(⟨p.2.t, p.2.d, some (.fl y p.1)⟩ : Ent)].length, keyed n [(⟨p.2.t, p.2.d, some (.fl y p.1)⟩ : Ent)] env, η⟩ := ⟨by simp, fun i e hie => by
     have := hw.lt i e hie
     simp only [keyed, lkE_cons]; rw [if_neg (by omega)]; exact hie, fun _ _ => rfl⟩
    have hv' := innV_ext hx' hv
    have hl : lkE (keyed n [(⟨p.2.t, p.2.d, some (.fl y p.1)⟩ : Ent)] env) n = some ⟨p.2.t, p.2.d, some (.fl y p.1)⟩ := by simp [keyed, lkE_cons]
    have e1 : (Sh.vl false [.oef o h n]).rp ⟨n + [(⟨p.2.t, p.2.d, some (.fl y p.1)⟩ : Ent)].length, keyed n [(⟨p.2.t, p.2.d, some (.fl y p.1)⟩ : Ent)] env, η⟩ = pv (elF ((η h).subs jx.toNat).v t'.rep.size ix p.1) := by
     simp only [Sh.rp, vrp, cond_false, List.map_cons, List.headD_cons, At.rp, hl, hx'.env _ _ he, hv']
    rw [e1]; exact h5
  ·trivial

def iloadE (P : Program) [PTab P] (n : Nat) (env : List (Nat × Ent)) (G : List (Nat × Sh)) (O : List MO) (t : TypeId) (x : Operand) : Ask OpR :=
 Ask.of (opA G x) fun a => match a with
  | .oea o h y => Ask.of (innE n env O o h y) fun q => Ask.of (elT P t) fun c => if c.1 = q.1.t then .ret (resE P n y q.1) else .fail
  | .oef o h z => Ask.of (lkE env z) fun ez => match ez.src with
   | some (.fl y fo) => Ask.of (innE n env O o h y) fun q => Ask.of (elT P t) fun c => if c.1 = ez.t then .ret (resE P n z ez) else .fail
   | _ => .fail
  | _ => .fail
theorem iloadE_ok (hw : WF n env) {t : TypeId} {x : Operand} : AskOk (OpOk P E N (.load t x) ty n env G O) (iloadE P n env G O t x) :=
 AskOk.of fun a ha => by
  have hx := fun η => opA_rp (c := ⟨n, env, η⟩) ha
  split
  ·rename_i o h y
   refine AskOk.of fun q hq => AskOk.of fun c hc => ?_
   split
   ·rename_i hct
    obtain ⟨e, y0, jx, ix, pl⟩ := q
    obtain ⟨he, ⟨ds, hsrc⟩, l, yl, rfl, hjx, hi, hbl, hlt, ⟨t0, d0, i1, k1, hy0⟩, hj⟩ := innE_ok hw hq
    obtain ⟨c1, c2⟩ := c
    simp only at hct
    subst hct
    obtain ⟨q0, q1, q2, q3⟩ := idxM_some hjx
    have hyl : l[jx.toNat]? = some yl := by rw [List.getElem?_eq_getElem q2, q3]
    refine resE_ok (J := [o]) hw he (readO_load ha (.inr (.inl ⟨_, _, rfl⟩))) fun η => ?_
    have h3 := hx η
    obtain ⟨t', d', s'⟩ := e
    simp only at hsrc
    subst hsrc
    have hv := innV_at (c := ⟨n, env, η⟩) hbl hy0
    simp only [At.rp, he, hv] at h3
    have h4 := r_oload (E := E) (N := N) (Ω := openB (oma ⟨n, env, η⟩ O) o t'.rep (η h).hv (η h).S (η h).subs l jx.toNat yl) (ty := ty) hi (elT_ok hc) h3 openB_last
    exact Rd.inner (hj η) hyl h4 (fun i hi => ⟨by rw [List.mem_singleton.1 hi], by simp⟩)
   ·trivial
  ·rename_i o h z
   refine AskOk.of fun ez hez => ?_
   split
   ·rename_i y fo hsz
    refine AskOk.of fun q hq => AskOk.of fun c hc => ?_
    split
    ·rename_i hct
     obtain ⟨e, y0, jx, ix, pl⟩ := q
     obtain ⟨he, ⟨ds, hsrc⟩, l, yl, rfl, hjx, hi, hbl, hlt, ⟨t0, d0, i1, k1, hy0⟩, hj⟩ := innE_ok hw hq
     obtain ⟨c1, c2⟩ := c
     simp only at hct
     subst hct
     obtain ⟨q0, q1, q2, q3⟩ := idxM_some hjx
     have hyl : l[jx.toNat]? = some yl := by rw [List.getElem?_eq_getElem q2, q3]
     refine resE_ok (J := [o]) hw hez (readO_load ha (.inr (.inr ⟨_, _, rfl⟩))) fun η => ?_
     have h3 := hx η
     obtain ⟨te, de, se⟩ := e
     obtain ⟨tz, dz, sz⟩ := ez
     simp only at hsrc hsz
     subst hsrc; subst hsz
     have hv := innV_at (c := ⟨n, env, η⟩) hbl hy0
     simp only [At.rp, hez, he, hv] at h3
     obtain ⟨ey, g1, g2, g3⟩ := hw.src z _ hez
     rw [he] at g1; cases g1
     have h4 := r_foload (E := E) (N := N) (Ω := openB (oma ⟨n, env, η⟩ O) o te.rep (η h).hv (η h).S (η h).subs l jx.toNat yl) (ty := ty) (z := dz) hi (elT_ok hc) h3 openB_last g2 (Nat.ble_eq_true_of_le g3)
     exact Rd.inner (hj η) hyl h4 (fun i hi => ⟨by rw [List.mem_singleton.1 hi], by simp⟩)
    ·trivial
   ·trivial
  ·trivial
end Go.Dc

namespace Go.Dc
variable [DrawMode] {R : Type} {P : Program} [PTab P] {E : Env} {N : Nat} {op : Op} {ty : TypeId} {n : Nat} {env : List (Nat × Ent)} {G : List (Nat × Sh)} {O : List MO}
theorem OpOk.setDp (hw : WF n env) {t : Ty} {d : List (List t.den)} {j k : Nat} (hk : Nat.blt k n = true)
  (h : ∀ η, St P E N op ty (gma ⟨n, env, η⟩ G) (oma ⟨n, env, η⟩ O) [j] (fun _ : Unit => pv Go.undef) (fun _ => (oma ⟨n, env, η⟩ O).set j (od t.rep (η k).hv (η k).S (η k).subs d))) :
  OpOk P E N op ty n env G O ⟨.undef, [⟨.dp t, d, none⟩], 0, [(j, .oa k n)], []⟩ := by
 have hsrc : ∀ e ∈ [(⟨.dp t, d, none⟩ : Ent)], SrcOk env e := fun e he => by rw [List.mem_singleton.1 he]; exact .none rfl
 refine ⟨hsrc, (fun _ h => by cases h), fun η => ?_⟩
 have h := h η
 refine h.to' fun x a w hs => ?_
 refine ⟨⟨η, fun _ _ => rfl⟩, ?_, rfl⟩
 simp only [OpR.O', updO, List.append_nil]
 refine oma_set (OpOk.ext hw (r := ⟨.undef, [⟨.dp t, d, none⟩], 0, [(j, .oa k n)], []⟩) hsrc ⟨η, fun _ _ => rfl⟩) ?_ hs
 simp only [MO.ob, OpR.cx', OpR.n', OpR.env', keyed, lkE_cons, if_true, Dyn.ob]
 rw [blt_mono hk (show n ≤ n + [(⟨.dp t, d, none⟩ : Ent)].length + 0 from by omega)]
 rfl

def innL {α : Type} (env : List (Nat × Ent)) (y0 ds : Nat) (jx : Int) (t : Ty) (l : List (List t.den)) (k : List t.den → Ask α) : Ask α := match lkE env y0 with
 | some ⟨.sl u, yd, some (.dl i _ _)⟩ => if hu : u = t then (bif Nat.beq i ds then k (hu ▸ yd) else .bind (idxM l jx) k) else .fail
 | _ => .fail
theorem innL_ok {α : Type} {Q : α → Prop} (hw : WF n env) {y0 ds : Nat} {jx : Int} {t : Ty} {l : List (List t.den)} {k : List t.den → Ask α} {s : Option Src} (hds : lkE env ds = some ⟨.dp t, l, s⟩)
  (hy0 : ∃ t0 d0 i k', lkE env y0 = some ⟨t0, d0, some (.dl i k' jx)⟩) (h : ∀ yl, idxM l jx = some yl → AskOk Q (k yl)) : AskOk Q (innL env y0 ds jx t l k) := by
 unfold innL
 split
 ·rename_i u yd i k1 jx' he
  obtain ⟨t0, d0, i0, k', hy⟩ := hy0
  rw [he] at hy; cases hy
  split
  ·rename_i hu
   subst hu
   cases hb : Nat.beq i ds with
   | false => exact fun yl hyl => h yl hyl
   | true =>
    obtain rfl := Nat.eq_of_beq_eq_true hb
    obtain ⟨hu, hix⟩ := dl_at hw he ⟨_, .inl hds⟩
    exact h _ hix
  ·trivial
 ·trivial

def istoreE (P : Program) [PTab P] (n : Nat) (env : List (Nat × Ent)) (G : List (Nat × Sh)) (O : List MO) (t : TypeId) (x y : Operand) : Ask OpR :=
 Ask.of (sizeT P t) fun k => Ask.of (opA G x) fun a => match a with
  | .oea o h z => Ask.of (innE n env O o h z) fun q => Ask.of (elT P t) fun c => if c.1 = q.2.2.2.2.1 then match q.1.src with
   | some (.ie _ ds _) => Ask.of (opT P env G q.2.2.2.2.1 y) fun u => innL env q.2.1 ds q.2.2.1 q.2.2.2.2.1 q.2.2.2.2.2 fun yl =>
    .ret ⟨.undef, [⟨.dp q.2.2.2.2.1, q.2.2.2.2.2.set q.2.2.1.toNat (yl.set q.2.2.2.1.toNat u), none⟩], 0, [(o, .oa h n)], []⟩
   | _ => .fail else .fail
  | .oef o h z => Ask.of (lkE env z) fun ez => match ez.src with
   | some (.fl ye fo) => Ask.of (innE n env O o h ye) fun q => Ask.of (opC G y) fun cs => match q with
    | ⟨⟨.st k', d, some (.ie _ ds _)⟩, y0, jx, ix, ⟨.st k2, l⟩⟩ => if hk : k2 = k' then
     Ask.of (atsD env (((PTab.split (P := P) k' d).drop fo).map (·.t) |>.take cs.length) cs) fun Ds => Ask.when (Nat.beq Ds.length k && Nat.ble (fo + Ds.length) (SRep.rep k').size)
      (Ask.of (putD P k' d fo Ds) fun u => innL env y0 ds jx (.st k2) l fun yl => .ret ⟨.undef, [⟨.dp (.st k2), l.set jx.toNat (yl.set ix.toNat (hk ▸ u)), none⟩], 0, [(o, .oa h n)], []⟩) else .fail
    | _ => .fail
   | _ => .fail
  | _ => .fail
theorem innE_ds (hw : WF n env) {o h z y0 : Nat} {e : Ent} {jx ix : Int} {p : (t : Ty) × List (List t.den)} (hh : innE n env O o h z = some (e, y0, jx, ix, p)) {a ds : Nat} {b : Int} (hs : e.src = some (.ie a ds b)) :
  ∃ s, lkE env ds = some ⟨.dp p.1, p.2, s⟩ := by
 unfold innE at hh
 split at hh
 ·rename_i t zd y0' ds' ix' he
  split at hh
  ·rename_i h' i hO
   cases hb : Nat.beq h' h && (Nat.blt h n && Nat.beq i ds') with
   | false => rw [hb] at hh; cases hh
   | true =>
    rw [hb] at hh
    simp only [cond_true] at hh
    split at hh
    ·rename_i t' d s t0 d0 i1 k1 jx' hds hy0
     cases hh
     cases hs
     exact ⟨_, hds⟩
    ·cases hh
  ·cases hh
 ·cases hh
theorem istoreE_ok (hw : WF n env) {t : TypeId} {x y : Operand} : AskOk (OpOk P E N (.store t x y) ty n env G O) (istoreE P n env G O t x y) :=
  AskOk.of fun k hk => AskOk.of fun a ha => by
    have hx := fun η => opA_rp (c := ⟨n, env, η⟩) ha
    split
    · rename_i o h z
      refine AskOk.of fun q hq => AskOk.of fun c hc => ?_
      split
      · rename_i hct
        obtain ⟨e, y0, jx, ix, pl⟩ := q
        split
        · rename_i a ds b hs
          refine AskOk.of fun u hu => ?_
          obtain ⟨s, hds⟩ := innE_ds hw hq hs
          obtain ⟨he, ⟨ds2, hsrc⟩, l, yl0, rfl, hjx, hi, hbl, hlt, hy0, hj⟩ := innE_ok hw hq
          obtain ⟨c1, c2⟩ := c
          simp only at hct
          subst hct
          refine innL_ok hw hds hy0 fun yl hyl => ?_
          obtain rfl : yl0 = yl := by have h9 : idxM l jx = some yl := hyl; rw [hjx] at h9; exact Option.some.inj h9
          obtain ⟨t0, d0, i1, k1, hy0⟩ := hy0
          obtain ⟨q0, q1, q2, q3⟩ := idxM_some hjx
          have hyl2 : l[jx.toNat]? = some yl0 := by rw [List.getElem?_eq_getElem q2, q3]
          refine OpOk.setDp hw hbl fun η => ?_
          have h3 := hx η
          obtain ⟨t', d', s'⟩ := e
          simp only at hsrc
          subst hsrc
          have hv := innV_at (c := ⟨n, env, η⟩) hbl hy0
          simp only [At.rp, he, hv] at h3
          have h4 := s_ostore (E := E) (N := N) (Ω := openB (oma ⟨n, env, η⟩ O) o t'.rep (η h).hv (η h).S (η h).subs l jx.toNat yl0) (ty := ty) hi (elT_ok hc) h3 openB_last (opT_part hu)
          exact St.inner (hj η) hyl2 h4
        · trivial
      · trivial
    · rename_i o h z
      refine AskOk.of fun ez hez => ?_
      split
      · rename_i ye fo hsz
        refine AskOk.of fun q hq => AskOk.of fun cs hcs => ?_
        split
        · rename_i k' d a ds b y0 jx ix k2 l
          split
          · rename_i hkk
            subst hkk
            refine AskOk.of fun Ds hDs => AskOk.when fun hb => AskOk.of fun u hu => ?_
            obtain ⟨s, hds⟩ := innE_ds hw hq rfl
            obtain ⟨he, ⟨ds2, hsrc⟩, l', yl0, hl', hjx, hi, hbl, hlt, hy0, hj⟩ := innE_ok hw hq
            cases hl'
            refine innL_ok hw hds hy0 fun yl hyl => ?_
            obtain rfl : yl0 = yl := by have h9 : idxM l jx = some yl := hyl; rw [hjx] at h9; exact Option.some.inj h9
            obtain ⟨t0, d0, i1, k1, hy0⟩ := hy0
            obtain ⟨q0, q1, q2, q3⟩ := idxM_some hjx
            have hyl2 : l[jx.toNat]? = some yl0 := by rw [List.getElem?_eq_getElem q2, q3]
            simp only [Bool.and_eq_true] at hb
            have hDl : Ds.length = k := Nat.eq_of_beq_eq_true hb.1
            refine OpOk.setDp hw hbl fun η => ?_
            have h1 := hx η
            obtain ⟨tz, dz, sz⟩ := ez
            simp only at hsz hsrc
            subst hsz; cases hsrc
            have hv := innV_at (c := ⟨n, env, η⟩) hbl hy0
            simp only [At.rp, hez, he, hv] at h1
            have hsp : (SRep.rep k2).cp d = (PTab.split (P := P) k2 d).map Dyn.rp := PTab.split_ok k2 d
            have hju : (SRep.rep k2).cp u = ((PTab.split (P := P) k2 d).take fo ++ Ds ++ (PTab.split (P := P) k2 d).drop (fo + Ds.length)).map Dyn.rp := PTab.join_ok k2 _ u hu
            have h4 := s_fostore (E := E) (N := N) (Ω := openB (oma ⟨n, env, η⟩ O) o (Ty.st k2).rep (η h).hv (η h).S (η h).subs l jx.toNat yl0) (ty := ty) (ρ := (Ty.st k2).rep) (u := u) (φs := Ds.map Dyn.rp) hi (by rw [List.length_map, hDl]; exact sizeT_ok hk) h1 openB_last
              ((opC_part hcs).imp (atsD_imp (c := ⟨n, env, η⟩) hDs))
              (by show (SRep.rep k2).cp u = List.take fo ((SRep.rep k2).cp d) ++ _ ++ List.drop _ ((SRep.rep k2).cp d)
                  rw [hju, hsp]; simp [List.map_take, List.map_drop])
              (by rw [List.length_map]; exact hb.2)
            exact St.inner (hj η) hyl2 h4
          · trivial
        · trivial
      · trivial
    · trivial
end Go.Dc

namespace Go.Dc
section
variable [SRep] [DrawMode] {E : Env} {N : Nat} {a : Act} {w : World}
def renA (h h2 : Nat) : At → At
 | .own o k => bif Nat.beq k h then .own o h2 else .own o k
 | x => x
def MO.isEqv (h h2 : Nat) : MO → Bool
 | .eqv a b => Nat.beq a h && Nat.beq b h2
 | _ => false
def renSt (st : MSt) (h h2 : Nat) : Option MSt := bif st.O.any (MO.isEqv h h2) && (Nat.blt h st.n && Nat.blt h2 st.n) then some ⟨st.n, st.env, mapG (renA h h2) st.G, mapO (renA h h2) st.O⟩ else none
theorem renSt_keeps {st st' : MSt} {h h2 : Nat} (hh : renSt st h h2 = some st') : Keeps st st' := by
 unfold renSt at hh
 cases hb : st.O.any (MO.isEqv h h2) && (Nat.blt h st.n && Nat.blt h2 st.n) with
 | false => rw [hb] at hh; cases hh
 | true =>
  rw [hb] at hh; cases hh
  simp only [Bool.and_eq_true] at hb
  obtain ⟨b0, b1, b2⟩ := hb
  refine ⟨rfl, rfl, fun {E N} η a w hs => ?_⟩
  obtain ⟨m, hm, hp⟩ := List.any_eq_true.1 b0
  have heq : (η h).hv = (η h2).hv := by
   unfold MO.isEqv at hp
   split at hp
   ·rename_i p1 p2
    simp only [Bool.and_eq_true] at hp
    obtain rfl := Nat.eq_of_beq_eq_true hp.1
    obtain rfl := Nat.eq_of_beq_eq_true hp.2
    have := hs.ob _ (List.mem_map_of_mem hm)
    simp only [MO.ob, b1, b2, Bool.and_self, cond_true] at this
    exact this
   ·cases hp
  have hf : ∀ (F : FP) x v, (At.rp ⟨st.n, st.env, η⟩ x).h F w v → ((renA h h2 x).rp ⟨st.n, st.env, η⟩).h F w v := by
   intro F x v hv
   cases x with
   | own o' k' =>
    simp only [renA]
    cases hk : Nat.beq k' h with
    | false => exact hv
    | true =>
     obtain rfl := Nat.eq_of_beq_eq_true hk
     simp only [cond_true]
     rw [own_rp b2]
     rw [own_rp b1] at hv
     rw [← heq]; exact hv
   | _ => exact hv
  have hfr : fr E (oma ⟨st.n, st.env, η⟩ (mapO (renA h h2) st.O)) = fr E (oma ⟨st.n, st.env, η⟩ st.O) := by unfold fr; rw [ow_mapO]
  refine hs.rel (fun t' s' ht => ?_) (fun q hq => ?_) ?_ ?_
  ·rw [lk_mapG] at ht
   obtain ⟨s0, h1, rfl⟩ := Option.map_eq_some_iff.1 ht
   exact ⟨s0, h1, fun v hv => by rw [hfr]; exact map_sh (hf _) hv⟩
  ·rw [hfr]
   obtain ⟨m, hm, rfl⟩ := List.mem_map.1 hq
   obtain ⟨m0, hm0, rfl⟩ := List.mem_map.1 hm
   have h2' := hs.ob (m0.ob ⟨st.n, st.env, η⟩) (List.mem_map_of_mem hm0)
   cases m0 with
   | oc k l => exact map_oc (hf _) h2'
   | dead => exact h2'
   | oa k i => exact h2'
   | pin a b c => exact h2'
   | eqv a b => exact h2'
   | fm a b => exact h2'
  ·rw [ow_mapO]; exact hs.nd
  ·intro b hb'
   rw [ow_mapO] at hb'; exact hb'
end
variable [DrawMode] {R : Type} {P : Program} [PTab P] {E : Env} {N : Nat} {op : Op} {ty : TypeId} {n : Nat} {env : List (Nat × Ent)} {G : List (Nat × Sh)} {O : List MO}

theorem Sat.addP {Γ : List (Nat × RP)} {Ω : List OB} {a : Act} {w : World} {o : OB} (hs : Sat E N Γ Ω a w) (hS : o.S = []) (ho : ∀ F w, o.h F w) : Sat E N Γ (Ω ++ [o]) a w :=
 hs.perm (by unfold ow; rw [List.flatMap_append]; simp [hS]) fun p hp => by
  rcases List.mem_append.1 hp with h | h
  ·exact hs.ob p h
  ·rw [List.mem_singleton.1 h]; exact ho _ _
def dpW (n : Nat) (env : List (Nat × Ent)) (O : List MO) (o h i : Nat) : Option ((t : Ty) × List (List t.den)) := match O[o]? with
 | some (.oa h' i') => bif Nat.beq h' h && (Nat.blt h n && Nat.beq i' i) then (match lkE env i with
  | some ⟨.dp t, d, _⟩ => some ⟨t, d⟩
  | _ => none) else none
 | _ => none
theorem dpW_ok {o h i : Nat} {t : Ty} {d : List (List t.den)} (hh : dpW n env O o h i = some ⟨t, d⟩) :
  Nat.blt h n = true ∧ o < O.length ∧ (∃ s, lkE env i = some ⟨.dp t, d, s⟩) ∧ ∀ η, (oma ⟨n, env, η⟩ O)[o]? = some (od t.rep (η h).hv (η h).S (η h).subs d) := by
 unfold dpW at hh
 split at hh
 ·rename_i h' i' ho
  have hlt := (List.getElem?_eq_some_iff.1 ho).1
  cases hb : Nat.beq h' h && (Nat.blt h n && Nat.beq i' i) with
  | false => rw [hb] at hh; cases hh
  | true =>
   rw [hb] at hh
   simp only [Bool.and_eq_true] at hb
   obtain rfl := Nat.eq_of_beq_eq_true hb.1
   obtain rfl := Nat.eq_of_beq_eq_true hb.2.2
   simp only [cond_true] at hh
   split at hh
   ·rename_i t' d' s' he
    cases hh
    refine ⟨hb.2.1, hlt, ⟨s', he⟩, fun η => ?_⟩
    simp only [oma, List.getElem?_map, ho, Option.map_some, MO.ob, he, Dyn.ob, hb.2.1, cond_true]
   ·cases hh
 ·cases hh
def dhW (n : Nat) (env : List (Nat × Ent)) (O : List MO) (o h e0 k : Nat) : Option (Int × (t : Ty) × List (List t.den)) := match O[o]? with
 | some (.oa h' i') => bif Nat.beq h' h && (Nat.blt h n && Nat.beq i' e0) then (match lkE env e0 with
  | some ⟨.dh t, q, some (.hl _ k' _)⟩ => bif Nat.beq k' k then some (q.1, ⟨t, q.2⟩) else none
  | _ => none) else none
 | _ => none
theorem dhW_ok (hw : WF n env) {o h e0 k : Nat} {q : Int} {t : Ty} {d : List (List t.den)} (hh : dhW n env O o h e0 k = some (q, ⟨t, d⟩)) :
  Nat.blt h n = true ∧ o < O.length ∧ (∃ s, lkE env e0 = some ⟨.dh t, (q, d), s⟩) ∧ (∃ kd s', lkE env k = some ⟨.int kd, q, s'⟩) ∧ ∀ η, (oma ⟨n, env, η⟩ O)[o]? = some (oh t.rep (η h).hv (η h).S (η h).subs q.toNat d) := by
 unfold dhW at hh
 split at hh
 ·rename_i h' i' ho
  have hlt := (List.getElem?_eq_some_iff.1 ho).1
  cases hb : Nat.beq h' h && (Nat.blt h n && Nat.beq i' e0) with
  | false => rw [hb] at hh; cases hh
  | true =>
   rw [hb] at hh
   simp only [Bool.and_eq_true] at hb
   obtain rfl := Nat.eq_of_beq_eq_true hb.1
   obtain rfl := Nat.eq_of_beq_eq_true hb.2.2
   simp only [cond_true] at hh
   split at hh
   ·rename_i t' q' i9 k' y9 he
    cases hk : Nat.beq k' k with
    | false => rw [hk] at hh; cases hh
    | true =>
     obtain rfl := Nat.eq_of_beq_eq_true hk
     rw [hk] at hh; cases hh
     obtain ⟨t2, ix2, l2, _, _, g1, ⟨kd, s', g2⟩, _⟩ := hw.src _ _ he
     cases g1
     refine ⟨hb.2.1, hlt, ⟨_, he⟩, ⟨kd, s', g2⟩, fun η => ?_⟩
     simp only [oma, List.getElem?_map, ho, Option.map_some, MO.ob, he, Dyn.ob, hb.2.1, cond_true]
   ·cases hh
 ·cases hh
theorem dstore_one (hw : WF n env) {t : TypeId} {x y : Operand} {o h o2 h2 : Nat} {u : Ty} {d : List (List u.den)} {zl : List u.den} {ix : Int} (h1 : Nat.blt h n = true) (g1 : Nat.blt h2 n = true)
  (hst : ∀ η, St P E N (.store t x y) ty (gma ⟨n, env, η⟩ G) (oma ⟨n, env, η⟩ O) [o] (fun _ : Unit => pv undef) (fun _ => ((oma ⟨n, env, η⟩ O).set o (od u.rep (η h).hv (η h).S (updS (η h).subs ix.toNat ⟨(η h2).hv, (η h2).S, (η h2).one⟩) (d.set ix.toNat zl))).set o2 Dc.dead)) :
  OpOk P E N (.store t x y) ty n env G O ⟨.undef, [⟨.dp u, d.set ix.toNat zl, none⟩], 1, [(o, .oa (n + 1) n), (o2, .dead)], [.eqv h (n + 1)]⟩ := by
 have hsrc : ∀ e ∈ [(⟨.dp u, d.set ix.toNat zl, none⟩ : Ent)], SrcOk env e := fun e he => by rw [List.mem_singleton.1 he]; exact .none rfl
 refine ⟨hsrc, (fun hq _ _ _ _ => by cases hq), fun η => ?_⟩
 intro a w hs op' hop hty
 refine (hst η a w hs op' hop hty).mono ?_
 rintro v w' ⟨_, s1, s2', s3'⟩
 have hX : Ext ⟨n, env, η⟩ _ := OpOk.ext hw (r := ⟨.undef, [⟨.dp u, d.set ix.toNat zl, none⟩], 1, [(o, .oa (n + 1) n), (o2, .dead)], [.eqv h (n + 1)]⟩) hsrc ⟨updH η (n + 1) ⟨(η h).hv, (η h).S, 0, (η h).one, updS (η h).subs ix.toNat ⟨(η h2).hv, (η h2).S, (η h2).one⟩⟩, fun k hk => updH_lt (by omega)⟩
 have e0' := oma_good hX hs
 have hn : h < n := by simpa [Nat.blt_eq] using h1
 have s4 := s1.addP (o := eqvOB (η h) ⟨(η h).hv, (η h).S, 0, (η h).one, updS (η h).subs ix.toNat ⟨(η h2).hv, (η h2).S, (η h2).one⟩⟩) rfl (fun _ _ => rfl)
 have e1 : oma (OpR.cx' ⟨.undef, [⟨.dp u, d.set ix.toNat zl, none⟩], 1, [(o, .oa (n + 1) n), (o2, .dead)], [.eqv h (n + 1)]⟩ n env (updH η (n + 1) ⟨(η h).hv, (η h).S, 0, (η h).one, updS (η h).subs ix.toNat ⟨(η h2).hv, (η h2).S, (η h2).one⟩⟩)) (OpR.O' ⟨.undef, [⟨.dp u, d.set ix.toNat zl, none⟩], 1, [(o, .oa (n + 1) n), (o2, .dead)], [.eqv h (n + 1)]⟩ O) =
   ((oma ⟨n, env, η⟩ O).set o (od u.rep (η h).hv (η h).S (updS (η h).subs ix.toNat ⟨(η h2).hv, (η h2).S, (η h2).one⟩) (d.set ix.toNat zl))).set o2 Dc.dead ++ [eqvOB (η h) ⟨(η h).hv, (η h).S, 0, (η h).one, updS (η h).subs ix.toNat ⟨(η h2).hv, (η h2).S, (η h2).one⟩⟩] := by
  simp only [OpR.O', updO]
  unfold oma at e0' ⊢
  rw [List.map_append, List.map_set, List.map_set, e0']
  have b1 : Nat.blt (n + 1) (n + 1 + 1) = true := by simp [Nat.blt_eq]
  have b2 : Nat.blt h (n + 1 + 1) = true := blt_mono h1 (by omega)
  have l1 : lkE (keyed n [(⟨.dp u, d.set ix.toNat zl, none⟩ : Ent)] env) n = some ⟨.dp u, d.set ix.toNat zl, none⟩ := by simp [keyed, lkE_cons]
  have u1 : updH η (n + 1) (⟨(η h).hv, (η h).S, 0, (η h).one, updS (η h).subs ix.toNat ⟨(η h2).hv, (η h2).S, (η h2).one⟩⟩ : Hd) h = η h := updH_lt (by omega)
  congr 1
  ·congr 1
   congr 1
   simp only [MO.ob, OpR.cx', OpR.env', OpR.n', l1, Dyn.ob, updH_at, List.length_singleton, b1, cond_true]
  ·simp only [List.map_cons, List.map_nil, MO.ob, OpR.cx', OpR.n', u1, updH_at, List.length_singleton, b1, b2, cond_true, Bool.and_self]
 refine ⟨⟨updH η (n + 1) ⟨(η h).hv, (η h).S, 0, (η h).one, updS (η h).subs ix.toNat ⟨(η h2).hv, (η h2).S, (η h2).one⟩⟩, fun k hk => updH_lt (by omega)⟩, ?_, ?_, ?_⟩
 ·show Sat E N _ (oma _ _) a w'
  rw [e1]; exact s4
 ·exact s2'
 ·refine ⟨s3'.size, fun b hb hn' => s3'.keep b hb fun j hj => hn' j (by rw [List.mem_singleton.1 hj]; simp), fun b hb hm => ?_⟩
  have hm' : b ∈ ow (oma _ _) := hm
  rw [e1] at hm'
  obtain ⟨o', q2, q3⟩ := List.mem_flatMap.1 hm'
  rcases List.mem_append.1 q2 with q2 | q2
  ·exact s3'.own b hb (List.mem_flatMap.2 ⟨o', q2, q3⟩)
  ·rw [List.mem_singleton.1 q2] at q3; cases q3
def dstoreE (P : Program) [PTab P] (n : Nat) (env : List (Nat × Ent)) (G : List (Nat × Sh)) (O : List MO) (t : TypeId) (x y : Operand) : Ask OpR := Ask.of (elT P t) fun c => Ask.of (opA G x) fun a => Ask.of (opA G y) fun b => match a, b with
 | .oea o h ya, .own o2 h2 => match lkE env ya with
  | some ⟨.sl u, _, some (.dl e0 kx ix)⟩ => Ask.when (!Nat.beq o o2) <| Ask.of (ownA n env O o2 h2) fun z => match dhW n env O o h e0 kx with
   | some q => if hz : c.1 = .sl u ∧ z.2.1 = q.2.1 then
    .ret ⟨.undef, [⟨.dp q.2.1, q.2.2.set q.1.toNat (hz.2 ▸ z.2.2), none⟩], 1, [(o, .oa (n + 1) n), (o2, .dead)], [.eqv h (n + 1)]⟩ else .fail
   | none => Ask.of (dpW n env O o h e0) fun q => if hz : c.1 = .sl u ∧ z.2.1 = q.1 then
    .ret ⟨.undef, [⟨.dp q.1, q.2.set ix.toNat (hz.2 ▸ z.2.2), none⟩], 1, [(o, .oa (n + 1) n), (o2, .dead)], [.eqv h (n + 1)]⟩ else .fail
  | _ => .fail
 | _, _ => .fail
theorem dstoreE_ok (hw : WF n env) {t : TypeId} {x y : Operand} : AskOk (OpOk P E N (.store t x y) ty n env G O) (dstoreE P n env G O t x y) := by
 unfold dstoreE
 refine AskOk.of fun c hc => AskOk.of fun a ha => AskOk.of fun b hb => ?_
 split
 ·rename_i o h ya o2 h2
  split
  ·rename_i u yd e0 kx ix he
   refine AskOk.when fun hoo => AskOk.of fun z hz => ?_
   have hne : o ≠ o2 := fun e => by subst e; simp at hoo
   split
   ·rename_i q hq
    split
    ·rename_i hct
     obtain ⟨c1, c2⟩ := c
     obtain ⟨q0, t', d⟩ := q
     obtain ⟨i2, tz, zl⟩ := z
     obtain ⟨hc1, hu⟩ := hct
     simp only at hc1 hu
     subst hc1; subst hu
     obtain ⟨h1, hlo, ⟨s, h3⟩, ⟨kd, s', h4⟩, h5⟩ := dhW_ok hw hq
     obtain ⟨g1, g2, ⟨s2, g3⟩, g4⟩ := ownA_ok hz
     obtain ⟨t2, l2, s3, y3, w1, w2, w3, kd2, sk2, w4⟩ := hw.src ya _ he
     rcases w1 with w1 | ⟨q2, w1⟩
     ·rw [h3] at w1; cases w1
     ·rw [h3] at w1; cases w1; cases w3
      rw [h4] at w4; cases w4
      obtain ⟨y0, y1, y2, y3'⟩ := idxM_some w2
      refine dstore_one hw h1 g1 fun η => ?_
      have hx := opA_rp (c := ⟨n, env, η⟩) ha
      have hx2 : lkO (gma ⟨n, env, η⟩ G) x = some (pv (elA (η h).hv rH.size ix)) := by rw [hx]; simp only [At.rp, he, h1, cond_true]
      have hy := opA_rp (c := ⟨n, env, η⟩) hb
      rw [own_rp (c := ⟨n, env, η⟩) g1] at hy
      exact s_dstore (P := P) (E := E) (N := N) (ty := ty) (Γ := gma ⟨n, env, η⟩ G) (Ω := oma ⟨n, env, η⟩ O) (ρ := u.rep) y0 y1 (elT_head (elT_ok hc)) hx2 (h5 η) (g4 η) hne (η h2).one hy
    ·trivial
   ·refine AskOk.of fun q hq => ?_
    split
    ·rename_i hct
     obtain ⟨c1, c2⟩ := c
     obtain ⟨t', d⟩ := q
     obtain ⟨i2, tz, zl⟩ := z
     obtain ⟨hc1, hu⟩ := hct
     simp only at hc1 hu
     subst hc1; subst hu
     obtain ⟨h1, hlo, ⟨s, h3⟩, h5⟩ := dpW_ok hq
     obtain ⟨g1, g2, ⟨s2, g3⟩, g4⟩ := ownA_ok hz
     obtain ⟨hu, hix⟩ := dl_at hw he ⟨_, .inl h3⟩
     subst hu
     obtain ⟨y0, y1, y2, y3'⟩ := idxM_some hix
     refine dstore_one hw h1 g1 fun η => ?_
     have hx := opA_rp (c := ⟨n, env, η⟩) ha
     have hx2 : lkO (gma ⟨n, env, η⟩ G) x = some (pv (elA (η h).hv rH.size ix)) := by rw [hx]; simp only [At.rp, he, h1, cond_true]
     have hy := opA_rp (c := ⟨n, env, η⟩) hb
     rw [own_rp (c := ⟨n, env, η⟩) g1] at hy
     exact s_dstoreW (P := P) (E := E) (N := N) (ty := ty) (Γ := gma ⟨n, env, η⟩ G) (Ω := oma ⟨n, env, η⟩ O) (ρ := u.rep) y0 y1 (elT_head (elT_ok hc)) hx2 (h5 η) (g4 η) hne (η h2).one hy
    ·trivial
  ·trivial
 ·trivial
end Go.Dc

namespace Go.Dc
theorem idx_set {α : Type} {l : List α} {ix : Int} {x y : α} (h : idxM l ix = some y) : idxM (l.set ix.toNat x) ix = some x := by
 obtain ⟨p0, _, p2, _⟩ := idxM_some h
 unfold idxM
 rw [if_pos p0, List.getElem?_set_self p2]
section
variable [SRep] [DrawMode] {E : Env} {N : Nat} {a : Act} {w : World}

def Goes (st st' : MSt) : Prop := WF st.n st.env → WF st'.n st'.env ∧ ∀ η, ∃ η', Ext ⟨st.n, st.env, η⟩ ⟨st'.n, st'.env, η'⟩ ∧ ∀ {E : Env} {N : Nat} a w, Sat E N (gma ⟨st.n, st.env, η⟩ st.G) (oma ⟨st.n, st.env, η⟩ st.O) a w →
 Sat E N (gma ⟨st'.n, st'.env, η'⟩ st'.G) (oma ⟨st'.n, st'.env, η'⟩ st'.O) a w ∧ ∀ b, b ∈ ow (oma ⟨st'.n, st'.env, η'⟩ st'.O) → b ∈ ow (oma ⟨st.n, st.env, η⟩ st.O)
theorem Goes.refl (st : MSt) : Goes st st := fun hw => ⟨hw, fun η => ⟨η, .refl _, fun _ _ h => ⟨h, fun _ hb => hb⟩⟩⟩
theorem Goes.trans {a b c : MSt} (h : Goes a b) (k : Goes b c) : Goes a c := fun hw => by
 obtain ⟨hw1, h1⟩ := h hw
 obtain ⟨hw2, h2⟩ := k hw1
 refine ⟨hw2, fun η => ?_⟩
 obtain ⟨η1, x1, s1⟩ := h1 η
 obtain ⟨η2, x2, s2⟩ := h2 η1
 exact ⟨η2, x1.trans x2, fun a w hs => ⟨(s2 a w (s1 a w hs).1).1, fun b hb => (s1 a w hs).2 b ((s2 a w (s1 a w hs).1).2 b hb)⟩⟩

theorem Sat.mapf {c : Cx} {G : List (Nat × Sh)} {O : List MO} {f : At → At} (hf : ∀ (F : FP) x v, (At.rp c x).h F w v → ((f x).rp c).h F w v) (hs : Sat E N (gma c G) (oma c O) a w) : Sat E N (gma c (mapG f G)) (oma c (mapO f O)) a w := by
 have hfr : fr E (oma c (mapO f O)) = fr E (oma c O) := by unfold fr; rw [ow_mapO]
 refine hs.rel (fun t' s' ht => ?_) (fun q hq => ?_) ?_ ?_
 ·rw [lk_mapG] at ht
  obtain ⟨s0, h1, rfl⟩ := Option.map_eq_some_iff.1 ht
  exact ⟨s0, h1, fun v hv => by rw [hfr]; exact map_sh (hf _) hv⟩
 ·rw [hfr]
  obtain ⟨m, hm, rfl⟩ := List.mem_map.1 hq
  obtain ⟨m0, hm0, rfl⟩ := List.mem_map.1 hm
  have h2' := hs.ob (m0.ob c) (List.mem_map_of_mem hm0)
  cases m0 with
  | oc k l => exact map_oc (hf _) h2'
  | dead => exact h2'
  | oa k i => exact h2'
  | pin a b c => exact h2'
  | eqv a b => exact h2'
  | fm a b => exact h2'
 ·rw [ow_mapO]; exact hs.nd
 ·intro b hb'
  rw [ow_mapO] at hb'; exact hb'
theorem Sat.mapGoes {n : Nat} {env : List (Nat × Ent)} {G : List (Nat × Sh)} {O : List MO} {f : At → At} {η : Nat → Hd} (hf : ∀ (F : FP) x v, (At.rp ⟨n, env, η⟩ x).h F w v → ((f x).rp ⟨n, env, η⟩).h F w v) (hs : Sat E N (gma ⟨n, env, η⟩ G) (oma ⟨n, env, η⟩ O) a w) :
  Sat E N (gma ⟨n, env, η⟩ (mapG f G)) (oma ⟨n, env, η⟩ (mapO f O)) a w ∧ ∀ b, b ∈ ow (oma ⟨n, env, η⟩ (mapO f O)) → b ∈ ow (oma ⟨n, env, η⟩ O) :=
 ⟨hs.mapf hf, fun b hb => by rw [ow_mapO] at hb; exact hb⟩

theorem renSt_goes {st st' : MSt} {h h2 : Nat} (hh : renSt st h h2 = some st') : Goes st st' := fun hw => by
 have hk := renSt_keeps hh
 unfold renSt at hh
 cases hb : st.O.any (MO.isEqv h h2) && (Nat.blt h st.n && Nat.blt h2 st.n) with
 | false => rw [hb] at hh; cases hh
 | true =>
  rw [hb] at hh; cases hh
  exact ⟨hw, fun η => ⟨η, .refl _, fun a w hs => ⟨hk.2.2 η a w hs, fun b hb' => by rw [ow_mapO] at hb'; exact hb'⟩⟩⟩
def eqvs : List MO → List (Nat × Nat)
 | [] => []
 | .eqv h h2 :: r => (h, h2) :: eqvs r
 | _ :: r => eqvs r
def renL : List (Nat × Nat) → MSt → MSt
 | [], st => st
 | (h, h2) :: r, st => match renSt st h h2 with
  | some st' => renL r st'
  | none => renL r st
theorem renL_goes : ∀ {l : List (Nat × Nat)} {st : MSt}, Goes st (renL l st)
 | [], st => .refl _
 | (h, h2) :: r, st => by
  unfold renL
  split
  ·rename_i st' hst; exact (renSt_goes hst).trans renL_goes
  ·exact renL_goes
def MO.noEqv : MO → MO
 | .eqv _ _ => .dead
 | o => o
theorem noEqv_goes {st : MSt} : Goes st ⟨st.n, st.env, st.G, st.O.map MO.noEqv⟩ := fun hw => by
 refine ⟨hw, fun η => ⟨η, .refl _, fun a w hs => ?_⟩⟩
 have how : ow (oma ⟨st.n, st.env, η⟩ (st.O.map MO.noEqv)) = ow (oma ⟨st.n, st.env, η⟩ st.O) := by
  unfold ow oma
  rw [List.map_map, List.flatMap_def, List.flatMap_def, List.map_map, List.map_map]
  congr 1
  refine List.map_congr_left fun m _ => ?_
  cases m with
  | eqv x y =>
   show ([] : List Nat) = (MO.ob _ (.eqv x y)).S
   simp only [MO.ob]
   cases Nat.blt x st.n && Nat.blt y st.n <;> rfl
  | _ => rfl
 refine ⟨hs.perm (by rw [how]) fun o ho => ?_, fun b hb => by rw [how] at hb; exact hb⟩
 obtain ⟨m, hm, rfl⟩ := List.mem_map.1 ho
 obtain ⟨m0, hm0, rfl⟩ := List.mem_map.1 hm
 cases m0 with
 | eqv x y => trivial
 | _ => exact hs.ob _ (List.mem_map_of_mem hm0)
def renAll (st : MSt) : MSt := match eqvs st.O with
 | [] => st
 | l => ⟨(renL l st).n, (renL l st).env, (renL l st).G, (renL l st).O.map MO.noEqv⟩
theorem renAll_goes {st : MSt} : Goes st (renAll st) := by
 unfold renAll
 split
 ·exact .refl _
 ·exact renL_goes.trans noEqv_goes

def opnA (h y L h2 : Nat) : At → At
 | .inn o k z => bif Nat.beq k h && Nat.beq z y then .own L h2 else .inn o k z
 | x => x
def openSt (st : MSt) (o h y : Nat) : Option MSt := match lkE st.env y, st.O[o]? with
 | some ⟨.sl u, _, some (.dl i0 k jx)⟩, some (.oa h' i) => bif Nat.beq h' h && (Nat.blt h st.n && Nat.beq i i0) then (match lkE st.env i0 with
  | some ⟨.dp t, d, _⟩ => if u = t then some ⟨st.n + 2, (st.n, ⟨.dh t, (jx, d), some (.hl i0 k y)⟩) :: st.env, mapG (opnA h y st.O.length (st.n + 1)) st.G,
    mapO (opnA h y st.O.length (st.n + 1)) (st.O.set o (.oa h st.n) ++ [.oa (st.n + 1) y, .pin h (st.n + 1) st.n])⟩ else none
  | _ => none) else none
 | _, _ => none
theorem openSt_goes {st st' : MSt} {o h y : Nat} (hh : openSt st o h y = some st') : Goes st st' := fun hw => by
 unfold openSt at hh
 split at hh
 ·rename_i u yd i0 k jx h' i he hO
  cases hb : Nat.beq h' h && (Nat.blt h st.n && Nat.beq i i0) with
  | false => rw [hb] at hh; cases hh
  | true =>
   rw [hb] at hh
   simp only [Bool.and_eq_true] at hb
   obtain rfl := Nat.eq_of_beq_eq_true hb.1
   obtain rfl := Nat.eq_of_beq_eq_true hb.2.2
   have h1 := hb.2.1
   simp only [cond_true] at hh
   split at hh
   ·rename_i t d s hi
    split at hh
    ·rename_i hu
     subst hu
     cases hh
     obtain ⟨hu, hix⟩ := dl_at hw he ⟨_, .inl hi⟩
     obtain ⟨t2, l, s2, y2, g1, g2, g3, kd, sk, g4⟩ := hw.src y _ he
     cases g3
     obtain ⟨y0, y1, y2', y3⟩ := idxM_some hix
     have hn : h' < st.n := by simpa [Nat.blt_eq] using h1
     have hyn : y < st.n := hw.lt y _ he
     have hw1 : WF (st.n + 1) ((st.n, (⟨.dh u, (jx, d), some (.hl i k y)⟩ : Ent)) :: st.env) := hw.cons ⟨u, jx, d, _, _, rfl, ⟨kd, sk, g4⟩, hi, he, hix⟩
     refine ⟨hw1.le (by simp only; omega), fun η => ?_⟩
     let H : Hd := ⟨((η h').subs jx.toNat).v, ((η h').subs jx.toNat).S, 0, ((η h').subs jx.toNat).one, fun _ => nilB⟩
     let η' := updH η (st.n + 1) H
     have hx : Ext ⟨st.n, st.env, η⟩ ⟨st.n + 2, (st.n, (⟨.dh u, (jx, d), some (.hl i k y)⟩ : Ent)) :: st.env, η'⟩ := ⟨by simp, fun i e he => by
      have := hw.lt i e he
      simp only [lkE_cons]; rw [if_neg (by omega)]; exact he, fun x hx => updH_lt (by simp only at hx; omega)⟩
     refine ⟨η', hx, fun {E N} a w hs => ?_⟩
     have hjO : (oma ⟨st.n, st.env, η⟩ st.O)[o]? = some (od u.rep (η h').hv (η h').S (η h').subs d) := by
      simp only [oma, List.getElem?_map, hO, Option.map_some, MO.ob, hi, Dyn.ob, h1, cond_true]
     have s4 := (hs.open_ hjO (k := jx.toNat) y2').addP (o := pinOB (η h') H jx.toNat) rfl (fun _ _ => ⟨rfl, rfl⟩)
     rw [y3] at s4
     have e0 := oma_good hx hs
     have b1 : Nat.blt (st.n + 1) (st.n + 2) = true := by simp [Nat.blt_eq]
     have b2 : Nat.blt h' (st.n + 2) = true := blt_mono h1 (by omega)
     have l1 : lkE ((st.n, (⟨.dh u, (jx, d), some (.hl i k y)⟩ : Ent)) :: st.env) st.n = some ⟨.dh u, (jx, d), some (.hl i k y)⟩ := by simp [lkE_cons]
     have l2 : lkE ((st.n, (⟨.dh u, (jx, d), some (.hl i k y)⟩ : Ent)) :: st.env) y = some ⟨.sl u, yd, some (.dl i k jx)⟩ := by
      simp only [lkE_cons]; rw [if_neg (by omega)]; exact he
     have u1 : η' h' = η h' := updH_lt (by omega)
     have u2 : η' (st.n + 1) = H := updH_at
     have e1 : oma ⟨st.n + 2, (st.n, (⟨.dh u, (jx, d), some (.hl i k y)⟩ : Ent)) :: st.env, η'⟩ (st.O.set o (.oa h' st.n) ++ [.oa (st.n + 1) y, .pin h' (st.n + 1) st.n]) =
       (oma ⟨st.n, st.env, η⟩ st.O).set o (oh u.rep (η h').hv (η h').S (η h').subs jx.toNat d) ++ [oa u.rep ((η h').subs jx.toNat).v ((η h').subs jx.toNat).S yd] ++ [pinOB (η h') H jx.toNat] := by
      unfold oma at e0 ⊢
      rw [List.map_append, List.map_set, e0, List.append_assoc]
      congr 1
      ·congr 1
       simp only [MO.ob, l1, Dyn.ob, u1, b2, cond_true]
      ·simp only [List.map_cons, List.map_nil, MO.ob, l1, l2, Dyn.ob, u1, u2, b1, b2, cond_true, Option.bind_some, Ent.asHole, Bool.and_self, List.cons_append, List.nil_append]
       rfl
     have s5 : Sat E N (gma ⟨st.n, st.env, η⟩ st.G) (oma ⟨st.n + 2, (st.n, (⟨.dh u, (jx, d), some (.hl i k y)⟩ : Ent)) :: st.env, η'⟩ (st.O.set o (.oa h' st.n) ++ [.oa (st.n + 1) y, .pin h' (st.n + 1) st.n])) a w := by rw [e1]; exact s4
     have s6 := Sat.mextΓ0 hx s5
     have hsub : ∀ b, b ∈ ow (oma ⟨st.n + 2, (st.n, (⟨.dh u, (jx, d), some (.hl i k y)⟩ : Ent)) :: st.env, η'⟩ (st.O.set o (.oa h' st.n) ++ [.oa (st.n + 1) y, .pin h' (st.n + 1) st.n])) → b ∈ ow (oma ⟨st.n, st.env, η⟩ st.O) := by
      intro b hb
      rw [e1] at hb
      have hp := openB_perm (x := yd) hjO y2'
      refine hp.mem_iff.1 ?_
      simpa [openB, ow, pinOB] using hb
     have hf : ∀ (F : FP) x v, (At.rp ⟨st.n + 2, (st.n, (⟨.dh u, (jx, d), some (.hl i k y)⟩ : Ent)) :: st.env, η'⟩ x).h F w v → ((opnA h' y st.O.length (st.n + 1) x).rp ⟨st.n + 2, (st.n, (⟨.dh u, (jx, d), some (.hl i k y)⟩ : Ent)) :: st.env, η'⟩).h F w v := by
      intro F x v hv
      cases x with
      | inn o2 k2 z =>
       simp only [opnA]
       cases hk : Nat.beq k2 h' && Nat.beq z y with
       | false => exact hv
       | true =>
        simp only [Bool.and_eq_true] at hk
        obtain rfl := Nat.eq_of_beq_eq_true hk.1
        obtain rfl := Nat.eq_of_beq_eq_true hk.2
        simp only [cond_true]
        rw [own_rp b1]
        rw [inn_rp (innV_at (c := ⟨st.n + 2, (st.n, (⟨.dh u, (jx, d), some (.hl i k z)⟩ : Ent)) :: st.env, η'⟩) b2 l2)] at hv
        simp only [u1] at hv
        simp only [u2]
        exact hv
      | _ => exact hv
     have s7 := Sat.mapGoes hf s6
     exact ⟨s7.1, fun b hb => hsub b (s7.2 b hb)⟩
    ·cases hh
   ·cases hh
 ·cases hh

def MO.isPin (h h' e0 : Nat) : MO → Bool
 | .pin a b c => Nat.beq a h && (Nat.beq b h' && Nat.beq c e0)
 | _ => false
def clsA (o h y h' : Nat) : At → At
 | .own p k => bif Nat.beq k h' then .inn o h y else .own p k
 | x => x
def closeSt (st : MSt) (o o' : Nat) : Option MSt := match st.O[o]?, st.O[o']? with
  | some (.oa h e0), some (.oa h' y) => match lkE st.env e0, lkE st.env y with
    | some ⟨.dh t, q, some (.hl i0 k y0)⟩, some ⟨.sl u, x, _⟩ => if hu : u = t then
        bif (!Nat.beq o o' && (Nat.blt h st.n && Nat.blt h' st.n)) && st.O.any (MO.isPin h h' e0) then
          (bif Nat.beq y y0 then some ⟨st.n, st.env, mapG (clsA o h y0 h') st.G, mapO (clsA o h y0 h') ((st.O.set o (.oa h i0)).set o' .dead)⟩
           else some ⟨st.n + 2, (st.n + 1, ⟨.sl t, hu ▸ x, some (.dl st.n k q.1)⟩) :: (st.n, ⟨.dp t, q.2.set q.1.toNat (hu ▸ x), none⟩) :: st.env,
              mapG (clsA o h (st.n + 1) h') st.G, mapO (clsA o h (st.n + 1) h') ((st.O.set o (.oa h st.n)).set o' .dead)⟩) else none
      else none
    | _, _ => none
  | _, _ => none
theorem closeSt_goes {o o' : Nat} {st st' : MSt} (hh : closeSt st o o' = some st') : Goes st st' := fun hw => by
 unfold closeSt at hh
 split at hh
 ·rename_i h e0 h' y hO hO'
  split at hh
  ·rename_i t q i0 k y0 u x s1 he0 hy
   split at hh
   ·rename_i hu
    subst hu
    cases hb : (!Nat.beq o o' && (Nat.blt h st.n && Nat.blt h' st.n)) && st.O.any (MO.isPin h h' e0) with
    | false => rw [hb] at hh; cases hh
    | true =>
     rw [hb] at hh
     simp only [cond_true] at hh
     simp only [Bool.and_eq_true, Bool.not_eq_true'] at hb
     obtain ⟨⟨b1, b2, b3⟩, b4⟩ := hb
     have hne : o ≠ o' := fun e => by subst e; simp at b1
     obtain ⟨tq, ix, lq, sa, yd, w1, ⟨kd, sk, w2⟩, w3, w4, w5⟩ := hw.src e0 _ he0
     cases w1
     obtain ⟨p0, p1, p2, p3⟩ := idxM_some w5
     -- the pin
     have hpin : ∀ {E : Env} {N : Nat} (η : Nat → Hd) a w, Sat E N (gma ⟨st.n, st.env, η⟩ st.G) (oma ⟨st.n, st.env, η⟩ st.O) a w → (η h').hv = ((η h).subs ix.toNat).v ∧ (η h').S = ((η h).subs ix.toNat).S := fun η a w hs => by
      obtain ⟨m, hm, hp⟩ := List.any_eq_true.1 b4
      unfold MO.isPin at hp
      split at hp
      ·rename_i p1 p2 p3
       simp only [Bool.and_eq_true] at hp
       obtain rfl := Nat.eq_of_beq_eq_true hp.1
       obtain rfl := Nat.eq_of_beq_eq_true hp.2.1
       obtain rfl := Nat.eq_of_beq_eq_true hp.2.2
       have := hs.ob _ (List.mem_map_of_mem hm)
       simp only [MO.ob, he0, Option.bind_some, Ent.asHole, b2, b3, Bool.and_self, cond_true] at this
       exact this
      ·cases hp
     -- what comes out, for an entry of the whole and one of the part
     have core : ∀ (n2 : Nat) (env2 : List (Nat × Ent)) (iw yw : Nat), st.n ≤ n2 → (∀ i e, lkE st.env i = some e → lkE env2 i = some e) → (∃ s, lkE env2 iw = some ⟨.dp u, lq.set ix.toNat x, s⟩) → (∃ t0 d0 i9 k9, lkE env2 yw = some ⟨t0, d0, some (.dl i9 k9 ix)⟩) →
       ∀ η, ∃ η', Ext ⟨st.n, st.env, η⟩ ⟨n2, env2, η'⟩ ∧ ∀ {E : Env} {N : Nat} a w, Sat E N (gma ⟨st.n, st.env, η⟩ st.G) (oma ⟨st.n, st.env, η⟩ st.O) a w →
        Sat E N (gma ⟨n2, env2, η'⟩ (mapG (clsA o h yw h') st.G)) (oma ⟨n2, env2, η'⟩ (mapO (clsA o h yw h') ((st.O.set o (.oa h iw)).set o' .dead))) a w ∧
        ∀ b, b ∈ ow (oma ⟨n2, env2, η'⟩ (mapO (clsA o h yw h') ((st.O.set o (.oa h iw)).set o' .dead))) → b ∈ ow (oma ⟨st.n, st.env, η⟩ st.O) := by
      intro n2 env2 iw yw hn2 henv hiw hyw η
      obtain ⟨siw, hiw⟩ := hiw
      obtain ⟨t0, d0, i9, k9, hyw⟩ := hyw
      have hx : Ext ⟨st.n, st.env, η⟩ ⟨n2, env2, η⟩ := ⟨hn2, henv, fun _ _ => rfl⟩
      refine ⟨η, hx, fun {E N} a w hs => ?_⟩
      have hp := hpin η a w hs
      have j1 : (oma ⟨st.n, st.env, η⟩ st.O)[o]? = some (oh u.rep (η h).hv (η h).S (η h).subs ix.toNat lq) := by
       simp only [oma, List.getElem?_map, hO, Option.map_some, MO.ob, he0, Dyn.ob, b2, cond_true]
      have j2 : (oma ⟨st.n, st.env, η⟩ st.O)[o']? = some (oa u.rep ((η h).subs ix.toNat).v ((η h).subs ix.toNat).S x) := by
       simp only [oma, List.getElem?_map, hO', Option.map_some, MO.ob, hy, Dyn.ob, b3, cond_true, hp.1, hp.2]
      have s2 := hs.closeA j1 j2 hne
      have e0' := oma_good hx hs
      have e1 : oma ⟨n2, env2, η⟩ ((st.O.set o (.oa h iw)).set o' .dead) = ((oma ⟨st.n, st.env, η⟩ st.O).set o (od u.rep (η h).hv (η h).S (η h).subs (lq.set ix.toNat x))).set o' Dc.dead := by
       unfold oma at e0' ⊢
       rw [List.map_set, List.map_set, e0']
       congr 1
       congr 1
       simp only [MO.ob, hiw, Dyn.ob]
       rw [blt_mono b2 hn2]; rfl
      have s5 : Sat E N (gma ⟨st.n, st.env, η⟩ st.G) (oma ⟨n2, env2, η⟩ ((st.O.set o (.oa h iw)).set o' .dead)) a w := by rw [e1]; exact s2
      have s6 := Sat.mextΓ0 hx s5
      have hf : ∀ (F : FP) z v, (At.rp ⟨n2, env2, η⟩ z).h F w v → ((clsA o h yw h' z).rp ⟨n2, env2, η⟩).h F w v := by
       intro F z v hv
       cases z with
       | own p k2 =>
        simp only [clsA]
        cases hk : Nat.beq k2 h' with
        | false => exact hv
        | true =>
         obtain rfl := Nat.eq_of_beq_eq_true hk
         simp only [cond_true]
         rw [own_rp (blt_mono b3 hn2)] at hv
         rw [inn_rp (innV_at (c := ⟨n2, env2, η⟩) (blt_mono b2 hn2) hyw)]
         simp only [hp.1] at hv
         exact hv
       | _ => exact hv
      have s7 := Sat.mapGoes hf s6
      refine ⟨s7.1, fun b hb => ?_⟩
      have hb2 := s7.2 b hb
      rw [e1] at hb2
      obtain ⟨ob, h2, h3⟩ := List.mem_flatMap.1 hb2
      rcases set_mem' h2 with rfl | ⟨i, hi, h4⟩
      ·cases h3
      ·have h5 := List.mem_of_getElem? h4
       rcases set_mem' h5 with rfl | ⟨i2, hi2, h6⟩
       ·rcases List.mem_append.1 h3 with h7 | h7
        ·exact Sat.notin j1 (List.mem_append_left _ h7)
        ·obtain ⟨qi, hqi, h8⟩ := List.mem_flatMap.1 h7
         by_cases c : qi = ix.toNat
         ·subst c
          exact Sat.notin j2 h8
         ·have hl : (lq.set ix.toNat x).length = lq.length := List.length_set
          exact Sat.notin j1 (List.mem_append_right _ (List.mem_flatMap.2 ⟨qi, List.mem_range.2 (hl ▸ List.mem_range.1 hqi), by rw [if_neg c]; exact h8⟩))
       ·exact Sat.notin h6 h3
     cases hyy : Nat.beq y y0 with
     | true =>
      rw [hyy] at hh
      cases hh
      obtain rfl := Nat.eq_of_beq_eq_true hyy
      rw [hy] at w4
      cases w4
      have hset : lq.set ix.toNat x = lq := by
       rw [← p3]; exact List.set_getElem_self p2
      exact ⟨hw, core st.n st.env i0 y (Nat.le_refl _) (fun _ _ h => h) ⟨_, by rw [hset]; exact w3⟩ ⟨_, _, _, _, hy⟩⟩
     | false =>
      rw [hyy] at hh
      cases hh
      have hw1 : WF (st.n + 1) ((st.n, (⟨.dp u, lq.set ix.toNat x, none⟩ : Ent)) :: st.env) := hw.cons (.none rfl)
      have hkn : k < st.n := hw.lt k _ w2
      have hx2 : idxM (lq.set ix.toNat x) ix = some x := idx_set w5
      have hw2 : WF (st.n + 1 + 1) ((st.n + 1, (⟨.sl u, x, some (.dl st.n k ix)⟩ : Ent)) :: (st.n, (⟨.dp u, lq.set ix.toNat x, none⟩ : Ent)) :: st.env) := hw1.cons
       ⟨u, lq.set ix.toNat x, none, x, .inl (by simp [lkE_cons]), hx2, rfl, kd, sk, by simp only [lkE_cons]; rw [if_neg (by omega)]; exact w2⟩
      exact ⟨hw2, core (st.n + 2) _ st.n (st.n + 1) (by omega) (fun i e he => by
       have := hw.lt i e he
       simp only [lkE_cons]; rw [if_neg (by omega), if_neg (by omega)]; exact he) ⟨_, by simp only [lkE_cons]; rw [if_neg (by omega), if_pos trivial]⟩ ⟨_, _, _, _, by simp only [lkE_cons]; rw [if_pos trivial]⟩⟩
   ·cases hh
  ·cases hh
 ·cases hh
def findPin (h e0 : Nat) : List MO → Option Nat
 | [] => none
 | .pin a b c :: r => bif Nat.beq a h && Nat.beq c e0 then some b else findPin h e0 r
 | _ :: r => findPin h e0 r
def findOa (h : Nat) : Nat → List MO → Option Nat
 | _, [] => none
 | i, .oa a _ :: r => bif Nat.beq a h then some i else findOa h (i + 1) r
 | i, _ :: r => findOa h (i + 1) r
def closeAt (st : MSt) (o : Nat) : Option MSt := match st.O[o]? with
 | some (.oa h e0) => match lkE st.env e0 with
  | some ⟨.dh _, _, _⟩ => (findPin h e0 st.O).bind fun h' => (findOa h' 0 st.O).bind fun o' => closeSt st o o'
  | _ => none
 | _ => none
theorem closeAt_goes {st st' : MSt} {o : Nat} (h : closeAt st o = some st') : Goes st st' := by
 unfold closeAt at h
 split at h
 ·split at h
  ·obtain ⟨h', _, h⟩ := Option.bind_eq_some_iff.1 h
   obtain ⟨o', _, h⟩ := Option.bind_eq_some_iff.1 h
   exact closeSt_goes h
  ·cases h
 ·cases h
def isPinM : MO → Bool
 | .pin _ _ _ => true
 | _ => false
def closeL : Nat → Nat → MSt → MSt
 | 0, _, st => st
 | m + 1, o, st => match closeAt st o with
  | some st' => closeL m (o + 1) st'
  | none => closeL m (o + 1) st
theorem closeL_goes : ∀ {m o : Nat} {st : MSt}, Goes st (closeL m o st)
 | 0, _, st => .refl _
 | m + 1, o, st => by
  unfold closeL
  split
  ·rename_i st' h; exact (closeAt_goes h).trans closeL_goes
  ·exact closeL_goes
def tidy (st : MSt) : MSt := match (renAll st).O.any isPinM with
 | true => closeL (renAll st).O.length 0 (renAll st)
 | false => renAll st
theorem tidy_goes {st : MSt} : Goes st (tidy st) := by
 unfold tidy
 split
 ·exact renAll_goes.trans closeL_goes
 ·exact renAll_goes

def openA : List At → MSt → MSt
 | [], st => st
 | .inn o h y :: r, st => match openSt st o h y with
  | some st' => openA r st'
  | none => openA r st
 | _ :: r, st => openA r st
theorem openA_goes : ∀ {l : List At} {st : MSt}, Goes st (openA l st)
 | [], st => .refl _
 | .inn o h y :: r, st => by
  unfold openA
  split
  ·rename_i st' h; exact (openSt_goes h).trans openA_goes
  ·exact openA_goes
 | .vr _ :: r, st => openA_goes (l := r)
 | .ci _ _ :: r, st => openA_goes (l := r)
 | .cb _ :: r, st => openA_goes (l := r)
 | .ck _ :: r, st => openA_goes (l := r)
 | .nl :: r, st => openA_goes (l := r)
 | .own _ _ :: r, st => openA_goes (l := r)
 | .ptr _ _ _ :: r, st => openA_goes (l := r)
 | .mp _ _ :: r, st => openA_goes (l := r)
 | .fn _ _ :: r, st => openA_goes (l := r)
 | .nilf :: r, st => openA_goes (l := r)
 | .nilp :: r, st => openA_goes (l := r)
 | .ea _ :: r, st => openA_goes (l := r)
 | .fu _ :: r, st => openA_goes (l := r)
 | .oea _ _ _ :: r, st => openA_goes (l := r)
 | .oef _ _ _ :: r, st => openA_goes (l := r)
 | .pj _ _ :: r, st => openA_goes (l := r)
 | .vs _ _ _ _ _ :: r, st => openA_goes (l := r)
 | .sb _ _ _ _ _ :: r, st => openA_goes (l := r)
 | .junk :: r, st => openA_goes (l := r)
def opAt (G : List (Nat × Sh)) (x : Operand) : List At := match opA G x with
 | some a => [a]
 | none => []
def prepX (st : MSt) : Op → MSt
 | .call ⟨.value _, args, _⟩ => openA (args.toList.flatMap (opAt (tidy st).G)) (tidy st)
 | _ => renAll st
theorem prepX_goes {st : MSt} {op : Op} : Goes st (prepX st op) := by
 unfold prepX
 split
 ·exact tidy_goes.trans openA_goes
 ·exact renAll_goes
end
end Go.Dc

namespace Go.Dc
section
variable [SRep] [DrawMode] {E : Env} {N : Nat} {a : Act} {w : World}

inductive Loc where
 | slot (t q : Nat)
 | cell (o q : Nat)

def isNl : Option At → Bool
 | some .nl => true
 | _ => false
theorem isNl_ok {x : Option At} (h : isNl x = true) : x = some .nl := by
 unfold isNl at h; split at h
 ·rfl
 ·cases h

def editNl (G : List (Nat × Sh)) (O : List MO) (x : At) : Loc → Option (List (Nat × Sh) × List MO)
 | .slot t q => match lkG G t with
  | some (.vl g l) => bif isNl l[q]? then some ((t, .vl g (l.set q x)) :: G, O) else none
  | _ => none
 | .cell o q => match O[o]? with
  | some (.oc h l) => bif isNl l[q]? then some (G, O.set o (.oc h (l.set q x))) else none
  | _ => none

theorem allP_set {c : Cx} {x y : At} {F : FP} {w : World} (hxy : ∀ v, (x.rp c).h F w v → (y.rp c).h F w v) : ∀ {l : List At} {vs : List Value} {q : Nat}, AllP F w (l.map (At.rp c)) vs → l[q]? = some x → AllP F w ((l.set q y).map (At.rp c)) vs
 | [], _, q, _, h => by simp at h
 | z :: l, v :: vs, 0, ⟨h1, h2⟩, h => by
  simp only [List.getElem?_cons_zero, Option.some.injEq] at h
  subst h
  exact ⟨hxy v h1, h2⟩
 | z :: l, v :: vs, q + 1, ⟨h1, h2⟩, h => ⟨h1, allP_set hxy h2 (by simpa using h)⟩
 | _ :: _, [], _, h, _ => h.elim

theorem editNl_ok {c : Cx} {G G' : List (Nat × Sh)} {O O' : List MO} {x : At} {p : Loc} (h : editNl G O x p = some (G', O')) (hx : ∀ F w v, (At.nl.rp c).h F w v → (x.rp c).h F w v)
  (hs : Sat E N (gma c G) (oma c O) a w) : Sat E N (gma c G') (oma c O') a w := by
 cases p with
 | slot t q =>
  simp only [editNl] at h
  split at h
  ·rename_i g l hl
   cases hb : isNl l[q]? with
   | false => rw [hb] at h; cases h
   | true =>
    rw [hb] at h
    simp only [cond_true, Option.some.injEq, Prod.mk.injEq] at h
    obtain ⟨rfl, rfl⟩ := h
    have hq := isNl_ok hb
    refine hs.rel (fun t' s' ht => ?_) (fun o ho => hs.ob o ho) hs.nd fun b hb => hb
    simp only [lkG] at ht
    by_cases e : t = t'
    ·subst e
     simp only [Nat.beq_refl, cond_true, Option.some.injEq] at ht
     subst ht
     refine ⟨_, hl, fun v hv => ?_⟩
     simp only [Sh.rp, vrp] at hv ⊢
     cases g with
     | true => obtain ⟨cs, e, hv⟩ := hv; exact ⟨cs, e, allP_set (fun v => hx _ _ v) hv hq⟩
     | false =>
      cases l with
      | nil => simp at hq
      | cons z l =>
       cases q with
       | zero =>
        simp only [List.getElem?_cons_zero, Option.some.injEq] at hq
        subst hq; exact hx _ _ v hv
       | succ q => exact hv
    ·rw [beq_ne e] at ht; exact ⟨s', ht, fun v hv => hv⟩
  ·cases h
 | cell o q =>
  simp only [editNl] at h
  split at h
  ·rename_i k l hl
   cases hb : isNl l[q]? with
   | false => rw [hb] at h; cases h
   | true =>
    rw [hb] at h
    simp only [cond_true, Option.some.injEq, Prod.mk.injEq] at h
    obtain ⟨rfl, rfl⟩ := h
    have hq := isNl_ok hb
    have hlt := (List.getElem?_eq_some_iff.1 hl).1
    have hob := hs.ob ((MO.oc k l).ob c) (List.mem_map_of_mem (List.mem_of_getElem? hl))
    have hS : ((MO.oc k (l.set q x)).ob c).S = ((MO.oc k l).ob c).S := by simp only [MO.ob]; cases Nat.blt k c.n <;> rfl
    have how : ow (oma c (O.set o (.oc k (l.set q x)))) = ow (oma c O) := by
     unfold oma
     rw [List.map_set]
     exact ow_set_same (by rw [List.getElem?_map, hl]; rfl) hS
    have hfr : fr E (oma c (O.set o (.oc k (l.set q x)))) = fr E (oma c O) := by unfold fr; rw [how]
    refine hs.rel (fun t' s' ht => ⟨s', ht, fun v hv => by rw [hfr]; exact hv⟩) (fun p hp => ?_) (by rw [how]; exact hs.nd) fun b hb => by rw [how] at hb; exact hb
    rw [hfr]
    obtain ⟨m, hm, rfl⟩ := List.mem_map.1 hp
    rcases List.mem_or_eq_of_mem_set hm with h1 | rfl
    ·exact hs.ob _ (List.mem_map_of_mem h1)
    ·simp only [MO.ob] at hob ⊢
     cases hbl : Nat.blt k c.n with
     | false => rw [hbl] at hob; exact hob
     | true =>
      rw [hbl] at hob
      obtain ⟨cells, ty, h1, h2⟩ := hob
      exact ⟨cells, ty, h1, allP_set (fun v => hx _ _ v) h2 hq⟩
  ·cases h

def nlSl (t : Ty) (p : Loc) (st : MSt) : Option MSt := (editNl st.G st.O (.vr st.n) p).map fun r => ⟨st.n + 1, (st.n, ⟨.sl t, [], none⟩) :: st.env, r.1, r.2⟩
def nlOwn (t : Ty) (p : Loc) (st : MSt) : Option MSt := (editNl st.G (st.O ++ [.oa (st.n + 1) st.n]) (.own st.O.length (st.n + 1)) p).map fun r => ⟨st.n + 2, (st.n, ⟨.sl t, [], none⟩) :: st.env, r.1, r.2⟩

theorem nlSl_ok {t : Ty} {p : Loc} {st st' : MSt} (hw : WF st.n st.env) (h : nlSl t p st = some st') {η : Nat → Hd} (hs : Sat E N (gma ⟨st.n, st.env, η⟩ st.G) (oma ⟨st.n, st.env, η⟩ st.O) a w) :
  WF st'.n st'.env ∧ Ext ⟨st.n, st.env, η⟩ ⟨st'.n, st'.env, η⟩ ∧ Sat E N (gma ⟨st'.n, st'.env, η⟩ st'.G) (oma ⟨st'.n, st'.env, η⟩ st'.O) a w := by
 obtain ⟨⟨G', O'⟩, h1, rfl⟩ := Option.map_eq_some_iff.1 h
 have hw' : WF (st.n + 1) ((st.n, ⟨.sl t, [], none⟩) :: st.env) := hw.cons (.none rfl)
 have hx : Ext ⟨st.n, st.env, η⟩ ⟨st.n + 1, (st.n, ⟨.sl t, [], none⟩) :: st.env, η⟩ := ⟨by simp, fun i e he => by
  have := hw.lt i e he
  simp only [lkE_cons]; rw [if_neg (by omega)]; exact he, fun _ _ => rfl⟩
 refine ⟨hw', hx, editNl_ok h1 (fun F w v hv => ?_) (hs.mext hx)⟩
 simp only [At.rp, lkE_cons, if_true, Ty.one, cond_true]
 exact nil_sl hv

theorem nlOwn_ok {t : Ty} {p : Loc} {st st' : MSt} (hw : WF st.n st.env) (h : nlOwn t p st = some st') {η : Nat → Hd} :
  WF st'.n st'.env ∧ ∃ η', Ext ⟨st.n, st.env, η⟩ ⟨st'.n, st'.env, η'⟩ ∧ ∀ a w, Sat E N (gma ⟨st.n, st.env, η⟩ st.G) (oma ⟨st.n, st.env, η⟩ st.O) a w → Sat E N (gma ⟨st'.n, st'.env, η'⟩ st'.G) (oma ⟨st'.n, st'.env, η'⟩ st'.O) a w := by
 obtain ⟨⟨G', O'⟩, h1, rfl⟩ := Option.map_eq_some_iff.1 h
 have hw' : WF (st.n + 2) ((st.n, ⟨.sl t, [], none⟩) :: st.env) := (hw.cons (.none rfl)).le (by omega)
 let η' : Nat → Hd := fun y => bif Nat.beq y (st.n + 1) then ⟨.slice none 0 0, [], 0, rfl, fun _ => nilB⟩ else η y
 have hη : η' (st.n + 1) = ⟨.slice none 0 0, [], 0, rfl, fun _ => nilB⟩ := by simp [η']
 have hx : Ext ⟨st.n, st.env, η⟩ ⟨st.n + 2, (st.n, ⟨.sl t, [], none⟩) :: st.env, η'⟩ := ⟨by simp, fun i e he => by
  have := hw.lt i e he
  simp only [lkE_cons]; rw [if_neg (by omega)]; exact he, fun h hh => by simp only [η']; rw [beq_ne (by simp only at hh; omega)]; rfl⟩
 have hb : Nat.blt (st.n + 1) (st.n + 2) = true := by simp [Nat.blt_eq]
 refine ⟨hw', η', hx, fun a w hs => editNl_ok h1 (fun F w v hv => ?_) ?_⟩
 ·rw [own_rp (c := ⟨st.n + 2, _, η'⟩) hb]
  simp only [hη]
  exact hv
 ·have h2 := own_nil t.rep a w (hs.mext hx)
  have e : oma ⟨st.n + 2, (st.n, ⟨.sl t, [], none⟩) :: st.env, η'⟩ (st.O ++ [.oa (st.n + 1) st.n]) = oma ⟨st.n + 2, (st.n, ⟨.sl t, [], none⟩) :: st.env, η'⟩ st.O ++ [oa t.rep (.slice none 0 0) [] ([] : List t.den)] := by
   unfold oma
   rw [List.map_append]
   congr 1
   simp only [List.map_cons, List.map_nil, MO.ob, lkE_cons, if_true, Option.bind_some, Dyn.ob, Ent.asSl, hb, cond_true, hη]
  rw [e]; exact h2
end
end Go.Dc

namespace Go.Dc
variable [DrawMode] {R : Type} {P : Program} [PTab P] {E : Env} {N : Nat} {K : KT R} {m : Option R} {op : Op} {ty : TypeId} {n : Nat} {env : List (Nat × Ent)} {G : List (Nat × Sh)} {O : List MO}

def sidxE (P : Program) [PTab P] (n : Nat) (env : List (Nat × Ent)) (G : List (Nat × Sh)) (t : TypeId) (x i : Operand) : Ask OpR := match P.underlying t with
 | some .string => Ask.of (opS env G x) fun s => Ask.of (opI env G i) fun ix => .bind (sidxM s ix.2) fun y => .ret (resD n (.int .u8) y)
 | _ => .fail
theorem sidxE_ok (hw : WF n env) {t : TypeId} {x i : Operand} : AskOk (OpOk P E N (.index t x i) ty n env G O) (sidxE P n env G t x i) := by
 unfold sidxE
 split
 ·rename_i hu
  exact AskOk.of fun s hs => AskOk.of fun ix hi => fun y hy => OpOk.dat hw rfl fun η => (r_sidx hy hu (opS_rp hs) (opI_rp hi))
 ·trivial
end Go.Dc
