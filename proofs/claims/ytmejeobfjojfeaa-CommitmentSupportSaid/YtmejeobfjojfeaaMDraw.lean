/- Part M.Draw of a proof: lemmas. -/
import Derived.Test.YtmejeobfjojfeaaMStr
import Derived.Test.YtmejeobfjojfeaaDcMap
import Derived.Test.YtmejeobfjojfeaaDcDrawI
set_option linter.unusedSectionVars false
set_option linter.unusedVariables false
set_option linter.unusedSimpArgs false
namespace Go.Dc
variable [DrawMode] {R : Type} {P : Program} [PTab P] {E : Env} {N : Nat} {K : KT R} {m : Option R} {op : Op} {ty : TypeId} {n : Nat} {env : List (Nat × Ent)} {G : List (Nat × Sh)} {O : List MO}

instance : DecidableEq Ty.str.den := inferInstanceAs (DecidableEq ByteArray)

theorem OpOk.newM (hw : WF n env) {k v : Ty} {d : List (k.den × v.den)} (h : ∀ η, St P E N op ty (gma ⟨n, env, η⟩ G) (oma ⟨n, env, η⟩ O) [] (fun b : Nat => pv (.map (some b))) (fun b => oma ⟨n, env, η⟩ O ++ [om k.rep v.rep b d])) :
  OpOk P E N op ty n env G O ⟨.vl false [.mp O.length (n + 1)], [⟨.mp k v, d, none⟩], 1, [], [.oa (n + 1) n]⟩ := by
 have hsrc : ∀ e ∈ [(⟨.mp k v, d, none⟩ : Ent)], SrcOk env e := fun e he => by rw [List.mem_singleton.1 he]; exact .none rfl
 refine ⟨hsrc, (fun _ _ h => by cases h), fun η => ?_⟩
 have h := h η
 refine h.to' fun b a w hs => ?_
 refine ⟨⟨updH η (n + 1) ⟨.bool true, [], b, rfl, fun _ => nilB⟩, fun k hk => updH_lt (by omega)⟩, ?_, ?_⟩
 ·simp only [OpR.O', updO]
  refine oma_add (OpOk.ext hw (r := ⟨.vl false [.mp O.length (n + 1)], [⟨.mp k v, d, none⟩], 1, [], [.oa (n + 1) n]⟩) hsrc ⟨updH η (n + 1) ⟨.bool true, [], b, rfl, fun _ => nilB⟩, fun k hk => updH_lt (by omega)⟩) ?_ hs
  simp only [MO.ob, OpR.cx', OpR.env', OpR.n', keyed, lkE_cons, if_true, Dyn.ob, updH_at]
  rw [show Nat.blt (n + 1) (n + [(⟨.mp k v, d, none⟩ : Ent)].length + 1) = true from by simp [Nat.blt_eq]]
  rfl
 ·simp only [Sh.rp, vrp, cond_false, List.map_cons, List.headD_cons, At.rp, OpR.cx', OpR.n', updH_at]
  rw [show Nat.blt (n + 1) (n + [(⟨.mp k v, d, none⟩ : Ent)].length + 1) = true from by simp [Nat.blt_eq]]
  rfl
theorem OpOk.setM (hw : WF n env) {k v : Ty} {d : List (k.den × v.den)} {j x : Nat} {X : Type} [Inhabited X] (hk : Nat.blt x n = true)
  (h : ∀ η, St P E N op ty (gma ⟨n, env, η⟩ G) (oma ⟨n, env, η⟩ O) [j] (fun _ : X => pv Go.undef) (fun _ => (oma ⟨n, env, η⟩ O).set j (om k.rep v.rep (η x).b d))) :
  OpOk P E N op ty n env G O ⟨.undef, [⟨.mp k v, d, none⟩], 0, [(j, .oa x n)], []⟩ := by
 have hsrc : ∀ e ∈ [(⟨.mp k v, d, none⟩ : Ent)], SrcOk env e := fun e he => by rw [List.mem_singleton.1 he]; exact .none rfl
 refine ⟨hsrc, (fun _ h => by cases h), fun η => ?_⟩
 have h := h η
 refine h.to' fun y a w hs => ?_
 refine ⟨⟨η, fun _ _ => rfl⟩, ?_, rfl⟩
 simp only [OpR.O', updO, List.append_nil]
 refine oma_set (OpOk.ext hw (r := ⟨.undef, [⟨.mp k v, d, none⟩], 0, [(j, .oa x n)], []⟩) hsrc ⟨η, fun _ _ => rfl⟩) ?_ hs
 simp only [MO.ob, OpR.cx', OpR.n', OpR.env', keyed, lkE_cons, if_true, Dyn.ob]
 rw [blt_mono hk (show n ≤ n + [(⟨.mp k v, d, none⟩ : Ent)].length + 0 from by omega)]
 rfl

def mapT (P : Program) [PTab P] (t : TypeId) : Option (TypeId × TypeId × Ty) := match P.underlying t with
 | some (.map kt et) => match P.underlying kt with
  | some .string => (codeT P et).map fun v => (kt, et, v)
  | _ => none
 | _ => none
theorem mapT_ok {t kt et : TypeId} {v : Ty} (h : mapT P t = some (kt, et, v)) : P.underlying t = some (.map kt et) ∧ P.underlying kt = some .string ∧ codeT P et = some v := by
 unfold mapT at h
 split at h
 ·rename_i kt' et' h1
  split at h
  ·rename_i h2
   obtain ⟨v', h3, h4⟩ := Option.map_eq_some_iff.1 h
   cases h4
   exact ⟨h1, h2, h3⟩
  ·cases h
 ·cases h

def mkmapE (P : Program) [PTab P] (n : Nat) (O : List MO) (t : TypeId) : Ask OpR := Ask.of (mapT P t) fun q => .ret ⟨.vl false [.mp O.length (n + 1)], [⟨.mp .str q.2.2, [], none⟩], 1, [], [.oa (n + 1) n]⟩
theorem mkmapE_ok (hw : WF n env) {t : TypeId} : AskOk (OpOk P E N (.makeMap t none) ty n env G O) (mkmapE P n O t) :=
 AskOk.of fun q _ => OpOk.newM hw fun η => s_mkmap _ _

def mapA (n : Nat) (env : List (Nat × Ent)) (O : List MO) (o h : Nat) (v : Ty) : Option (List (ByteArray × v.den)) := match anyA n env O o h with
 | some (_, ⟨.mp .str v', d⟩) => if e : v' = v then some (e ▸ d) else none
 | _ => none
theorem mapA_ok {o h : Nat} {v : Ty} {d : List (ByteArray × v.den)} (hh : mapA n env O o h v = some d) : Nat.blt h n = true ∧ o < O.length ∧ ∀ η, (oma ⟨n, env, η⟩ O)[o]? = some (om rS v.rep (η h).b d) := by
 unfold mapA at hh
 split at hh
 ·rename_i i v' d' h1
  split at hh
  ·rename_i e
   subst e
   cases hh
   obtain ⟨h2, h3, _, h4⟩ := anyA_ok h1
   exact ⟨h2, h3, h4⟩
  ·cases hh
 ·cases hh

theorem mp_rp {c : Cx} {o h : Nat} (hb : Nat.blt h c.n = true) : (At.mp o h).rp c = pv (.map (some (c.η h).b)) := by simp only [At.rp, hb, cond_true]

def oneD (env : List (Nat × Ent)) (G : List (Nat × Sh)) (v : Ty) (x : Operand) : Option v.den := (opD env G x).bind fun D => if e : D.t = v then some (e ▸ D.d) else none
theorem oneD_rp {v : Ty} {x : Operand} {y : v.den} {η : Nat → Hd} (h : oneD env G v x = some y) : lkO (gma ⟨n, env, η⟩ G) x = some (sh v.rep y) := by
 obtain ⟨D, h1, h2⟩ := Option.bind_eq_some_iff.1 h
 split at h2
 ·rename_i e
  subst e
  cases h2
  exact opD_rp h1
 ·cases h2

def mputE (P : Program) [PTab P] (n : Nat) (env : List (Nat × Ent)) (G : List (Nat × Sh)) (O : List MO) (t : TypeId) (x k v : Operand) : Ask OpR := Ask.of (mapT P t) fun q => Ask.of (opA G x) fun a => match a with
 | .mp o h => Ask.of (mapA n env O o h q.2.2) fun d => Ask.of (opS env G k) fun s => Ask.of (oneD env G q.2.2 v) fun y => .ret ⟨.undef, [⟨.mp .str q.2.2, mapPut d s y, none⟩], 0, [(o, .oa h n)], []⟩
 | _ => .fail
theorem mputE_ok (hw : WF n env) {t : TypeId} {x k v : Operand} : AskOk (OpOk P E N (.mapUpdate t x k v) ty n env G O) (mputE P n env G O t x k v) :=
 AskOk.of fun q hq => AskOk.of fun a ha => by
  obtain ⟨kt, et, vt⟩ := q
  obtain ⟨h1, h2, _⟩ := mapT_ok hq
  split
  ·rename_i o h
   refine AskOk.of fun d hd => AskOk.of fun s hs => AskOk.of fun y hy => ?_
   obtain ⟨hb, hlt, hj⟩ := mapA_ok hd
   refine OpOk.setM (k := .str) (v := vt) (X := Unit) hw hb fun η => s_mput h1 (keyT_str h2) ?_ (hj η) (opS_rp hs) (oneD_rp hy)
   have h3 := opA_rp (c := ⟨n, env, η⟩) ha
   rw [mp_rp (c := ⟨n, env, η⟩) hb] at h3
   exact h3
  ·trivial

def zOne (v : Ty) (z : Value) : Option v.den := match v, z with
 | .int k, .int k' i => if k = k' then some i else none
 | .bool, .bool b => some b
 | .str, .string s => some s
 | _, _ => none
theorem zOne_ok {v : Ty} {z : Value} {d : v.den} (h : zOne v z = some d) (F : FP) (w : World) : (sh v.rep d).h F w z := by
 unfold zOne at h
 split at h
 ·split at h
  ·rename_i e
   subst e
   cases h; rfl
  ·cases h
 ·cases h; rfl
 ·cases h; rfl
 ·cases h
theorem zero_run {et : TypeId} {z : Value} (h : ((P.info? et).bind (·.zero)) = some z) (w : World) : (zeroValue et).run P w = .ok z w := by
 obtain ⟨i, h1, h2⟩ := Option.bind_eq_some_iff.1 h
 simp [zeroValue, typeInfo, h1, h2]

def mgetE (P : Program) [PTab P] (n : Nat) (env : List (Nat × Ent)) (G : List (Nat × Sh)) (O : List MO) (t : TypeId) (x k : Operand) : Ask OpR := Ask.of (mapT P t) fun q => match x with
 | .tmp x => Ask.of (opA G (.tmp x)) fun a => match a with
  | .mp o h => Ask.of (mapA n env O o h q.2.2) fun d => Ask.of (opS env G k) fun s => Ask.of (((P.info? q.2.1).bind (·.zero)).bind (zOne q.2.2)) fun z => Ask.when q.2.2.one
    (.ret ⟨.tup [(false, [.vr n]), (false, [.vr (n + 1)])], [⟨q.2.2, mapGet d s z, none⟩, ⟨.bool, mapHas d s, none⟩], 0, [], []⟩)
  | _ => .fail
 | _ => .fail
theorem mgetE_ok (hw : WF n env) {t : TypeId} {x k : Operand} : AskOk (OpOk P E N (.lookup t x k true) ty n env G O) (mgetE P n env G O t x k) :=
 AskOk.of fun q hq => by
  obtain ⟨kt, et, vt⟩ := q
  obtain ⟨h1, h2, _⟩ := mapT_ok hq
  split
  ·rename_i x
   refine AskOk.of fun a ha => ?_
   split
   ·rename_i o h
    refine AskOk.of fun d hd => AskOk.of fun s hs => AskOk.of fun z hz => AskOk.when fun h1v => ?_
    obtain ⟨hb, hlt, hj⟩ := mapA_ok hd
    obtain ⟨zv, z1, z2⟩ := Option.bind_eq_some_iff.1 hz
    have hx : ∀ η, lkO (gma ⟨n, env, η⟩ G) (.tmp x) = some (pv (.map (some (η h).b))) := fun η => by
     have h3 := opA_rp (c := ⟨n, env, η⟩) ha
     rw [mp_rp (c := ⟨n, env, η⟩) hb] at h3
     exact h3
    have hsrc : ∀ e ∈ [(⟨vt, mapGet d s z, none⟩ : Ent), ⟨.bool, mapHas d s, none⟩], SrcOk env e := fun e he => by
     rcases List.mem_cons.1 he with e1 | e1
     ·rw [e1]; exact .none rfl
     ·rw [List.mem_singleton.1 e1]; exact .none rfl
    refine OpOk.rdJ (J := [o]) hw hsrc (fun j hj' => ?_) fun η => ?_
    ·rw [List.mem_singleton.1 hj']
     have e0 : lkG G x = some (.vl false [.mp o h]) := by
      unfold opA opd at ha
      split at ha
      ·rename_i a e1; cases ha; exact e1
      ·cases ha
     show o ∈ addrO (lkG G x)
     rw [e0]
     exact List.mem_singleton.2 rfl
    ·have h5 := r_mget (P := P) (E := E) (N := N) (ty := ty) h1 (keyT_str h2) ⟨zv, zero_run z1, zOne_ok z2⟩ (hx η) (hj η) (opS_rp hs)
     have e1 : (Sh.tup [(false, [At.vr n]), (false, [.vr (n + 1)])]).rp ⟨n + [(⟨vt, mapGet d s z, none⟩ : Ent), ⟨.bool, mapHas d s, none⟩].length, keyed n [⟨vt, mapGet d s z, none⟩, ⟨.bool, mapHas d s, none⟩] env, η⟩ = tup [sh vt.rep (mapGet d s z), bv (mapHas d s)] := by
      have l1 : lkE (keyed n [(⟨vt, mapGet d s z, none⟩ : Ent), ⟨.bool, mapHas d s, none⟩] env) n = some ⟨vt, mapGet d s z, none⟩ := by simp only [keyed, lkE_cons]; rw [if_neg (by omega), if_pos trivial]
      have l2 : lkE (keyed n [(⟨vt, mapGet d s z, none⟩ : Ent), ⟨.bool, mapHas d s, none⟩] env) (n + 1) = some ⟨.bool, mapHas d s, none⟩ := by simp only [keyed, lkE_cons]; rw [if_pos trivial]
      simp only [Sh.rp, List.map_cons, List.map_nil, vrp, cond_false, List.headD_cons, At.rp, l1, l2, h1v, cond_true]
      rfl
     rw [e1]; exact h5
   ·trivial
  ·trivial
end Go.Dc

namespace Go.Dc
theorem keyT_int {P : Program} {kt : TypeId} {k : IntKind} (hu : P.underlying kt = some (.int k)) : KeyT P kt (rI k) where
 check := fun x F w v h e w' => by
  have hv : v = .int k x := h
  subst hv
  exact MapKept.run_checkKey (n := 9999) hu (k := .int k x) (show MapKept.IsKey (.int k) (.int k x) from rfl) e
 eq := fun x y F w u v h1 h2 w' => by
  have e1 : u = .int k x := h1
  have e2 : v = .int k y := h2
  subst e1; subst e2
  have := run_equalIn_int (w := w') 9999 kt k k x y hu
  show (Op.equalIn 10000 kt (.int k x) (.int k y)).run P w' = _
  rw [this]; congr 1
 stay := fun x F w u v h1 h2 => by
  have e1 : u = .int k x := h1
  have e2 : v = .int k x := h2
  subst e1; subst e2
  exact MapKept.sameBits_self (d := .int k) (k := .int k x) (show MapKept.IsKey (.int k) (.int k x) from rfl) _
 now := fun q hk u v r h w' => by
  rw [hu] at hk; cases hk
  cases u <;> cases v <;> simp [Instr.sameNow] at h
  obtain ⟨h1, h2⟩ := h
  subst h1; subst h2
  rename_i k1 a b
  exact run_equalIn_int (w := w') 9999 kt k1 k a b hu
 und := ⟨_, hu⟩

variable [DrawMode] {R : Type} {P : Program} [PTab P] {E : Env} {N : Nat} {K : KT R} {m : Option R} {op : Op} {ty : TypeId} {n : Nat} {env : List (Nat × Ent)} {G : List (Nat × Sh)} {O : List MO}

def fmT (P : Program) (t : TypeId) : Option (TypeId × TypeId) := match P.underlying t with
 | some (.map kt et) => match P.underlying kt, P.underlying et with
  | some (.int .i64), some (.func _ _ _) => some (kt, et)
  | _, _ => none
 | _ => none
theorem fmT_ok {t kt et : TypeId} (h : fmT P t = some (kt, et)) : P.underlying t = some (.map kt et) ∧ P.underlying kt = some (.int .i64) := by
 unfold fmT at h
 split at h
 ·rename_i kt' et' h1
  split at h
  ·rename_i h2 _
   cases h; exact ⟨h1, h2⟩
  ·cases h
 ·cases h

def mkfmE (P : Program) (n : Nat) (O : List MO) (t : TypeId) : Ask OpR := Ask.of (fmT P t) fun _ => .ret ⟨.vl false [.mp O.length n], [], 1, [], [.fm n []]⟩
theorem mkfmE_ok (hw : WF n env) {t : TypeId} : AskOk (OpOk P E N (.makeMap t none) ty n env G O) (mkfmE P n O t) :=
 AskOk.of fun q hq => by
  refine ⟨fun e he => by simp at he, (fun hq => by cases hq), fun η => ?_⟩
  have h := s_mkmap (P := P) (E := E) (N := N) (ty := ty) (Γ := gma ⟨n, env, η⟩ G) (Ω := oma ⟨n, env, η⟩ O) (rI .i64) rFv (t := t)
  refine h.to' fun b a w hs => ?_
  have hn : Nat.blt n (n + 0 + 1) = true := by simp [Nat.blt_eq]
  refine ⟨⟨updH η n ⟨.bool true, [], b, rfl, fun _ => nilB⟩, fun k hk => updH_lt hk⟩, ?_, ?_⟩
  ·simp only [OpR.O', updO]
   refine oma_add (OpOk.ext hw (r := ⟨.vl false [.mp O.length n], [], 1, [], [.fm n []]⟩) (fun e he => by simp at he) ⟨updH η n ⟨.bool true, [], b, rfl, fun _ => nilB⟩, fun k hk => updH_lt hk⟩) ?_ hs
   simp only [MO.ob, OpR.cx', OpR.n', List.length_nil, hn, updH_at]
   rfl
  ·simp only [Sh.rp, vrp, cond_false, List.map_cons, List.headD_cons, At.rp, OpR.cx', OpR.n', List.length_nil, hn, updH_at]
   rfl

def fmA (n : Nat) (O : List MO) (o h : Nat) : Option (List (Int × At)) := match O[o]? with
 | some (.fm h' l) => bif Nat.beq h' h && (Nat.blt h n && l.all fun x => x.2.isFn n) then some l else none
 | _ => none
theorem fmA_ok {o h : Nat} {l : List (Int × At)} (hh : fmA n O o h = some l) : Nat.blt h n = true ∧ o < O.length ∧ (l.all fun x => x.2.isFn n) = true ∧ ∀ η, (oma ⟨n, env, η⟩ O)[o]? = some (om (rI .i64) rFv (η h).b (l.map fun x => (x.1, x.2.fv ⟨n, env, η⟩))) := by
 unfold fmA at hh
 split at hh
 ·rename_i h' l' hO
  cases hb : Nat.beq h' h && (Nat.blt h n && l'.all fun x => x.2.isFn n) with
  | false => rw [hb] at hh; cases hh
  | true =>
   rw [hb] at hh; cases hh
   simp only [Bool.and_eq_true] at hb
   obtain rfl := Nat.eq_of_beq_eq_true hb.1
   refine ⟨hb.2.1, (List.getElem?_eq_some_iff.1 hO).1, hb.2.2, fun η => ?_⟩
   simp only [oma, List.getElem?_map, hO, Option.map_some, MO.ob, hb.2.1, hb.2.2, Bool.and_self, cond_true]
   rfl
 ·cases hh

def fmLk : List (Int × At) → Int → Option At
 | [], _ => none
 | (k, a) :: r, i => bif i == k then some a else fmLk r i
theorem fm_ix {c : Cx} : ∀ {l : List (Int × At)} {i : Int}, (fmLk l i = none → mapIx (l.map fun x => (x.1, x.2.fv c)) i = none) ∧
  ∀ a, fmLk l i = some a → ∃ q, mapIx (l.map fun x => (x.1, x.2.fv c)) i = some q ∧ (l.map fun x => (x.1, x.2.fv c))[q]?.map (·.2) = some (a.fv c)
 | [], i => ⟨fun _ => rfl, fun a h => by cases h⟩
 | (k, b) :: r, i => by
  obtain ⟨h1, h2⟩ := fm_ix (c := c) (l := r) (i := i)
  have e : mapIx (((k, b) :: r).map fun x => (x.1, x.2.fv c)) i = if k = i then some 0 else (mapIx (r.map fun x => (x.1, x.2.fv c)) i).map (· + 1) := by
   unfold mapIx
   rw [List.map_cons, List.findIdx?_cons]
   by_cases hk : k = i
   ·simp [hk]
   ·simp [hk]
  simp only [fmLk]
  cases hb : (i == k) with
  | true =>
   have hk : k = i := (by simpa using hb : i = k).symm
   refine ⟨(fun h => by cases h), fun a ha => ?_⟩
   simp only [cond_true, Option.some.injEq] at ha
   subst ha
   exact ⟨0, by rw [e, if_pos hk], rfl⟩
  | false =>
   have hk : ¬ k = i := fun h => by subst h; simp at hb
   refine ⟨fun h => by rw [e, if_neg hk, h1 h]; rfl, fun a ha => ?_⟩
   obtain ⟨q, q1, q2⟩ := h2 a ha
   exact ⟨q + 1, by rw [e, if_neg hk, q1]; rfl, by simpa using q2⟩

def fmputE (P : Program) (n : Nat) (G : List (Nat × Sh)) (O : List MO) (t : TypeId) (x k v : Operand) : Ask OpR := Ask.of (fmT P t) fun _ => Ask.of (opA G x) fun a => Ask.of (opA G k) fun b => Ask.of (opA G v) fun f => match a, b with
 | .mp o h, .ci .i64 i => Ask.of (fmA n O o h) fun l => Ask.when (f.isFn n && (fmLk l i).isNone) (.ret ⟨.undef, [], 0, [(o, .fm h (l ++ [(i, f)]))], []⟩)
 | _, _ => .fail
theorem isFn_rp {c : Cx} {a : At} (h : a.isFn c.n = true) : a.rp c = pv (a.fv c).1 := by
 cases a with
 | fn f cs =>
  have hb : cs.all (Cap.ok c.n) = true := h
  simp only [At.rp, hb, cond_true, At.fv]
 | _ => cases h
theorem fmput_st (hw : WF n env) {t : TypeId} {x k v : Operand} (hq : isQuiet op = false) (hop : ∀ {Γ : List (Nat × RP)} {Ω : List OB} {js : List Nat} {Ω' : Unit → List OB}, St P E N (.mapUpdate t x k v) ty Γ Ω js (fun _ : Unit => pv undef) Ω' → St P E N op ty Γ Ω js (fun _ : Unit => pv undef) Ω') :
  AskOk (OpOk P E N op ty n env G O) (fmputE P n G O t x k v) :=
 AskOk.of fun q hq' => AskOk.of fun a ha => AskOk.of fun b hb => AskOk.of fun f hf => by
  split
  ·rename_i o h i
   refine AskOk.of fun l hl => AskOk.when fun hc => ?_
   simp only [Bool.and_eq_true] at hc
   obtain ⟨kt, et⟩ := q
   obtain ⟨t1, t2⟩ := fmT_ok hq'
   obtain ⟨h1, h2, h3, h4⟩ := fmA_ok (env := env) hl
   refine ⟨fun e he => by simp at he, (fun h => by rw [hq] at h; cases h), fun η => ?_⟩
   have hx := opA_rp (c := ⟨n, env, η⟩) ha
   rw [mp_rp (c := ⟨n, env, η⟩) h1] at hx
   have hv := opA_rp (c := ⟨n, env, η⟩) hf
   rw [isFn_rp (c := ⟨n, env, η⟩) hc.1] at hv
   have hst := hop (s_mput (P := P) (E := E) (N := N) (ty := ty) t1 (keyT_int t2) hx (h4 η) (x := i) (y := At.fv ⟨n, env, η⟩ f) (opA_rp (c := ⟨n, env, η⟩) hb) hv)
   have hput : mapPut (l.map fun x => (x.1, x.2.fv ⟨n, env, η⟩)) i (At.fv ⟨n, env, η⟩ f) = (l ++ [(i, f)]).map fun x => (x.1, x.2.fv ⟨n, env, η⟩) := by
    have hn : fmLk l i = none := by have := hc.2; cases hh : fmLk l i with | none => rfl | some _ => rw [hh] at this; cases this
    unfold mapPut
    rw [(fm_ix (c := ⟨n, env, η⟩) (l := l) (i := i)).1 hn]
    simp
   rw [hput] at hst
   refine hst.to' fun y a w hs => ⟨⟨η, fun _ _ => rfl⟩, ?_, rfl⟩
   simp only [OpR.O', updO, List.append_nil]
   refine oma_set (OpOk.ext hw (r := ⟨.undef, [], 0, [(o, .fm h (l ++ [(i, f)]))], []⟩) (fun e he => by simp at he) ⟨η, fun _ _ => rfl⟩) ?_ hs
   have hall : ((l ++ [(i, f)]).all fun x => x.2.isFn n) = true := by rw [List.all_append, h3]; simp [hc.1]
   simp only [MO.ob, OpR.cx', OpR.n', OpR.env', keyed, List.length_nil, Nat.add_zero, h1, hall, Bool.and_self, cond_true]
   rfl
  ·trivial
theorem fmputI_ok (hw : WF n env) {t : TypeId} {x k v : Operand} : AskOk (OpOk P E N (.insert t x k v) ty n env G O) (fmputE P n G O t x k v) :=
 fmput_st hw rfl fun h a w hs o ho ht => by
  have := h a w hs { o with op := .mapUpdate t x k v } rfl ht
  have e : (execOp a.eval o) = execOp a.eval { o with op := .mapUpdate t x k v } := by simp [execOp, ho]
  rw [e]; exact this

def fmRes : Option At → OpR
 | some a => resS (.tup [(false, [a]), (false, [.cb true])])
 | none => resS (.tup [(false, [.nilf]), (false, [.cb false])])
def fmAsk (i : Int) : List (Int × At) → Ask OpR
 | [] => .ret (fmRes none)
 | (k, a) :: r => .cond (i == k) (.ret (fmRes (some a))) (fmAsk i r)
theorem fmAsk_ok {Q : OpR → Prop} {i : Int} : ∀ {l : List (Int × At)}, (∀ r, fmLk l i = r → Q (fmRes r)) → AskOk Q (fmAsk i l)
 | [], h => h none rfl
 | (k, a) :: r, h => ⟨fun e => h (some a) (by simp only [fmLk]; rw [e]; rfl), fun e => fmAsk_ok fun q hq => h q (by simp only [fmLk]; rw [e]; exact hq)⟩
def fmgetE (P : Program) (n : Nat) (env : List (Nat × Ent)) (G : List (Nat × Sh)) (O : List MO) (t : TypeId) (x k : Operand) : Ask OpR := Ask.of (fmT P t) fun q => match x with
 | .tmp x => Ask.of (opA G (.tmp x)) fun a => match a with
  | .mp o h => Ask.of (fmA n O o h) fun l => Ask.of (opI env G k) fun i => match i.1 with
   | .i64 => match ((P.info? q.2).bind (·.zero)) with
    | some .nilFunc => fmAsk i.2 l
    | _ => .fail
   | _ => .fail
  | _ => .fail
 | _ => .fail
theorem fmgetE_ok (hw : WF n env) {t : TypeId} {x k : Operand} : AskOk (OpOk P E N (.lookup t x k true) ty n env G O) (fmgetE P n env G O t x k) :=
 AskOk.of fun q hq => by
  obtain ⟨kt, et⟩ := q
  obtain ⟨t1, t2⟩ := fmT_ok hq
  split
  ·rename_i x
   refine AskOk.of fun a ha => ?_
   split
   ·rename_i o h
    refine AskOk.of fun l hl => AskOk.of fun i hi => ?_
    split
    ·rename_i hk
     split
     ·rename_i hz
      obtain ⟨ik, i⟩ := i
      simp only at hk
      subst hk
      obtain ⟨h1, h2, h3, h4⟩ := fmA_ok (env := env) hl
      refine fmAsk_ok fun r hr => ?_
      have hJ : ∀ j ∈ [o], j ∈ readO G (.lookup t (.tmp x) k true) := fun j hj' => by
       rw [List.mem_singleton.1 hj']
       have e0 : lkG G x = some (.vl false [.mp o h]) := by
        unfold opA opd at ha
        split at ha
        ·rename_i a e1; cases ha; exact e1
        ·cases ha
       show o ∈ addrO (lkG G x)
       rw [e0]
       exact List.mem_singleton.2 rfl
      have hx : ∀ η, lkO (gma ⟨n, env, η⟩ G) (.tmp x) = some (pv (.map (some (η h).b))) := fun η => by
       have h5 := opA_rp (c := ⟨n, env, η⟩) ha
       rw [mp_rp (c := ⟨n, env, η⟩) h1] at h5
       exact h5
      have key : ∀ η, Rd P E N (.lookup t (.tmp x) k true) ty (gma ⟨n, env, η⟩ G) (oma ⟨n, env, η⟩ O) [o] (tup [sh rFv (mapGet (l.map fun x => (x.1, x.2.fv ⟨n, env, η⟩)) i ⟨.nilFunc, rfl⟩), bv (mapHas (l.map fun x => (x.1, x.2.fv ⟨n, env, η⟩)) i)]) := fun η =>
       r_mget (P := P) (E := E) (N := N) (ty := ty) (κ := rI .i64) (ν := rFv) t1 (keyT_int t2) ⟨.nilFunc, zero_run hz, fun F w => rfl⟩ (hx η) (h4 η) (opI_rp hi)
      cases r with
      | none =>
       refine OpOk.rdJ (J := [o]) hw (fun e he => by simp at he) hJ fun η => ?_
       have hk := key η
       have hm := (fm_ix (c := ⟨n, env, η⟩) (l := l) (i := i)).1 hr
       simp only [mapGet, mapHas, hm] at hk
       exact hk
      | some a =>
       refine OpOk.rdJ (J := [o]) hw (fun e he => by simp at he) hJ fun η => ?_
       have hk := key η
       obtain ⟨q, q1, q2⟩ := (fm_ix (c := ⟨n, env, η⟩) (l := l) (i := i)).2 a hr
       simp only [mapGet, mapHas, q1, q2, Option.getD_some, Option.isSome_some] at hk
       have hfn : a.isFn n = true := by
        have : ∀ {l : List (Int × At)}, (l.all fun x => x.2.isFn n) = true → fmLk l i = some a → a.isFn n = true := by
         intro l
         induction l with
         | nil => intro _ h; cases h
         | cons p r ih =>
          intro hall h
          simp only [List.all_cons, Bool.and_eq_true] at hall
          simp only [fmLk] at h
          cases hb : (i == p.1) with
          | true => rw [hb] at h; simp only [cond_true, Option.some.injEq] at h; rw [← h]; exact hall.1
          | false => rw [hb] at h; exact ih hall.2 h
        exact this h3 hr
       have e1 : (fmRes (some a)).val.rp ⟨n + ([] : List Ent).length, keyed n [] env, η⟩ = tup [pv (a.fv ⟨n, env, η⟩).1, bv true] := by
        simp only [fmRes, resS, Sh.rp, List.map_cons, List.map_nil, vrp, cond_false, List.headD_cons]
        have := isFn_rp (c := ⟨n, env, η⟩) hfn
        rw [show (⟨n + ([] : List Ent).length, keyed n [] env, η⟩ : Cx) = ⟨n, env, η⟩ from rfl, this]
        rfl
       show Rd P E N _ ty _ _ _ ((fmRes (some a)).val.rp _)
       rw [e1]; exact hk
     ·trivial
    ·trivial
   ·trivial
  ·trivial
end Go.Dc

namespace Go.Dc
section
variable [DrawMode] {P : Program} {E : Env} {N : Nat} {Γ : List (Nat × RP)} {Ω : List OB} {ty : TypeId} {α : Type} {ρ : Rep α}
theorem fit_to {p1 p2 : Nat → Option (Nat × Nat)} (hp : ∀ i x, p1 i = some x → p2 i = some x) : ∀ {rs : List (Nat × List RP)} {k : Nat}, fitRP p1 k rs = true → fitRP p2 k rs = true ∧ ∀ zs, fillRP p2 zs rs = fillRP p1 zs rs
 | [], _, _ => ⟨rfl, fun _ => rfl⟩
 | (i, cs) :: r, k, h => by
  cases h1 : p1 i with
  | none => simp only [fitRP, h1] at h; cases h
  | some x =>
   obtain ⟨off, sz⟩ := x
   simp only [fitRP, h1, Bool.and_eq_true] at h
   obtain ⟨h2, h3⟩ := fit_to hp h.2
   refine ⟨?_, fun zs => ?_⟩
   ·simp only [fitRP, hp i _ h1, h.1, h2, Bool.and_self]
   ·simp only [fillRP, hp i _ h1, h1]; exact h3 _

theorem r_aixO {t e : TypeId} {x i : Operand} {k : IntKind} {n : Int} {es : List α} {y : α} {len bytes : Nat} {φs : List RP} (hy : idxM es n = some y) (hu : P.underlying t = some (.array len e)) (h : ElT P e ρ bytes) (h1 : ρ.size = 1) (ha : ρ.agg = false)
  (hx : lkO Γ x = some (ag φs)) (hi : lkO Γ i = some (iv k n)) (hl : es.length = len) (hφ : φs = es.map (sh ρ)) : Rd P E N (.index t x i) ty Γ Ω [] (sh ρ y) := .mk fun a w hs => by
 obtain ⟨h0, hlt, hil, hd⟩ := idxM_some hy
 obtain ⟨cs, hv, hall⟩ := hs.op hx
 have h2 : a.eval i = .int k n := hs.op hi
 have hg := h.agg
 rw [ha] at hg
 subst hφ
 have hcl : cs.size = es.length := by have := hall.length; simpa using this
 have hget : ∀ {φs : List RP} {vs : List Value} {F : FP} {q : Nat} {φ : RP}, AllP F w φs vs → φs[q]? = some φ → ∃ v, vs[q]? = some v ∧ φ.h F w v := by
  intro φs
  induction φs with
  | nil => intro vs F q φ _ h; simp at h
  | cons ψ φs ih =>
   intro vs F q φ hh hq
   match vs, hh with
   | v :: vs, ⟨p1, p2⟩ =>
    cases q with
    | zero => simp only [List.getElem?_cons_zero, Option.some.injEq] at hq; subst hq; exact ⟨v, rfl, p1⟩
    | succ q => simpa using ih p2 (by simpa using hq)
 obtain ⟨v, v1, v2⟩ := hget (q := n.toNat) (φ := sh ρ y) hall (by rw [List.getElem?_map, List.getElem?_eq_getElem hil, hd]; rfl)
 have hlt' : n < (len : Int) := by rw [← hl]; exact hlt
 refine ⟨v, v2, fun w' o hop _ => ?_⟩
 have hc : cs[n.toNat]? = some v := by rw [← Array.getElem?_toList]; exact v1
 simp [execOp, hop, Instr.index, hv, h2, asIntOf, run_underlying hu, h0, hlt', part, hg, h.sizeOf, h1, hc]
end
variable [DrawMode] {R : Type} {P : Program} [PTab P] {E : Env} {N : Nat} {op : Op} {ty : TypeId} {n : Nat} {env : List (Nat × Ent)} {G : List (Nat × Sh)} {O : List MO}

def buildAE (P : Program) (G : List (Nat × Sh)) (t : TypeId) (ps : List (Nat × Operand)) : Ask OpR := match P.underlying t with
 | some (.array len e) => Ask.of (sizeT P e) fun sz => Ask.of (zeroT P t) fun zs => Ask.of (partsC G ps) fun rs => Ask.of (fillA ((List.range len).map fun i => (i * sz, sz)) zs rs) fun out => .ret (resS (.vl true out))
 | _ => .fail
theorem buildAE_ok (hw : WF n env) {t : TypeId} {ps : List (Nat × Operand)} : AskOk (OpOk P E N (.build t ps.toArray) ty n env G O) (buildAE P G t ps) := by
 unfold buildAE
 split
 ·rename_i len e hu
  refine AskOk.of fun sz hsz => AskOk.of fun zs hz => AskOk.of fun rs hrs => AskOk.of fun out hout => OpOk.same hw fun η => ?_
  obtain ⟨i, z, hi, hz', hall⟩ := zeroT_ok hz
  obtain ⟨h1, h2⟩ := fillA_ok (f := At.rp ⟨n, env, η⟩) hout
  obtain ⟨h3, h4⟩ := fit_to (p2 := fun i => some (i * sz, sz)) (fun i x hx => by
   rw [List.getElem?_map] at hx
   obtain ⟨j, hj, rfl⟩ := Option.map_eq_some_iff.1 hx
   obtain ⟨hlt, hj⟩ := List.getElem?_eq_some_iff.1 hj
   simp at hj; subst hj; rfl) h1
  refine r_buildA (E := E) (N := N) (Ω := oma ⟨n, env, η⟩ O) (ty := ty) (zs := zs.map (At.rp ⟨n, env, η⟩)) (rs := rs.map fun p => (p.1, p.2.map (At.rp ⟨n, env, η⟩))) hu (sizeT_ok hsz) ⟨i, z, hi, hz'⟩ (fun i' z' hi' hz'' F w => ?_) (partsC_ok hrs) (by rw [List.length_map]; exact h3) ?_
  ·rw [hi] at hi'; cases hi'; rw [hz'] at hz''; cases hz''; exact hall _ F w
  ·rw [h4, h2]
 ·trivial

def atsOf (env : List (Nat × Ent)) (c : Ty) : List At → Option (List c.den)
 | [] => some []
 | a :: r => (rdD env a).bind fun D => if e : D.t = c then (atsOf env c r).map (e ▸ D.d :: ·) else none
theorem atsOf_rp {c : Cx} {t : Ty} : ∀ {l : List At} {es : List t.den}, atsOf c.env t l = some es → l.map (At.rp c) = es.map (sh t.rep)
 | [], _, h => by cases h; rfl
 | a :: r, es, h => by
  simp only [atsOf] at h
  obtain ⟨D, h1, h2⟩ := Option.bind_eq_some_iff.1 h
  split at h2
  ·rename_i e
   subst e
   obtain ⟨es', h3, rfl⟩ := Option.map_eq_some_iff.1 h2
   rw [List.map_cons, List.map_cons, atsOf_rp h3, (rdD_rp h1).1]; rfl
  ·cases h2

def aidxE (P : Program) [PTab P] (n : Nat) (env : List (Nat × Ent)) (G : List (Nat × Sh)) (t : TypeId) (x i : Operand) : Ask OpR := match P.underlying t with
 | some (.array len e) => Ask.of (elT P e) fun c => Ask.of (opd G x) fun v => Ask.of (opI env G i) fun ix => match v with
  | .vl true l => Ask.of (atsOf env c.1 l) fun es => Ask.when (c.1.one && Nat.beq es.length len) (.bind (idxM es ix.2) fun y => .ret (resD n c.1 y))
  | _ => .fail
 | _ => .fail
theorem Ty.one_size {t : Ty} (h : t.one = true) : t.rep.size = 1 := t.rep.one (Ty.one_agg h)
theorem aidxE_ok (hw : WF n env) {t : TypeId} {x i : Operand} : AskOk (OpOk P E N (.index t x i) ty n env G O) (aidxE P n env G t x i) := by
 unfold aidxE
 split
 ·rename_i len e hu
  refine AskOk.of fun c hc => AskOk.of fun v hv => AskOk.of fun ix hix => ?_
  split
  ·rename_i l
   refine AskOk.of fun es hes => AskOk.when fun hb => ?_
   simp only [Bool.and_eq_true] at hb
   intro y hy
   refine OpOk.dat hw hb.1 fun η => ?_
   have hx : lkO (gma ⟨n, env, η⟩ G) x = some (ag (l.map (At.rp ⟨n, env, η⟩))) := opd_rp (c := ⟨n, env, η⟩) hv
   exact r_aixO (E := E) (N := N) (Ω := oma ⟨n, env, η⟩ O) (ty := ty) hy hu (elT_ok hc) (Ty.one_size hb.1) (Ty.one_agg hb.1) hx (opI_rp hix) (Nat.eq_of_beq_eq_true hb.2) (atsOf_rp (c := ⟨n, env, η⟩) hes)
  ·trivial
 ·trivial
end Go.Dc

namespace Go.Dc
variable [DrawMode] {R : Type} {P : Program} [PTab P] {E : Env} {N : Nat} {K : KT R} {m : Option R} {op : Op} {ty : TypeId} {n : Nat} {env : List (Nat × Ent)} {G : List (Nat × Sh)} {O : List MO}

def capO (n : Nat) (G : List (Nat × Sh)) (x : Operand) : Option Cap := match opA G x with
 | some (.ptr o h 0) => bif Nat.blt h n then some (.ptr o h) else none
 | some .nilp => some .nilp
 | some (.fn f []) => bif Nat.blt f fnB then some (.fn f) else none
 | _ => none
def capOs (n : Nat) (G : List (Nat × Sh)) : List Operand → Option (List Cap)
 | [] => some []
 | x :: xs => (capO n G x).bind fun c => (capOs n G xs).map (c :: ·)
theorem capOs_ok {η : Nat → Hd} : ∀ {xs : List Operand} {cs : List Cap}, capOs n G xs = some cs → CapsOk (gma ⟨n, env, η⟩ G) xs (cs.map (Cap.val η)) ∧ cs.all (Cap.ok n) = true
 | [], _, h => by cases h; exact ⟨trivial, rfl⟩
 | x :: xs, cs, h => by
  simp only [capOs] at h
  obtain ⟨c, h1, h2⟩ := Option.bind_eq_some_iff.1 h
  obtain ⟨cs', h3, rfl⟩ := Option.map_eq_some_iff.1 h2
  obtain ⟨h4, h5⟩ := capOs_ok h3
  unfold capO at h1
  split at h1
  ·rename_i o k ha
   cases hb : Nat.blt k n with
   | false => rw [hb] at h1; cases h1
   | true =>
    rw [hb] at h1; cases h1
    refine ⟨⟨?_, h4⟩, by simp only [List.all_cons, h5, Cap.ok, hb, Bool.and_self]⟩
    rw [opA_rp (c := ⟨n, env, η⟩) ha, ptr_rp hb]; rfl
  ·rename_i ha
   cases h1
   exact ⟨⟨opA_rp (c := ⟨n, env, η⟩) ha, h4⟩, by simp only [List.all_cons, h5, Cap.ok, Bool.and_self]⟩
  ·rename_i f ha
   cases hb : Nat.blt f fnB with
   | false => rw [hb] at h1; cases h1
   | true =>
    rw [hb] at h1; cases h1
    refine ⟨⟨?_, h4⟩, by rw [List.all_cons, h5]; show (Nat.blt f fnB && true) = true; rw [hb]; rfl⟩
    rw [opA_rp (c := ⟨n, env, η⟩) ha]
    show some (pv (fnV f [])) = some (pv _)
    rw [fnV_un hb]; rfl
  ·cases h1
def mkfnE (n : Nat) (G : List (Nat × Sh)) (f : FuncId) (xs : List Operand) : Ask OpR := Ask.when (Nat.blt f fnB) (Ask.of (capOs n G xs) fun cs => .ret (resS (.vl false [.fn f cs])))
theorem mkfnE_ok (hw : WF n env) {f : FuncId} {xs : List Operand} : AskOk (OpOk P E N (.makeFunc (.func f) #[] xs.toArray) ty n env G O) (mkfnE n G f xs) :=
 AskOk.when fun hfb => AskOk.of fun cs hcs => OpOk.same hw fun η => (by
  obtain ⟨h1, h2⟩ := capOs_ok (env := env) (η := η) hcs
  have e : (Sh.vl false [.fn f cs]).rp ⟨n, env, η⟩ = pv (.func (.func f) #[] (cs.map (Cap.val η)).toArray) := by
   simp only [Sh.rp, vrp, cond_false, List.map_cons, List.headD_cons, At.rp]; rw [h2, fnV_un hfb]; rfl
  rw [e]
  exact r_mkfn h1)
theorem r_mkfnb {Γ : List (Nat × RP)} {Ω : List OB} {f : FuncId} {xs : List Operand} {vs : List Value} (h : CapsOk Γ xs vs) : Rd P E N (.makeFunc (.func f) xs.toArray #[]) ty Γ Ω [] (pv (.func (.func f) vs.toArray #[])) := .mk fun a w hs => by
 refine ⟨_, rfl, fun w' o ho _ => ?_⟩
 have e := h.eval hs
 simp [execOp, ho, Instr.makeFunc, ← e]
def mkfnbE (n : Nat) (G : List (Nat × Sh)) (f : FuncId) (xs : List Operand) : Ask OpR := Ask.of (capOs n G xs) fun cs => .ret (resS (.vl false [.fn (f + fnB) cs]))
theorem mkfnbE_ok (hw : WF n env) {f : FuncId} {xs : List Operand} : AskOk (OpOk P E N (.makeFunc (.func f) xs.toArray #[]) ty n env G O) (mkfnbE n G f xs) :=
 AskOk.of fun cs hcs => OpOk.same hw fun η => (by
  obtain ⟨h1, h2⟩ := capOs_ok (env := env) (η := η) hcs
  have hb : Nat.blt (f + fnB) fnB = false := by
   cases hh : Nat.blt (f + fnB) fnB with
   | false => rfl
   | true => simp only [Nat.blt_eq] at hh; omega
  have e : (Sh.vl false [.fn (f + fnB) cs]).rp ⟨n, env, η⟩ = pv (.func (.func f) (cs.map (Cap.val η)).toArray #[]) := by
   simp only [Sh.rp, vrp, cond_false, List.map_cons, List.headD_cons, At.rp]; rw [h2]
   unfold fnV; rw [hb, Nat.add_sub_cancel]; rfl
  rw [e]
  exact r_mkfnb h1)

def findC (P : Program) [PTab P] (n : Nat) (env : List (Nat × Ent)) (O : List MO) (ss : List Sh) : List Con → Option ((C : Con) × Cf C)
 | [] => none
 | C :: r => match C.find P n env O ss with
  | some X => some ⟨C, X⟩
  | none => findC P n env O ss r
theorem findC_ok {ss : List Sh} : ∀ {l : List Con} {X : (C : Con) × Cf C}, findC P n env O ss l = some X → X.1 ∈ l ∧ X.1.find P n env O ss = some X.2
 | [], _, h => by cases h
 | C :: r, X, h => by
  simp only [findC] at h
  split at h
  ·rename_i Y hY; cases h; exact ⟨by simp, hY⟩
  ·obtain ⟨h1, h2⟩ := findC_ok h; exact ⟨by simp [h1], h2⟩

def TabOk (P : Program) [PTab P] (T : FuncId → List Con) : Prop := ∀ f C, C ∈ T f → ConFn P f C

def callOp (P : Program) [PTab P] (T : FuncId → List Con) (n : Nat) (env : List (Nat × Ent)) (G : List (Nat × Sh)) (O : List MO) (x : Operand) (args : List Operand) : Ask OpR :=
 Ask.of (opA G x) fun a => match a with
  | .fn f cs => Ask.when (cs.all (Cap.ok n)) (Ask.of (opds G args) fun ss => Ask.of (findC P n env O (fnA f ss (cs.map capSh)) (T (fnT f))) fun X => callE P X.1 n env O X.2)
  | _ => .fail
theorem callOp_ok {T : FuncId → List Con} (hT : TabOk P T) (hw : WF n env) {x : Operand} {args : List Operand} {ats : Array TypeId} :
  AskOk (OpOk P E N (.call ⟨.value x, args.toArray, ats⟩) ty n env G O) (callOp P T n env G O x args) :=
 AskOk.of fun a ha => by
  split
  ·rename_i f cs
   refine AskOk.when fun hcs => AskOk.of fun ss hss => AskOk.of fun X hX => ?_
   obtain ⟨h1, h2⟩ := findC_ok hX
   exact callE_ok hw (hT (fnT f) _ h1) ha hcs hss h2
  ·trivial

def isInn (G : List (Nat × Sh)) (x : Operand) : Bool := match opA G x with
 | some (.inn _ _ _) => true
 | _ => false
theorem AskOk.cnd {A : Type} {Q : A → Prop} {b : Bool} {x y : Ask A} (h1 : AskOk Q x) (h2 : AskOk Q y) : AskOk Q (bif b then x else y) := by
 cases b
 ·exact h2
 ·exact h1
def isDp (n : Nat) (env : List (Nat × Ent)) (G : List (Nat × Sh)) (O : List MO) (x : Operand) : Bool := match opA G x with
 | some (.own o h) => (dpA n env O o h).isSome
 | _ => false
def builtinE (P : Program) [PTab P] (n : Nat) (env : List (Nat × Ent)) (G : List (Nat × Sh)) (O : List MO) (b : Builtin) (args : List Operand) (ats : List TypeId) : Ask OpR := match b, args, ats with
 | .len, [x], [t] => bif isInn G x || isDp n env G O x then dlenE P n env G O t x else lenE P n env G O t x
 | .min, [x, y], [_, _] => minE n env G false x y
 | .max, [x, y], [_, _] => minE n env G true x y
 | .append, [x, y], [t, t'] => if t' = t then appE P n env G O t x y else .fail
 | .clear, [x], [t] => clearE P n env G O t x
 | _, _, _ => .fail
theorem builtinE_ok (hw : WF n env) {b : Builtin} {args : List Operand} {ats : List TypeId} : AskOk (OpOk P E N (.call ⟨.builtin b, args.toArray, ats.toArray⟩) ty n env G O) (builtinE P n env G O b args ats) := by
 unfold builtinE
 split
 ·exact .cnd (dlenE_ok hw) (lenE_ok hw)
 ·exact minE_ok hw
 ·exact maxE_ok hw
 ·split
  ·rename_i h; subst h; exact appE_ok hw
  ·trivial
 ·exact clearE_ok hw
 ·trivial

def isDl (env : List (Nat × Ent)) (G : List (Nat × Sh)) (x : Operand) : Bool := match opA G x with
 | some (.oea _ _ y) => (match lkE env y with
  | some ⟨_, _, some (.dl _ _ _)⟩ => true
  | _ => false)
 | _ => false
def deepT (P : Program) [PTab P] (t : TypeId) : Bool := match P.underlying t with
 | some (.slice e) => (match elT P e with
  | some c => (slOf c.1).isSome
  | none => false)
 | _ => false
def isIeE (env : List (Nat × Ent)) (y : Nat) : Bool := match lkE env y with
 | some ⟨_, _, some (.ie _ _ _)⟩ => true
 | _ => false
def isIe (env : List (Nat × Ent)) (G : List (Nat × Sh)) (x : Operand) : Bool := match opA G x with
 | some (.oea _ _ y) => isIeE env y
 | some (.oef _ _ z) => (match lkE env z with
  | some ⟨_, _, some (.fl y _)⟩ => isIeE env y
  | _ => false)
 | _ => false
def isArrT (P : Program) (t : TypeId) : Bool := match P.underlying t with
 | some (.array _ _) => true
 | _ => false
def opE (P : Program) [PTab P] (T : FuncId → List Con) (own : Bool) (n : Nat) (env : List (Nat × Ent)) (G : List (Nat × Sh)) (O : List MO) : Op → Ask OpR
 | .move x => moveE G x
 | .assign x => moveE G x
 | .pick c x y => pickE env G c x y
 | .extract x i => extractE G x i
 | .field t x f => fieldE P G t x f
 | .binOp b t x y _ => binE P n env G b t x y
 | .unOp b _ x => unE n env G b x
 | .convert s d x => convE P n env G s d x
 | .nilCheck x => nilcE n env G x
 | .fieldAddr t x f => bif isIe env G x then ifldE P n env G O t x f else faddrE P n env G O t x f
 | .load t x => bif isDl env G x then dloadE P n env G O t x else bif isIe env G x then iloadE P n env G O t x else loadE P n env G O t x
 | .store t x y => bif isDl env G x then dstoreE P n env G O t x y else bif isIe env G x then istoreE P n env G O t x y else storeE P n env G O t x y
 | .indexAddr t x i => bif isDp n env G O x then didxE P n env G O t x i else bif isInn G x then iidxE P n env G O t x i else idxE P n env G O t x i
 | .alloc t => allocE P own n O t
 | .box _ x => boxE n G O x
 | .build t ps => bif isArrT P t then buildAE P G t ps.toList else buildE P G t ps.toList
 | .buildSlice t k ps => bsliceE P n env G O own t k ps.toList
 | .makeSlice t x y => bif own && deepT P t then dmakeE P n env G O t x y else makeE P n env G O t x y
 | .slice t x lo hi none => sliceE P own n env G O t x lo hi
 | .slice t x none (some hi) (some mx) => fullE P n env G t x hi mx
 | .index t x i => bif isArrT P t then aidxE P n env G t x i else sidxE P n env G t x i
 | .makeMap t none => bif (fmT P t).isSome then mkfmE P n O t else mkmapE P n O t
 | .mapUpdate t x k v => mputE P n env G O t x k v
 | .insert t x k v => fmputE P n G O t x k v
 | .lookup t x k true => bif (fmT P t).isSome then fmgetE P n env G O t x k else mgetE P n env G O t x k
 | .makeFunc (.func f) ⟨[]⟩ xs => mkfnE n G f xs.toList
 | .makeFunc (.func f) xs ⟨[]⟩ => mkfnbE n G f xs.toList
 | .call ⟨.value x, args, _⟩ => callOp P T n env G O x args.toList
 | .call ⟨.builtin b, args, ats⟩ => builtinE P n env G O b args.toList ats.toList
 | _ => .fail
theorem opE_ok {T : FuncId → List Con} (hT : TabOk P T) (hw : WF n env) {own : Bool} : AskOk (OpOk P E N op ty n env G O) (opE P T own n env G O op) := by
 unfold opE
 split
 ·exact moveE_ok hw
 ·exact assignE_ok hw
 ·exact pickE_ok hw
 ·exact extractE_ok hw
 ·exact fieldE_ok hw
 ·exact binE_ok hw
 ·exact unE_ok hw
 ·exact convE_ok hw
 ·exact nilcE_ok hw
 ·exact .cnd (ifldE_ok hw) (faddrE_ok hw)
 ·exact .cnd (dloadE_ok hw) (.cnd (iloadE_ok hw) (loadE_ok hw))
 ·exact .cnd (dstoreE_ok hw) (.cnd (istoreE_ok hw) (storeE_ok hw))
 ·exact .cnd (didxE_ok hw) (.cnd (iidxE_ok hw) (idxE_ok hw))
 ·exact allocE_ok hw
 ·exact boxE_ok hw
 ·rename_i t ps
  have h1 := buildE_ok (P := P) (E := E) (N := N) (ty := ty) (G := G) (O := O) hw (t := t) (ps := ps.toList)
  have h2 := buildAE_ok (P := P) (E := E) (N := N) (ty := ty) (G := G) (O := O) hw (t := t) (ps := ps.toList)
  exact .cnd (by simpa using h2) (by simpa using h1)
 ·rename_i t k ps; have := bsliceE_ok (P := P) (E := E) (N := N) (ty := ty) (G := G) (O := O) hw (own := own) (t := t) (k := k) (ps := ps.toList); simpa using this
 ·exact .cnd (dmakeE_ok hw) (makeE_ok hw)
 ·exact sliceE_ok hw
 ·exact fullE_ok hw
 ·exact .cnd (aidxE_ok hw) (sidxE_ok hw)
 ·exact .cnd (mkfmE_ok hw) (mkmapE_ok hw)
 ·exact mputE_ok hw
 ·exact fmputI_ok hw
 ·exact .cnd (fmgetE_ok hw) (mgetE_ok hw)
 ·rename_i f xs; have := mkfnE_ok (P := P) (E := E) (N := N) (ty := ty) (G := G) (O := O) hw (f := f) (xs := xs.toList); simpa using this
 ·rename_i f xs _; have := mkfnbE_ok (P := P) (E := E) (N := N) (ty := ty) (G := G) (O := O) hw (f := f) (xs := xs.toList); simpa using this
 ·rename_i x args ats; have := callOp_ok (P := P) (E := E) (N := N) (ty := ty) (G := G) (O := O) hT hw (x := x) (args := args.toList) (ats := ats); simpa using this
 ·rename_i b args ats; have := builtinE_ok (P := P) (E := E) (N := N) (ty := ty) (G := G) (O := O) hw (b := b) (args := args.toList) (ats := ats.toList); simpa using this
 ·trivial

def ownsOf (G : List (Nat × Sh)) (x : Operand) : List Nat := match opC G x with
 | some l => l.filterMap fun a => match a with
  | .own o _ => some o
  | _ => none
 | none => []
def needA : List KA → List At → List Nat
 | .d _ _ :: ks, .own o _ :: as_ => o :: needA ks as_
 | _ :: ks, _ :: as_ => needA ks as_
 | _, _ => []
def needV : List (Bool × List KA) → List Sh → List Nat
 | k :: ks, .vl _ as_ :: ss => needA k.2 as_ ++ needV ks ss
 | _ :: ks, _ :: ss => needV ks ss
 | _, _ => []
def prepC (P : Program) [PTab P] (f : Nat) (ss : List Sh) (args : List Operand) (cs : List Cap) (st : MSt) : List Con → Option MSt
 | [] => none
 | C :: r => match frzAll (needV C.ps ss) st with
  | some st1 => match (opds st1.G args).bind fun ss1 => C.find P st1.n st1.env st1.O (fnA f ss1 (cs.map capSh)) with
   | some _ => some st1
   | none => prepC P f ss args cs st r
  | none => prepC P f ss args cs st r
def prep (P : Program) [PTab P] (T : FuncId → List Con) (cons : Bool) (st : MSt) : Op → Option MSt
 | .buildSlice _ _ ps => frzAll (ps.toList.flatMap fun p => ownsOf st.G p.2) st
 | .store _ x y => match opA st.G x with
  | some (.oea _ _ _) => bif isDl st.env st.G x then some st else frzAll (ownsOf st.G y) st
  | some (.oef _ _ _) => frzAll (ownsOf st.G y) st
  | _ => some st
 | .convert _ _ x => frzAll (ownsOf st.G x) st
 | .slice _ x _ _ _ => bif cons then some st else frzAll (ownsOf st.G x) st
 | .call ⟨.builtin .append, args, _⟩ => match args.toList with
  | [_, y] => frzAll (ownsOf st.G y) st
  | _ => some st
 | .call ⟨.value x, args, _⟩ => match opA st.G x with
  | some (.fn f cs) => (opds st.G args.toList).bind fun ss => prepC P f (fnA f ss (cs.map capSh)) args.toList cs st (T (fnT f))
  | _ => none
 | _ => some st

theorem prepC_ok {f : Nat} {ss : List Sh} {args : List Operand} {cs : List Cap} {st st' : MSt} : ∀ {l : List Con}, prepC P f ss args cs st l = some st' → Keeps st st'
 | [], h => by cases h
 | C :: r, h => by
  unfold prepC at h
  split at h
  ·rename_i s1 h1
   split at h
   ·cases h; exact frzAll_ok h1
   ·exact prepC_ok h
  ·exact prepC_ok h
theorem prep_ok {T : FuncId → List Con} {cons : Bool} {st st' : MSt} (h : prep P T cons st op = some st') : Keeps st st' := by
 unfold prep at h
 split at h
 ·exact frzAll_ok h
 ·split at h
  ·rename_i x y _ _ _ _ _
   cases hd : isDl st.env st.G x with
   | true => rw [hd] at h; cases h; exact .refl _
   | false => rw [hd] at h; exact frzAll_ok h
  ·exact frzAll_ok h
  ·cases h; exact .refl _
 ·exact frzAll_ok h
 ·cases cons with
  | true => cases h; exact .refl _
  | false => exact frzAll_ok h
 ·split at h
  ·exact frzAll_ok h
  ·cases h; exact .refl _
 ·split at h
  ·obtain ⟨ss, _, h⟩ := Option.bind_eq_some_iff.1 h
   exact prepC_ok h
  ·cases h
 ·cases h; exact .refl _
end Go.Dc

namespace Go.Dc
section
variable [SRep] [DrawMode] {E : Env} {N : Nat} {a : Act} {w : World}
def isP (f : At → Bool) : Option At → Bool
 | some a => f a
 | none => false
theorem isP_ok {f : At → Bool} {x : Option At} (h : isP f x = true) : ∃ a, x = some a ∧ f a = true := by
 unfold isP at h; split at h
 ·exact ⟨_, rfl, h⟩
 ·cases h
def editA (f : At → Bool) (G : List (Nat × Sh)) (O : List MO) (x : At) : Loc → Option (List (Nat × Sh) × List MO)
 | .slot t q => match lkG G t with
  | some (.vl g l) => bif isP f l[q]? then some ((t, .vl g (l.set q x)) :: G, O) else none
  | _ => none
 | .cell o q => match O[o]? with
  | some (.oc h l) => bif isP f l[q]? then some (G, O.set o (.oc h (l.set q x))) else none
  | _ => none
theorem editA_ok {f : At → Bool} {c : Cx} {G G' : List (Nat × Sh)} {O O' : List MO} {x : At} {p : Loc} (h : editA f G O x p = some (G', O'))
  (hx : ∀ y, f y = true → ∀ v, (y.rp c).h (fr E (oma c O)) w v → (x.rp c).h (fr E (oma c O)) w v)
  (hs : Sat E N (gma c G) (oma c O) a w) : Sat E N (gma c G') (oma c O') a w := by
 cases p with
 | slot t q =>
  simp only [editA] at h
  split at h
  ·rename_i g l hl
   cases hb : isP f l[q]? with
   | false => rw [hb] at h; cases h
   | true =>
    rw [hb] at h
    simp only [cond_true, Option.some.injEq, Prod.mk.injEq] at h
    obtain ⟨rfl, rfl⟩ := h
    obtain ⟨y, hq, hy⟩ := isP_ok hb
    refine hs.rel (fun t' s' ht => ?_) (fun o ho => hs.ob o ho) hs.nd fun b hb => hb
    simp only [lkG] at ht
    by_cases e : t = t'
    ·subst e
     simp only [Nat.beq_refl, cond_true, Option.some.injEq] at ht
     subst ht
     refine ⟨_, hl, fun v hv => ?_⟩
     simp only [Sh.rp, vrp] at hv ⊢
     cases g with
     | true => obtain ⟨cs, e, hv⟩ := hv; exact ⟨cs, e, allP_set (fun v => hx y hy v) hv hq⟩
     | false =>
      cases l with
      | nil => simp at hq
      | cons z l =>
       cases q with
       | zero =>
        simp only [List.getElem?_cons_zero, Option.some.injEq] at hq
        subst hq; exact hx _ hy v hv
       | succ q => exact hv
    ·rw [beq_ne e] at ht; exact ⟨s', ht, fun v hv => hv⟩
  ·cases h
 | cell o q =>
  simp only [editA] at h
  split at h
  ·rename_i k l hl
   cases hb : isP f l[q]? with
   | false => rw [hb] at h; cases h
   | true =>
    rw [hb] at h
    simp only [cond_true, Option.some.injEq, Prod.mk.injEq] at h
    obtain ⟨rfl, rfl⟩ := h
    obtain ⟨y, hq, hy⟩ := isP_ok hb
    have hlt := (List.getElem?_eq_some_iff.1 hl).1
    have hob := hs.ob ((MO.oc k l).ob c) (List.mem_map_of_mem (List.mem_of_getElem? hl))
    have hS : ((MO.oc k (l.set q x)).ob c).S = ((MO.oc k l).ob c).S := by simp only [MO.ob]; cases Nat.blt k c.n <;> rfl
    have how : ow (oma c (O.set o (.oc k (l.set q x)))) = ow (oma c O) := by
     unfold oma
     rw [List.map_set]
     exact ow_set_same (by rw [List.getElem?_map, hl]; rfl) hS
    have hfr : fr E (oma c (O.set o (.oc k (l.set q x)))) = fr E (oma c O) := by unfold fr; rw [how]
    refine hs.rel (fun t' s' ht => ⟨s', ht, fun v hv => by rw [hfr]; exact hv⟩) (fun p hp => ?_) (by rw [how]; exact hs.nd) fun b hb => by rw [how] at hb; exact hb
    rw [hfr]
    obtain ⟨m, hm, rfl⟩ := List.mem_map.1 hp
    rcases List.mem_or_eq_of_mem_set hm with h1 | rfl
    ·exact hs.ob _ (List.mem_map_of_mem h1)
    ·simp only [MO.ob] at hob ⊢
     cases hbl : Nat.blt k c.n with
     | false => rw [hbl] at hob; exact hob
     | true =>
      rw [hbl] at hob
      obtain ⟨cells, ty, h1, h2⟩ := hob
      exact ⟨cells, ty, h1, allP_set (fun v => hx y hy v) h2 hq⟩
  ·cases h
end

variable [DrawMode] {P : Program} [PTab P] {E : Env} {N : Nat}
def isNilp : At → Bool
 | .nilp => true
 | _ => false
def isPtr0 (o h : Nat) : At → Bool
 | .ptr o' h' 0 => Nat.beq o' o && Nat.beq h' h
 | _ => false
def nilOp (t : Ty) (p : Loc) (st : MSt) : Option MSt := (editA isNilp st.G st.O (.vr st.n) p).map fun r => ⟨st.n + 1, (st.n, ⟨.op t, none, none⟩) :: st.env, r.1, r.2⟩
def ptrOp (P : Program) [PTab P] (t : Ty) (o h : Nat) (p : Loc) (st : MSt) : Option MSt := (varC st.n st.O o h).bind fun l => (celD P st.env t l).bind fun d =>
 (editA (isPtr0 o h) st.G (st.O.set o .dead) (.vr st.n) p).map fun r => ⟨st.n + 1, (st.n, ⟨.op t, some d, none⟩) :: st.env, r.1, r.2⟩

theorem nilOp_ok {t : Ty} {p : Loc} {st st' : MSt} (hw : WF st.n st.env) (h : nilOp t p st = some st') {η : Nat → Hd} :
  WF st'.n st'.env ∧ Ext ⟨st.n, st.env, η⟩ ⟨st'.n, st'.env, η⟩ ∧ ∀ a w, Sat E N (gma ⟨st.n, st.env, η⟩ st.G) (oma ⟨st.n, st.env, η⟩ st.O) a w → Sat E N (gma ⟨st'.n, st'.env, η⟩ st'.G) (oma ⟨st'.n, st'.env, η⟩ st'.O) a w := by
 obtain ⟨⟨G', O'⟩, h1, rfl⟩ := Option.map_eq_some_iff.1 h
 have hw' : WF (st.n + 1) ((st.n, (⟨.op t, none, none⟩ : Ent)) :: st.env) := hw.cons (.none rfl)
 have hx : Ext ⟨st.n, st.env, η⟩ ⟨st.n + 1, (st.n, (⟨.op t, none, none⟩ : Ent)) :: st.env, η⟩ := ⟨by simp, fun i e he => by
  have := hw.lt i e he
  simp only [lkE_cons]; rw [if_neg (by omega)]; exact he, fun _ _ => rfl⟩
 refine ⟨hw', hx, fun a w hs => editA_ok h1 (fun y hy v hv => ?_) (hs.mext hx)⟩
 unfold isNilp at hy
 split at hy
 ·simp only [At.rp, lkE_cons, if_true, Ty.one, cond_true]
  exact hv
 ·cases hy

theorem share_ea {Γ : List (Nat × RP)} {Ω : List OB} {α : Type} (ρ : Rep α) (x : α) {j b : Nat} {φs : List RP} (hj : Ω[j]? = some (oc b φs)) (hi : ImpAll φs (ρ.cp x)) {a : Act} {w : World} (hs : Sat E N Γ Ω a w) : (oea ρ (some x)).h (fr E (Ω.set j dead)) w (ptr b 0) := by
 obtain ⟨cells, ty', hb, hall⟩ := hs.objAt hj
 have hbS : b ∈ (oc b φs).S := by simp [oc]
 refine ⟨b, 0, cells, ty', (0, 0), cells.toList, rfl, ⟨hs.mine (Sat.notin hj hbS), mem_ow_set hj hs.nd hbS (by simp [dead])⟩, hb, (hi.all hall).mono (.refl fun c hc hF => ?_), fun k hk => by simp⟩
 refine ⟨hF.1, fun hm => hF.2 ?_⟩
 obtain ⟨A, B, rfl, rfl⟩ := ow_split hj
 rw [set_split] at hm
 rw [ow_mid] at hm ⊢
 simp [dead] at hm
 simp only [List.mem_append]
 exact hm.imp id .inr

theorem ptrOp_ok {t : Ty} {o h : Nat} {p : Loc} {st st' : MSt} (hw : WF st.n st.env) (hh : ptrOp P t o h p st = some st') {η : Nat → Hd} :
  WF st'.n st'.env ∧ Ext ⟨st.n, st.env, η⟩ ⟨st'.n, st'.env, η⟩ ∧ ∀ a w, Sat E N (gma ⟨st.n, st.env, η⟩ st.G) (oma ⟨st.n, st.env, η⟩ st.O) a w → Sat E N (gma ⟨st'.n, st'.env, η⟩ st'.G) (oma ⟨st'.n, st'.env, η⟩ st'.O) a w := by
 obtain ⟨l, hl, hh⟩ := Option.bind_eq_some_iff.1 hh
 obtain ⟨d, hd, hh⟩ := Option.bind_eq_some_iff.1 hh
 obtain ⟨⟨G', O'⟩, h1, rfl⟩ := Option.map_eq_some_iff.1 hh
 obtain ⟨hb, hlt, hj⟩ := varC_ok (env := st.env) hl
 have hw' : WF (st.n + 1) ((st.n, (⟨.op t, some d, none⟩ : Ent)) :: st.env) := hw.cons (.none rfl)
 have hx : Ext ⟨st.n, st.env, η⟩ ⟨st.n + 1, (st.n, (⟨.op t, some d, none⟩ : Ent)) :: st.env, η⟩ := ⟨by simp, fun i e he => by
  have := hw.lt i e he
  simp only [lkE_cons]; rw [if_neg (by omega)]; exact he, fun _ _ => rfl⟩
 refine ⟨hw', hx, fun a w hs => ?_⟩
 have hs0 := hs.freezeO (hj η)
 rw [← oma_setD] at hs0
 have hs1 := hs0.mext hx
 refine editA_ok h1 (fun y hy v hv => ?_) hs1
 unfold isPtr0 at hy
 split at hy
 ·rename_i o' h'
  simp only [Bool.and_eq_true] at hy
  obtain rfl := Nat.eq_of_beq_eq_true hy.1
  obtain rfl := Nat.eq_of_beq_eq_true hy.2
  rw [ptr_rp (c := ⟨st.n + 1, _, η⟩) (blt_mono hb (show st.n ≤ st.n + 1 by omega))] at hv
  obtain rfl : v = ptr (η h').b 0 := hv
  have h2 := share_ea t.rep d (hj η) (celD_imp (c := ⟨st.n, st.env, η⟩) hd) hs
  rw [← oma_setD] at h2
  have h3 : oma ⟨st.n + 1, (st.n, (⟨.op t, some d, none⟩ : Ent)) :: st.env, η⟩ (st.O.set o' .dead) = oma ⟨st.n, st.env, η⟩ (st.O.set o' .dead) := oma_good hx hs0
  rw [h3]
  simp only [At.rp, lkE_cons, if_true, Ty.one, cond_true]
  exact h2
 ·cases hy
end Go.Dc

namespace Go.Dc

inductive HObj where
 | dead
 | keep
 | cells (l : List (Option KA))
 | data (w : KA)
 | oaN (k : Nat) (w : KA)
 | ocN (k : Nat) (l : List KA)
structure HPat where
 ts : List Ty
 slots : List (Nat × Option (Bool × List KA))
 objs : List HObj
 nk : Nat
inductive Conv where
 | sl (t : Ty) (p : Loc)
 | own (t : Ty) (p : Loc)
 | op (t : Ty) (p : Loc)
 | tidy
structure HLoop where
 conv : List Conv
 head : HPat
 back : List Conv
 brk : Option (List Conv × HPat)
 rets : Bool
 out : Option (Nat × (List Conv × HPat))
structure Hints where
 loop : List (Nat × HLoop)
 join : List (Nat × (List Conv × HPat))
 own : List Nat
 cons : List Nat
 loud : List Nat

def lkH {α : Type} : List (Nat × α) → Nat → Option α
 | [], _ => none
 | (k, x) :: r, i => bif Nat.beq k i then some x else lkH r i

section
variable [SRep]
def hslots (G : List (Nat × Sh)) : List (Nat × Option (Bool × List KA)) → Option (List (Nat × (Bool × List KA)))
 | [] => some []
 | (t, some v) :: r => (hslots G r).map ((t, v) :: ·)
 | (t, none) :: r => match lkG G t with
  | some (.vl g l) => (hslots G r).map ((t, (g, l.map .fx)) :: ·)
  | _ => none
def hcells : List (Option KA) → List At → Option (List KA)
 | [], [] => some []
 | some k :: ks, _ :: as_ => (hcells ks as_).map (k :: ·)
 | none :: ks, a :: as_ => (hcells ks as_).map (.fx a :: ·)
 | _, _ => none
def hobjs (O : List MO) : Nat → List HObj → Option (List KO × List (Nat × (Nat × Nat)))
 | _, [] => some ([], [])
 | p, .dead :: r => (hobjs O (p + 1) r).map fun x => (.dead :: x.1, x.2)
 | p, .keep :: r => match O[p]? with
  | some (.oa h i) => (hobjs O (p + 1) r).map fun x => (.oa p (.fx (.vr i)) :: x.1, (p, (p, h)) :: x.2)
  | some (.oc h l) => (hobjs O (p + 1) r).map fun x => (.oc p (l.map .fx) :: x.1, (p, (p, h)) :: x.2)
  | some .dead => (hobjs O (p + 1) r).map fun x => (.dead :: x.1, x.2)
  | some (.pin _ _ _) => (hobjs O (p + 1) r).map fun x => (.dead :: x.1, x.2)
  | some (.eqv _ _) => (hobjs O (p + 1) r).map fun x => (.dead :: x.1, x.2)
  | some (.fm _ _) => (hobjs O (p + 1) r).map fun x => (.dead :: x.1, x.2)
  | none => none
 | p, .cells ks :: r => match O[p]? with
  | some (.oc h l) => (hcells ks l).bind fun c => (hobjs O (p + 1) r).map fun x => (.oc p c :: x.1, (p, (p, h)) :: x.2)
  | _ => none
 | p, .data w :: r => match O[p]? with
  | some (.oa h _) => (hobjs O (p + 1) r).map fun x => (.oa p w :: x.1, (p, (p, h)) :: x.2)
  | _ => none
 | p, .oaN k w :: r => (hobjs O (p + 1) r).map fun x => (.oa (O.length + k) w :: x.1, x.2)
 | p, .ocN k l :: r => (hobjs O (p + 1) r).map fun x => (.oc (O.length + k) l :: x.1, x.2)
def HPat.at (h : HPat) (st : MSt) : Option Pat := (hslots st.G h.slots).bind fun s => (hobjs st.O 0 h.objs).map fun o => ⟨h.ts, s, o.1, o.2, st.O.length, st.O.length + h.nk⟩

def locAt (st : MSt) : Loc → Option At
 | .slot t q => match lkG st.G t with
  | some (.vl _ l) => l[q]?
  | _ => none
 | .cell o q => match st.O[o]? with
  | some (.oc _ l) => l[q]?
  | _ => none
end
section
def convs (P : Program) [PTab P] : List Conv → MSt → Option MSt
 | [], st => some st
 | .sl t p :: r, st => match locAt st p with
  | some .nl => (nlSl t p st).bind (convs P r)
  | some (.own o _) => (frzSt st o).bind (convs P r)
  | some _ => convs P r st
  | none => none
 | .own t p :: r, st => match locAt st p with
  | some .nl => (nlOwn t p st).bind (convs P r)
  | some _ => convs P r st
  | none => none
 | .op t p :: r, st => match locAt st p with
  | some .nilp => (nilOp (P := P) t p st).bind (convs P r)
  | some (.ptr o h _) => (ptrOp P t o h p st).bind (convs P r)
  | some _ => convs P r st
  | none => none
 | .tidy :: r, st => convs P r (tidy st)
theorem convs_ok [DrawMode] {E : Env} {N : Nat} {P : Program} [PTab P] : ∀ {l : List Conv} {st st' : MSt}, convs P l st = some st' → WF st.n st.env → ∀ η, WF st'.n st'.env ∧ ∃ η', Ext ⟨st.n, st.env, η⟩ ⟨st'.n, st'.env, η'⟩ ∧
  ∀ a w, Sat E N (gma ⟨st.n, st.env, η⟩ st.G) (oma ⟨st.n, st.env, η⟩ st.O) a w → Sat E N (gma ⟨st'.n, st'.env, η'⟩ st'.G) (oma ⟨st'.n, st'.env, η'⟩ st'.O) a w
 | [], st, st', h, hw, η => by cases h; exact ⟨hw, η, .refl _, fun _ _ h => h⟩
 | .sl t p :: r, st, st', h, hw, η => by
  unfold convs at h
  split at h
  ·obtain ⟨s1, h1, h2⟩ := Option.bind_eq_some_iff.1 h
   have hw1 : WF s1.n s1.env ∧ Ext ⟨st.n, st.env, η⟩ ⟨s1.n, s1.env, η⟩ := by
    obtain ⟨⟨G', O'⟩, _, rfl⟩ := Option.map_eq_some_iff.1 h1
    exact ⟨hw.cons (.none rfl), by simp, fun i e he => by
     have := hw.lt i e he
     simp only [lkE_cons]; rw [if_neg (by omega)]; exact he, fun _ _ => rfl⟩
   obtain ⟨hw2, η', hx, hs⟩ := convs_ok h2 hw1.1 η
   exact ⟨hw2, η', hw1.2.trans hx, fun a w hsat => hs a w (nlSl_ok hw h1 hsat).2.2⟩
  ·obtain ⟨s1, h1, h2⟩ := Option.bind_eq_some_iff.1 h
   have hk := frz_keeps' h1
   obtain ⟨hw2, η', hx, hs⟩ := convs_ok h2 (by rw [hk.1, hk.2.1]; exact hw) η
   rw [hk.1, hk.2.1] at hx hs
   exact ⟨hw2, η', hx, fun a w hsat => hs a w (hk.2.2 η a w hsat)⟩
  ·exact convs_ok h hw η
  ·cases h
 | .own t p :: r, st, st', h, hw, η => by
  unfold convs at h
  split at h
  ·obtain ⟨s1, h1, h2⟩ := Option.bind_eq_some_iff.1 h
   obtain ⟨hw1, η1, hx1, hs1⟩ := nlOwn_ok (E := E) (N := N) hw h1 (η := η)
   obtain ⟨hw2, η', hx, hs⟩ := convs_ok h2 hw1 η1
   exact ⟨hw2, η', hx1.trans hx, fun a w hsat => hs a w (hs1 a w hsat)⟩
  ·exact convs_ok h hw η
  ·cases h
 | .op t p :: r, st, st', h, hw, η => by
  unfold convs at h
  split at h
  ·obtain ⟨s1, h1, h2⟩ := Option.bind_eq_some_iff.1 h
   obtain ⟨hw1, hx1, hs1⟩ := nilOp_ok (E := E) (N := N) hw h1 (η := η)
   obtain ⟨hw2, η', hx, hs⟩ := convs_ok h2 hw1 η
   exact ⟨hw2, η', hx1.trans hx, fun a w hsat => hs a w (hs1 a w hsat)⟩
  ·obtain ⟨s1, h1, h2⟩ := Option.bind_eq_some_iff.1 h
   obtain ⟨hw1, hx1, hs1⟩ := ptrOp_ok (E := E) (N := N) hw h1 (η := η)
   obtain ⟨hw2, η', hx, hs⟩ := convs_ok h2 hw1 η
   exact ⟨hw2, η', hx1.trans hx, fun a w hsat => hs a w (hs1 a w hsat)⟩
  ·exact convs_ok h hw η
  ·cases h
 | .tidy :: r, st, st', h, hw, η => by
  unfold convs at h
  obtain ⟨hw1, h1⟩ := tidy_goes (st := st) hw
  obtain ⟨η1, hx1, hs1⟩ := h1 η
  obtain ⟨hw2, η', hx, hs⟩ := convs_ok h hw1 η1
  exact ⟨hw2, η', hx1.trans hx, fun a w hsat => hs a w (hs1 a w hsat).1⟩
end

def firstId : Code → Nat
 | .region i _ _ => 2 * i + 2
 | .block i _ => 2 * i + 3
 | .seq a _ => firstId a
 | .cond _ a b => bif Nat.beq (firstId a) 0 then firstId b else firstId a
 | _ => 0

variable [DrawMode] {P : Program} [PTab P] {R A : Type}

def evL (P : Program) [PTab P] (T : FuncId → List Con) (H : Hints) (N : Nat) (ops : Array Oper) : List Oper → MSt → (MSt → Option A) → Option A
 | [], st, k => k st
 | ⟨dst, op, ty, pos, aft, gd⟩ :: rest, st, k =>
  let run : MSt → Option A := fun st => match dst with
   | some d => bif Nat.blt d N then (prep P T (hasN H.cons d) (prepX st op) op).bind fun st => (opE P T (hasN H.own d) st.n st.env st.G st.O op).run fun r =>
     evL P T H N ops rest ⟨r.n' st.n, r.env' st.n st.env, (d, r.val) :: st.G, r.O' st.O⟩ k else none
   | none => (prep P T false (prepX st op) op).bind fun st => (opE P T false st.n st.env st.G st.O op).run fun r =>
     evL P T H N ops rest ⟨r.n' st.n, r.env' st.n st.env, st.G, r.O' st.O⟩ k
  let skip : MSt → Option A := fun st => match dst with
   | some d => bif Nat.blt d N then evL P T H N ops rest ⟨st.n, st.env, (d, .undef) :: st.G, st.O⟩ k else none
   | none => none
  match gd with
  | none => run st
  | some (i, b) => match (ops[i]?).bind (·.dst) with
   | some t => bif Nat.blt t N then (match lkG st.G t with
    | some .undef => skip st
    | some (.vl false [.cb c]) => bif c == b then run st else skip st
    | some (.vl false [.vr v]) => match (rdD st.env (.vr v)).bind Dyn.bool with
     | some c => bif c then (bif b then run ⟨st.n, st.env, (t, .vl false [.cb true]) :: st.G, st.O⟩ else skip ⟨st.n, st.env, (t, .vl false [.cb true]) :: st.G, st.O⟩)
       else (bif b then skip ⟨st.n, st.env, (t, .vl false [.cb false]) :: st.G, st.O⟩ else run ⟨st.n, st.env, (t, .vl false [.cb false]) :: st.G, st.O⟩)
     | none => none
    | _ => none) else none
   | none => none

variable {E : Env} {N : Nat} {K : KT R}
abbrev MSt.cx' (s : MSt) (η : Nat → Hd) : Cx := ⟨s.n, s.env, η⟩

theorem evL_ok {T : FuncId → List Con} (hT : TabOk P T) {H : Hints} {ops : Array Oper} {K : KT A} {k : MSt → Option A} : ∀ (l : List Oper) (st : MSt) (η : Nat → Hd), WF st.n st.env →
  (∀ st' η', WF st'.n st'.env → Ext (st.cx' η) (st'.cx' η') → RefE E N .normal (k st') (gma (st'.cx' η') st'.G) (oma (st'.cx' η') st'.O) K) →
  RefL P E N (evL P T H N ops l st k) ops l (gma (st.cx' η) st.G) (oma (st.cx' η) st.O) K
 | [], st, η, hw, hk => l_nil (hk st η hw (.refl _))
 | ⟨dst, op, ty, pos, aft, gd⟩ :: rest, st0, η, hw0, hk0 => by
  -- the operation is carried out
  have hrun : ∀ (st : MSt), WF st.n st.env → (∀ st' η', WF st'.n st'.env → Ext (st.cx' η) (st'.cx' η') → RefE E N .normal (k st') (gma (st'.cx' η') st'.G) (oma (st'.cx' η') st'.O) K) →
    RefL P E N (match dst with
     | some d => bif Nat.blt d N then (prep P T (hasN H.cons d) (prepX st op) op).bind fun st => (opE P T (hasN H.own d) st.n st.env st.G st.O op).run fun r =>
       evL P T H N ops rest ⟨r.n' st.n, r.env' st.n st.env, (d, r.val) :: st.G, r.O' st.O⟩ k else none
     | none => (prep P T false (prepX st op) op).bind fun st => (opE P T false st.n st.env st.G st.O op).run fun r =>
       evL P T H N ops rest ⟨r.n' st.n, r.env' st.n st.env, st.G, r.O' st.O⟩ k) ops (⟨dst, op, ty, pos, aft, none⟩ :: rest) (gma (st.cx' η) st.G) (oma (st.cx' η) st.O) K := by
   intro st hw hk
   obtain ⟨hw0, hgo⟩ := prepX_goes (st := st) (op := op) hw
   obtain ⟨η0, hx0, hs0⟩ := hgo η
   cases dst with
   | some d =>
    simp only
    cases hd : Nat.blt d N with
    | false => exact pnone
    | true =>
     simp only [cond_true]
     refine pull fun st1 h1 => ?_
     have hkp := prep_ok h1
     have hw1 : WF st1.n st1.env := by rw [hkp.1, hkp.2.1]; exact hw0
     have hcx : st1.cx' η0 = (prepX st op).cx' η0 := by simp only [MSt.cx', hkp.1, hkp.2.1]
     refine b_of (Γ' := gma (st1.cx' η0) st1.G) (Ω' := oma (st1.cx' η0) st1.O) (fun a w hs => by rw [hcx]; exact hkp.2.2 η0 a w (hs0 a w hs).1) ?_
     refine ref_ask (opE_ok (E := E) (N := N) (ty := ty) hT hw1) fun r hr => ?_
     refine hr.step hw1 hd fun x => ?_
     refine evL_ok hT rest ⟨r.n' st1.n, r.env' st1.n st1.env, (d, r.val) :: st1.G, r.O' st1.O⟩ x.1 (OpR.wf hw1 hr.src) fun st' η' hw' hx => hk st' η' hw' (hx0.trans ?_)
     show Ext ((prepX st op).cx' η0) _
     rw [← hcx]
     exact (OpOk.ext hw1 hr.src x).trans hx
   | none =>
    simp only
    refine pull fun st1 h1 => ?_
    have hkp := prep_ok h1
    have hw1 : WF st1.n st1.env := by rw [hkp.1, hkp.2.1]; exact hw0
    have hcx : st1.cx' η0 = (prepX st op).cx' η0 := by simp only [MSt.cx', hkp.1, hkp.2.1]
    refine b_of (Γ' := gma (st1.cx' η0) st1.G) (Ω' := oma (st1.cx' η0) st1.O) (fun a w hs => by rw [hcx]; exact hkp.2.2 η0 a w (hs0 a w hs).1) ?_
    refine ref_ask (opE_ok (E := E) (N := N) (ty := ty) hT hw1) fun r hr => ?_
    refine hr.step0 hw1 fun x => ?_
    refine evL_ok hT rest ⟨r.n' st1.n, r.env' st1.n st1.env, st1.G, r.O' st1.O⟩ x.1 (OpR.wf hw1 hr.src) fun st' η' hw' hx => hk st' η' hw' (hx0.trans ?_)
    show Ext ((prepX st op).cx' η0) _
    rw [← hcx]
    exact (OpOk.ext hw1 hr.src x).trans hx
  -- it is left out
  have hskip : ∀ (st : MSt) (i : Nat) (b : Bool), WF st.n st.env → (∀ st' η', WF st'.n st'.env → Ext (st.cx' η) (st'.cx' η') → RefE E N .normal (k st') (gma (st'.cx' η') st'.G) (oma (st'.cx' η') st'.O) K) →
    (∀ d, dst = some d → Nat.blt d N = true → RefL P E N (evL P T H N ops rest ⟨st.n, st.env, (d, .undef) :: st.G, st.O⟩ k) ops rest ((d, pv Go.undef) :: gma (st.cx' η) st.G) (oma (st.cx' η) st.O) K →
     RefL P E N (evL P T H N ops rest ⟨st.n, st.env, (d, .undef) :: st.G, st.O⟩ k) ops (⟨some d, op, ty, pos, aft, some (i, b)⟩ :: rest) (gma (st.cx' η) st.G) (oma (st.cx' η) st.O) K) →
    RefL P E N (match dst with
     | some d => bif Nat.blt d N then evL P T H N ops rest ⟨st.n, st.env, (d, .undef) :: st.G, st.O⟩ k else none
     | none => none) ops (⟨dst, op, ty, pos, aft, some (i, b)⟩ :: rest) (gma (st.cx' η) st.G) (oma (st.cx' η) st.O) K := by
   intro st i b hw hk hoff
   cases dst with
   | none => exact pnone
   | some d =>
    simp only
    cases hd : Nat.blt d N with
    | false => exact pnone
    | true => exact hoff d rfl hd (evL_ok hT rest ⟨st.n, st.env, (d, .undef) :: st.G, st.O⟩ η hw hk)
  cases gd with
  | none => exact hrun st0 hw0 hk0
  | some g =>
   obtain ⟨i, b⟩ := g
   unfold evL
   simp only
   split
   ·rename_i t hi
    cases hN : Nat.blt t N with
    | false => exact pnone
    | true =>
     simp only [cond_true]
     split
     ·rename_i hl
      have hlk : lk (gma (st0.cx' η) st0.G) t = some (pv Go.undef) := by rw [lk_gma, hl]; rfl
      exact hskip st0 i b hw0 hk0 fun d _ hd h => s_offU hi hlk hd h
     ·rename_i c hl
      have hlk : lk (gma (st0.cx' η) st0.G) t = some (bv c) := by rw [lk_gma, hl]; rfl
      cases hcb : (c == b) with
      | true =>
       have : c = b := by simpa using hcb
       subst this
       exact s_on hi hlk hN (hrun st0 hw0 hk0)
      | false => exact hskip st0 i b hw0 hk0 fun d _ hd h => s_off hi hlk hN hcb hd h
     ·rename_i v hl
      split
      ·rename_i c hc
       have hlk : lk (gma (st0.cx' η) st0.G) t = some (bv c) := by
        rw [lk_gma, hl]
        obtain ⟨D, h1, h2⟩ := Option.bind_eq_some_iff.1 hc
        show some ((At.vr v).rp (st0.cx' η)) = _
        rw [(rdD_rp (c := st0.cx' η) h1).1, Dyn.bool_rp h2]
       refine b_split hlk (fun hct => ?_) (fun hcf => ?_)
       ·have hlk' : ∀ {Γ : List (Nat × RP)}, lk ((t, bv true) :: Γ) t = some (bv true) := lk_cons_eq
        cases b with
        | true => exact s_on hi hlk' hN (hrun ⟨st0.n, st0.env, (t, .vl false [.cb true]) :: st0.G, st0.O⟩ hw0 hk0)
        | false => exact hskip ⟨st0.n, st0.env, (t, .vl false [.cb true]) :: st0.G, st0.O⟩ i false hw0 hk0 fun d _ hd h => s_off hi hlk' hN rfl hd h
       ·have hlk' : ∀ {Γ : List (Nat × RP)}, lk ((t, bv false) :: Γ) t = some (bv false) := lk_cons_eq
        cases b with
        | true => exact hskip ⟨st0.n, st0.env, (t, .vl false [.cb false]) :: st0.G, st0.O⟩ i true hw0 hk0 fun d _ hd h => s_off hi hlk' hN rfl hd h
        | false => exact s_on hi hlk' hN (hrun ⟨st0.n, st0.env, (t, .vl false [.cb false]) :: st0.G, st0.O⟩ hw0 hk0)
      ·exact pnone
     ·exact pnone
   ·exact pnone
end Go.Dc

namespace Go.Dc
variable [DrawMode]
variable {P : Program} {E : Env} {N : Nat} {Γ : List (Nat × RP)} {Ω : List OB} {R : Type} {m : Option R} {K : KT R} {ops : Array Oper} {fl : List Nat}
variable (hok : okDraw ops fl = true) {l lA : Array Bool} {aV aA : Act} {w : World} {pend pend' : List (Nat × List Nat)}
include hok
theorem a_loudP {X : Type} {i : Nat} {op : Op} {ty : TypeId} {pos : String} {aft : Array Edge} {gd : Option (Nat × Bool)} {dst : Option Nat} {js : List Nat} {φ : X → RP} {Ω' : X → List OB} (hi : ops[i]? = some ⟨dst, op, ty, pos, aft, gd⟩)
  (hf : hasN fl i = false)
  (hr : ∀ a w, Sat E N Γ Ω a w → (Region.wanted ⟨dst, op, ty, pos, aft, gd⟩ (yielded ops a.tmps) = true ∧ opwp P op ty a.eval w fun v w' => ∃ x, Sat E N Γ (Ω' x) a w' ∧ (φ x).h (fr E (Ω' x)) w' v ∧ Eff Ω (Ω' x) js w w') ∨
   (Region.wanted ⟨dst, op, ty, pos, aft, gd⟩ (yielded ops a.tmps) = false ∧ ∃ x, Sat E N Γ (Ω' x) a w ∧ (φ x).h (fr E (Ω' x)) w undef ∧ Eff Ω (Ω' x) js w w))
  (hd : ∀ d, dst = some d → Nat.blt d N = true)
  (hsafe : ∀ x, Safe (predsOf ⟨dst, op, ty, pos, aft, gd⟩) js Ω (Ω' x) pend)
  (hp' : ∀ p J, (p, J) ∈ pend → p ∉ predsOf ⟨dst, op, ty, pos, aft, gd⟩ → (p, J) ∈ pend')
  (h : ∀ x, RefA P E N m ops fl (l.setIfInBounds i true) pend' (putΓ Γ dst (φ x)) (Ω' x) K) : Loud P E N m ops fl l pend Γ Ω K i := by
 intro r hm aV w hs lA aA hc hiA hiR
 obtain ⟨_, o, ho, hpre⟩ := (ready_iff hc.s2).1 hiR
 rw [hi] at ho; cases ho
 have hlook := hc.look hok hi hpre hiA
 have hiN : i < ops.size := (Array.getElem?_eq_some_iff.1 hi).1
 have his : i < l.size := by rw [hc.s1]; exact hiN
 have hisA : i < lA.size := by rw [hc.s2]; exact hiN
 have hdN : ∀ d, dst = some d → d < N := fun d h => by simpa [Nat.blt_eq] using hd d h
 have key : ∀ v w', (∃ x, Sat E N Γ (Ω' x) aV w' ∧ (φ x).h (fr E (Ω' x)) w' v ∧ Eff Ω (Ω' x) js w w') →
   wpAny P .any ops (K r) (cntF (lA.setIfInBounds i true)) (lA.setIfInBounds i true) (aA.put dst v) w' := ?key
 ·unfold wpOp
  simp only [hi]
  rw [yield_same (ops := ops) hc.ts hlook]
  rcases hr aV w hs with ⟨hw, hrr⟩ | ⟨hw, hrr⟩
  ·rw [if_pos hw]
   refine .inl ?_
   unfold Oper.wp
   rw [eval_same (ops := ops) (fun cs b => Region.noSelect_spec (okDraw_sel hok) i _ cs b hi) hlook]
   exact resW.upon key (hrr _ rfl rfl)
  ·rw [if_neg (by simp [hw])]
   exact key _ _ hrr
 rintro v w' ⟨x, hs', hv, heff⟩
 have hsz := heff.size
 have hsat : Sat E N (putΓ Γ dst (φ x)) (Ω' x) (aV.put dst v) w' := by
  unfold putΓ
  split
  ·rename_i d; exact hs'.put (hdN d rfl) hv
  ·exact hs'
 refine h x r hm _ w' hsat _ _ ?_
 refine ⟨by simpa using hc.s1, by simpa using hc.s2, fun j hj => (isL_set his).2 (((isL_set hisA).1 hj).imp id (hc.sub j)), fun j hj => ?_, fun j oj hj hoj e he hb => (isL_set his).2 ?_,
  by rw [put_size, put_size]; exact hc.ts, fun t ht => ?_, by cases dst <;> exact hc.df⟩
 ·rcases (isL_set his).1 hj with e | hj
  ·exact .inl ((isL_set hisA).2 (.inl e))
  ·by_cases hjA : isL lA j
   ·exact .inl ((isL_set hisA).2 (.inr hjA))
   ·rcases hc.pd j hj with h2 | ⟨hjf, J, hJ, o', d', ho', hd', h3⟩
    ·exact absurd h2 hjA
    ·have hnp : j ∉ predsOf ⟨dst, op, ty, pos, aft, gd⟩ := fun hp => by
      obtain ⟨e2, he, heq⟩ := List.mem_map.1 hp
      obtain ⟨he1, he2⟩ := List.mem_filter.1 he
      exact hjA (heq ▸ hpre e2 (Array.mem_toList_iff.1 he1) he2)
     refine .inr ⟨hjf, J, hp' j J hJ hnp, o', d', ho', hd', ?_⟩
     have hij : j ≠ i := fun e => by rw [e, hf] at hjf; cases hjf
     -- the float j does not look at what i writes, nor write it
     have hno : ∀ t, t ∈ o'.looksAt ops ∨ o'.dst = some t → dst ≠ some t := fun t ht e => by
      rcases okDraw_any hok hi ho' e (Ne.symm hij) ht with ⟨e2, he, hb, heq⟩ | ⟨e2, he, hb, heq⟩
      ·have := hc.dc j o' hj ho' e2 he hb
       rw [heq] at this
       rcases hc.pd i this with h4 | ⟨h4, _⟩
       ·exact hiA h4
       ·rw [h4] at hf; cases hf
      ·exact hjA (heq ▸ hpre e2 he hb)
     have e0 : ∀ t, dst ≠ some t → (aV.put dst v).tmps.getD t undef = aV.tmps.getD t undef := fun t ht => by
      cases dst with
      | none => rfl
      | some d => exact put_other fun e => ht (by rw [e])
     have e1 : ∀ t, t ∈ o'.looksAt ops → (aV.put dst v).tmps.getD t undef = aV.tmps.getD t undef := fun t ht => e0 t (hno t (.inl ht))
     rw [e0 d' (hno d' (.inr hd')), yield_same (ops := ops) put_size e1, eval_same (ops := ops) (fun cs b => Region.noSelect_spec (okDraw_sel hok) j o' cs b ho') e1]
     have hJs := Safe.at (hsafe x) j J hJ hnp
     refine h3.imp id fun ⟨hw, B, hB, hrun⟩ => ⟨hw, B, fun b hb => ?_, fun w'' hw'' => hrun w'' fun b hb => ?_⟩
     ·obtain ⟨hbl, hbo⟩ := hB b hb
      exact ⟨by omega, hbo.elim (fun h => .inl fun hm => h (heff.own b hbl hm)) fun ⟨k, hk, ob, hob, hbS⟩ => .inr ⟨k, hk, ob, by rw [(hJs k hk).2]; exact hob, hbS⟩⟩
     ·obtain ⟨hbl, hbo⟩ := hB b hb
      rw [hw'' b hb]
      refine heff.keep b hbl fun k hk ob hob hbS => ?_
      rcases hbo with h5 | ⟨q, hq, ob', hob', hbS'⟩
      ·exact h5 (Sat.notin hob hbS)
      ·exact disj hob' hob (fun e => (hJs q hq).1 (e ▸ hk)) hs.nd hbS' hbS
 ·rcases (isL_set his).1 hj with e2 | hj
  ·subst e2
   rw [hi] at hoj; cases hoj
   exact .inr (hc.sub _ (hpre e he hb))
  ·exact .inr (hc.dc j oj hj hoj e he hb)
 ·cases dst with
  | none =>
   refine hc.ag t fun j oj hj hdj hl => ?_
   rcases (isL_set hisA).1 (ht j oj hj hdj ((isL_set his).2 (.inr hl))) with e | e
   ·subst e; rw [hi] at hj; cases hj; cases hdj
   ·exact e
  | some d =>
   by_cases e : t = d
   ·subst e
    have hlt : t < aV.tmps.size := by rw [hs.sz]; exact hdN t rfl
    rw [put_self hlt, put_self (by rw [hc.ts]; exact hlt)]
   ·rw [put_other e, put_other e]
    refine hc.ag t fun j oj hj hdj hl => ?_
    rcases (isL_set hisA).1 (ht j oj hj hdj ((isL_set his).2 (.inr hl))) with e2 | e2
    ·subst e2; rw [hi] at hj; cases hj; exact absurd (Option.some.inj hdj).symm e
    ·exact e2

theorem a_stP {X : Type} {i : Nat} {op : Op} {ty : TypeId} {pos : String} {aft : Array Edge} {dst : Option Nat} {js : List Nat} {φ : X → RP} {Ω' : X → List OB} (hi : ops[i]? = some ⟨dst, op, ty, pos, aft, none⟩)
  (hf : hasN fl i = false) (hr : St P E N op ty Γ Ω js φ Ω') (hd : ∀ d, dst = some d → Nat.blt d N = true)
  (hsafe : ∀ x, Safe (predsOf ⟨dst, op, ty, pos, aft, none⟩) js Ω (Ω' x) pend)
  (hp' : ∀ p J, (p, J) ∈ pend → p ∉ predsOf ⟨dst, op, ty, pos, aft, none⟩ → (p, J) ∈ pend')
  (h : ∀ x, RefA P E N m ops fl (l.setIfInBounds i true) pend' (putΓ Γ dst (φ x)) (Ω' x) K) : Loud P E N m ops fl l pend Γ Ω K i :=
 a_loudP hok hi hf (fun a w hs => .inl ⟨by simp [Region.wanted], hr a w hs⟩) hd hsafe hp' h

theorem a_stOnP {X : Type} {i g t : Nat} {b : Bool} {op : Op} {ty : TypeId} {pos : String} {aft : Array Edge} {dst : Option Nat} {js : List Nat} {φ : X → RP} {Ω' : X → List OB} (hi : ops[i]? = some ⟨dst, op, ty, pos, aft, some (g, b)⟩)
  (hg : (ops[g]?).bind (·.dst) = some t) (ht : lk Γ t = some (bv b)) (hN : Nat.blt t N = true)
  (hf : hasN fl i = false) (hr : St P E N op ty Γ Ω js φ Ω') (hd : ∀ d, dst = some d → Nat.blt d N = true)
  (hsafe : ∀ x, Safe (predsOf ⟨dst, op, ty, pos, aft, some (g, b)⟩) js Ω (Ω' x) pend)
  (hp' : ∀ p J, (p, J) ∈ pend → p ∉ predsOf ⟨dst, op, ty, pos, aft, some (g, b)⟩ → (p, J) ∈ pend')
  (h : ∀ x, RefA P E N m ops fl (l.setIfInBounds i true) pend' (putΓ Γ dst (φ x)) (Ω' x) K) : Loud P E N m ops fl l pend Γ Ω K i :=
 a_loudP hok hi hf (fun a w hs => .inl ⟨by simp [Region.wanted, yielded_of hs hg ht hN], hr a w hs⟩) hd hsafe hp' h


omit hok [DrawMode] in
theorem dropP_mem {pre : List Nat} {pend : List (Nat × List Nat)} : ∀ p J, (p, J) ∈ pend → p ∉ pre → (p, J) ∈ pend.filter fun q => !hasN pre q.1 := fun p J h hp => by
 refine List.mem_filter.2 ⟨h, ?_⟩
 cases hh : hasN pre p with
 | false => rfl
 | true => exact absurd (hasN_iff.1 hh) hp
end Go.Dc

namespace Go.Dc

section
variable [SRep] [DrawMode]
def Calm (Ω Ω' : List OB) : Prop := (ow Ω).Nodup → (ow Ω').Nodup ∧ ∀ (b : Nat) (J : List Nat), (b ∉ ow Ω ∨ ∃ j ∈ J, ∃ ob, Ω[j]? = some ob ∧ b ∈ ob.S) → (b ∉ ow Ω' ∨ ∃ j ∈ J, ∃ ob, Ω'[j]? = some ob ∧ b ∈ ob.S)
theorem Calm.refl (Ω : List OB) : Calm Ω Ω := fun h => ⟨h, fun _ _ h => h⟩
theorem Calm.trans {A B C : List OB} (h : Calm A B) (k : Calm B C) : Calm A C := fun hn => ⟨(k (h hn).1).1, fun b J hb => (k (h hn).1).2 b J ((h hn).2 b J hb)⟩

theorem calm_map {c : Cx} {f : At → At} {O : List MO} : Calm (oma c O) (oma c (mapO f O)) := fun hn => by
 refine ⟨by rw [ow_mapO]; exact hn, fun b J h => ?_⟩
 rw [ow_mapO]
 refine h.imp id fun ⟨j, hj, ob, h1, h2⟩ => ?_
 simp only [oma, List.getElem?_map] at h1
 obtain ⟨m, hm, rfl⟩ := Option.map_eq_some_iff.1 h1
 exact ⟨j, hj, (m.map f).ob c, by simp [oma, mapO, hm], by rw [map_S]; exact h2⟩
theorem calm_dead {Ω : List OB} {j : Nat} {o : OB} (hj : Ω[j]? = some o) : Calm Ω (Ω.set j dead) := fun hn => by
 refine ⟨?_, dead_keeps hj hn⟩
 obtain ⟨A, B, rfl, rfl⟩ := ow_split hj
 rw [set_split, ow_mid]
 rw [ow_mid] at hn
 simp only [dead, List.nil_append]
 exact hn.sublist (List.Sublist.append (List.Sublist.refl _) (List.sublist_append_right _ _))

theorem frz_calm {st st' : MSt} {o : Nat} (h : frzSt st o = some st') (η : Nat → Hd) : Calm (oma ⟨st.n, st.env, η⟩ st.O) (oma ⟨st.n, st.env, η⟩ st'.O) := by
 unfold frzSt at h
 split at h
 ·rename_i k i ho
  cases hb : Nat.blt k st.n && ((lkE st.env i).map Ent.asF).getD false with
  | false => rw [hb] at h; cases h
  | true =>
   rw [hb] at h; cases h
   refine (calm_map (f := frzA k i)).trans ?_
   rw [oma_setD]
   have hlt : o < (mapO (frzA k i) st.O).length := by simp only [mapO, List.length_map]; exact (List.getElem?_eq_some_iff.1 ho).1
   exact calm_dead (o := ((mapO (frzA k i) st.O)[o]).ob ⟨st.n, st.env, η⟩) (by simp [oma, hlt])
 ·cases h
theorem frzAll_calm : ∀ {os : List Nat} {st st' : MSt}, frzAll os st = some st' → ∀ η, Calm (oma ⟨st.n, st.env, η⟩ st.O) (oma ⟨st.n, st.env, η⟩ st'.O)
 | [], st, st', h, η => by cases h; exact .refl _
 | o :: os, st, st', h, η => by
  unfold frzAll at h
  split at h
  ·exact frzAll_calm h η
  ·obtain ⟨s1, h1, h2⟩ := Option.bind_eq_some_iff.1 h
   have h3 := frzAll_calm h2 η
   have hk := frz_keeps' h1
   rw [hk.1, hk.2.1] at h3
   exact (frz_calm h1 η).trans h3
theorem mapG_cb {f : At → At} (hf : ∀ c : Bool, f (.cb c) = .cb c) {G : List (Nat × Sh)} {t : Nat} {c : Bool} (h : lkG G t = some (.vl false [.cb c])) : lkG (mapG f G) t = some (.vl false [.cb c]) := by
 rw [lk_mapG, h]; simp [Sh.map, hf]
theorem frzAll_cb {t : Nat} {c : Bool} : ∀ {os : List Nat} {st st' : MSt}, frzAll os st = some st' → lkG st.G t = some (.vl false [.cb c]) → lkG st'.G t = some (.vl false [.cb c])
 | [], st, st', h, hl => by cases h; exact hl
 | o :: os, st, st', h, hl => by
  unfold frzAll at h
  split at h
  ·exact frzAll_cb h hl
  ·obtain ⟨s1, h1, h2⟩ := Option.bind_eq_some_iff.1 h
   refine frzAll_cb h2 ?_
   unfold frzSt at h1
   split at h1
   ·rename_i k i ho
    cases hb : Nat.blt k st.n && ((lkE st.env i).map Ent.asF).getD false with
    | false => rw [hb] at h1; cases h1
    | true => rw [hb] at h1; cases h1; exact mapG_cb (fun _ => rfl) hl
   ·cases h1
end

variable [DrawMode] {P : Program} [PTab P] {R A : Type} {E : Env} {N : Nat}

theorem prepC_calm {f : Nat} {ss : List Sh} {args : List Operand} {cs : List Cap} {st st' : MSt} : ∀ {l : List Con}, prepC P f ss args cs st l = some st' → ∀ η, Calm (oma ⟨st.n, st.env, η⟩ st.O) (oma ⟨st.n, st.env, η⟩ st'.O)
 | [], h => by cases h
 | C :: r, h => by
  unfold prepC at h
  split at h
  ·rename_i s1 h1
   split at h
   ·cases h; exact frzAll_calm h1
   ·exact prepC_calm h
  ·exact prepC_calm h
theorem prep_calm {T : FuncId → List Con} {cons : Bool} {op : Op} {st st' : MSt} (h : prep P T cons st op = some st') (η : Nat → Hd) : Calm (oma ⟨st.n, st.env, η⟩ st.O) (oma ⟨st.n, st.env, η⟩ st'.O) := by
 unfold prep at h
 split at h
 ·exact frzAll_calm h η
 ·split at h
  ·rename_i x y _ _ _ _ _
   cases hd : isDl st.env st.G x with
   | true => rw [hd] at h; cases h; exact .refl _
   | false => rw [hd] at h; exact frzAll_calm h η
  ·exact frzAll_calm h η
  ·cases h; exact .refl _
 ·exact frzAll_calm h η
 ·cases cons with
  | true => cases h; exact .refl _
  | false => exact frzAll_calm h η
 ·split at h
  ·exact frzAll_calm h η
  ·cases h; exact .refl _
 ·split at h
  ·obtain ⟨ss, _, h⟩ := Option.bind_eq_some_iff.1 h
   exact prepC_calm h η
  ·cases h
 ·cases h; exact .refl _

def calmE (n : Nat) (env : List (Nat × Ent)) (O : List MO) (pre js : List Nat) : List (Nat × List Nat) → Bool
 | [] => true
 | (p, J) :: r => (hasN pre p || J.all fun j => !hasN js j && match O[j]? with | some m => m.clo n env | none => false) && calmE n env O pre js r
theorem calmE_ok {c c' : Cx} (hx : Ext c c') {O O' : List MO} {pre js : List Nat} (hO : ∀ j, j ∉ js → j < O.length → O'[j]? = O[j]?) : ∀ {pend : List (Nat × List Nat)}, calmE c.n c.env O pre js pend = true → Safe pre js (oma c O) (oma c' O') pend
 | [], _ => trivial
 | (p, J) :: r, h => by
  simp only [calmE, Bool.and_eq_true, Bool.or_eq_true] at h
  refine ⟨?_, calmE_ok hx hO h.2⟩
  cases hp : hasN pre p with
  | true => trivial
  | false =>
   simp only [cond_false]
   have h1 : (J.all fun j => !hasN js j && match O[j]? with | some m => m.clo c.n c.env | none => false) = true := h.1.resolve_left (by simp [hp])
   clear h hp
   induction J with
   | nil => trivial
   | cons j J ih =>
    simp only [List.all_cons, Bool.and_eq_true, Bool.not_eq_true'] at h1
    refine ⟨⟨h1.1.1, ?_⟩, ih (by simpa using h1.2)⟩
    have h2 := h1.1.2
    split at h2
    ·rename_i m hm
     have hlt := (List.getElem?_eq_some_iff.1 hm).1
     have h3 := hO j (fun hh => by have := h1.1.1; rw [hasN_iff.2 hh] at this; cases this) hlt
     simp only [oma, List.getElem?_map, h3, hm, Option.map_some]
     rw [MO.clo_ok hx h2]
    ·cases h2

def dropP (pre : List Nat) (pend : List (Nat × List Nat)) : List (Nat × List Nat) := pend.filter fun q => !hasN pre q.1
theorem OpR.O'_out {r : OpR} {O : List MO} {j : Nat} (hj : j ∉ r.upd.map (·.1)) (hlt : j < O.length) : (r.O' O)[j]? = O[j]? := by
 unfold OpR.O'
 rw [List.getElem?_append_left (by rw [updO_len]; exact hlt), updO_out hj]

theorem a_ofX {K : KT R} {m : Option R} {Γ Γ' : List (Nat × RP)} {Ω Ω' : List OB} {ops : Array Oper} {fl : List Nat} {l : Array Bool} {pend : List (Nat × List Nat)} (hw : ∀ a w, Sat E N Γ Ω a w → Sat E N Γ' Ω' a w ∧ ∀ b, b ∈ ow Ω' → b ∈ ow Ω)
  (hΩ : ∀ p J, (p, J) ∈ pend → ∀ j ∈ J, ∀ ob, Ω[j]? = some ob → ∃ ob', Ω'[j]? = some ob' ∧ ob'.S = ob.S)
  (h : RefA P E N m ops fl l pend Γ' Ω' K) : RefA P E N m ops fl l pend Γ Ω K := by
 intro r hr a w hs lA aA hc
 refine h r hr a w (hw a w hs).1 lA aA ⟨hc.s1, hc.s2, hc.sub, fun i hi => ?_, hc.dc, hc.ts, hc.ag, hc.df⟩
 rcases hc.pd i hi with h1 | ⟨h1, J, hJ, o, d, ho, hd, h2⟩
 ·exact .inl h1
 ·refine .inr ⟨h1, J, hJ, o, d, ho, hd, ?_⟩
  rcases h2 with h2 | ⟨h2, B, hB, h3⟩
  ·exact .inl h2
  ·refine .inr ⟨h2, B, fun b hb => ⟨(hB b hb).1, ?_⟩, h3⟩
   rcases (hB b hb).2 with h4 | ⟨j, hj, ob, h4, h5⟩
   ·exact .inl fun hm => h4 ((hw a w hs).2 b hm)
   ·obtain ⟨ob', h6, h7⟩ := hΩ i J hJ j hj ob h4
    exact .inr ⟨j, hj, ob', h6, by rw [h7]; exact h5⟩
def keepS (st st' : MSt) (j : Nat) : Bool := match st.O[j]?, st'.O[j]? with
 | some (.oc h _), some (.oc h' _) => Nat.beq h h' && Nat.blt h st.n
 | some (.oa h i), some (.oa h' i') => (Nat.beq h h' && Nat.blt h st.n) && (Nat.beq i i' && (lkE st.env i).isSome)
 | some .dead, some .dead => true
 | _, _ => false
theorem keepS_ok {st st' : MSt} {j : Nat} {η η' : Nat → Hd} (hx : Ext ⟨st.n, st.env, η⟩ ⟨st'.n, st'.env, η'⟩) (h : keepS st st' j = true) : ∀ ob, (oma ⟨st.n, st.env, η⟩ st.O)[j]? = some ob → ∃ ob', (oma ⟨st'.n, st'.env, η'⟩ st'.O)[j]? = some ob' ∧ ob'.S = ob.S := by
 intro ob hob
 unfold keepS at h
 split at h
 ·rename_i k l k' l' h1 h2
  simp only [Bool.and_eq_true] at h
  obtain rfl := Nat.eq_of_beq_eq_true h.1
  simp only [oma, List.getElem?_map, h1, Option.map_some, Option.some.injEq] at hob
  subst hob
  refine ⟨(MO.oc k l').ob ⟨st'.n, st'.env, η'⟩, by simp only [oma, List.getElem?_map, h2, Option.map_some], ?_⟩
  simp only [MO.ob, h.2, blt_mono h.2 hx.n, cond_true]
  have := hx.η k (by simpa [Nat.blt_eq] using h.2)
  simp only at this
  simp only [Dc.oc, this]
 ·rename_i k i k' i' h1 h2
  simp only [Bool.and_eq_true] at h
  obtain ⟨⟨h3, h4⟩, h5, h6⟩ := h
  obtain rfl := Nat.eq_of_beq_eq_true h3
  obtain rfl := Nat.eq_of_beq_eq_true h5
  simp only [oma, List.getElem?_map, h1, Option.map_some, Option.some.injEq] at hob
  subst hob
  refine ⟨(MO.oa k i).ob ⟨st'.n, st'.env, η'⟩, by simp only [oma, List.getElem?_map, h2, Option.map_some], ?_⟩
  have h7 : (MO.oa k i).ob ⟨st'.n, st'.env, η'⟩ = (MO.oa k i).ob ⟨st.n, st.env, η⟩ := MO.clo_ok hx (by simp only [MO.clo, h4, h6, Bool.and_self])
  rw [h7]
 ·rename_i h1 h2
  simp only [oma, List.getElem?_map, h1, Option.map_some, Option.some.injEq] at hob
  subst hob
  exact ⟨MO.dead.ob ⟨st'.n, st'.env, η'⟩, by simp only [oma, List.getElem?_map, h2, Option.map_some], rfl⟩
 ·cases h
def pendX (st st' : MSt) (pend : List (Nat × List Nat)) : Bool := pend.all fun x => x.2.all (keepS st st')
def isInnA : At → Bool
 | .inn _ _ _ => true
 | _ => false
def isFct : MO → Bool
 | .pin _ _ _ => true
 | .eqv _ _ => true
 | _ => false
def needX (st : MSt) : Op → Bool
 | .call ⟨.value _, args, _⟩ => st.O.any isFct || (args.toList.flatMap (opAt st.G)).any isInnA
 | _ => false

theorem renL_cb {t : Nat} {c : Bool} : ∀ {l : List (Nat × Nat)} {st : MSt}, lkG st.G t = some (.vl false [.cb c]) → lkG (renL l st).G t = some (.vl false [.cb c])
 | [], st, h => h
 | (a, b) :: r, st, h => by
  unfold renL
  split
  ·rename_i st' hst
   refine renL_cb ?_
   unfold renSt at hst
   cases hb : st.O.any (MO.isEqv a b) && (Nat.blt a st.n && Nat.blt b st.n) with
   | false => rw [hb] at hst; cases hst
   | true => rw [hb] at hst; cases hst; exact mapG_cb (fun _ => rfl) h
  ·exact renL_cb h
theorem renAll_cb {t : Nat} {c : Bool} {st : MSt} (h : lkG st.G t = some (.vl false [.cb c])) : lkG (renAll st).G t = some (.vl false [.cb c]) := by
 unfold renAll
 split
 ·exact h
 ·exact renL_cb h
theorem closeAt_cb {t o : Nat} {c : Bool} {st st' : MSt} (h : closeAt st o = some st') (hl : lkG st.G t = some (.vl false [.cb c])) : lkG st'.G t = some (.vl false [.cb c]) := by
 unfold closeAt at h
 split at h
 ·split at h
  ·obtain ⟨h', _, h⟩ := Option.bind_eq_some_iff.1 h
   obtain ⟨o', _, h⟩ := Option.bind_eq_some_iff.1 h
   unfold closeSt at h
   split at h
   ·split at h
    ·split at h
     ·generalize ((!Nat.beq o o' && _) && _ : Bool) = b at h
      cases b with
      | false => cases h
      | true =>
       simp only [cond_true] at h
       generalize (Nat.beq _ _ : Bool) = b2 at h
       cases b2
       ·cases h; exact mapG_cb (fun _ => rfl) hl
       ·cases h; exact mapG_cb (fun _ => rfl) hl
     ·cases h
    ·cases h
   ·cases h
  ·cases h
 ·cases h
theorem closeL_cb {t : Nat} {c : Bool} : ∀ {m o : Nat} {st : MSt}, lkG st.G t = some (.vl false [.cb c]) → lkG (closeL m o st).G t = some (.vl false [.cb c])
 | 0, _, st, h => h
 | m + 1, o, st, h => by
  unfold closeL
  split
  ·rename_i st' hst; exact closeL_cb (closeAt_cb hst h)
  ·exact closeL_cb h
theorem tidy_cb {t : Nat} {c : Bool} {st : MSt} (h : lkG st.G t = some (.vl false [.cb c])) : lkG (tidy st).G t = some (.vl false [.cb c]) := by
 unfold tidy
 split
 ·exact closeL_cb (renAll_cb h)
 ·exact renAll_cb h
theorem openSt_cb {t : Nat} {c : Bool} {st st' : MSt} {o h y : Nat} (hh : openSt st o h y = some st') (hl : lkG st.G t = some (.vl false [.cb c])) : lkG st'.G t = some (.vl false [.cb c]) := by
 unfold openSt at hh
 split at hh
 ·rename_i u _ i0 k jx h' i _ _
  cases hb : Nat.beq h' h && (Nat.blt h st.n && Nat.beq i i0) with
  | false => rw [hb] at hh; cases hh
  | true =>
   rw [hb] at hh
   simp only [cond_true] at hh
   split at hh
   ·split at hh
    ·cases hh; exact mapG_cb (fun _ => rfl) hl
    ·cases hh
   ·cases hh
 ·cases hh
theorem openA_cb {t : Nat} {c : Bool} : ∀ {l : List At} {st : MSt}, lkG st.G t = some (.vl false [.cb c]) → lkG (openA l st).G t = some (.vl false [.cb c])
 | [], st, h => h
 | a :: r, st, h => by
  unfold openA
  split
  ·rename_i e; cases e
  ·rename_i o k y r' e
   cases e
   split
   ·rename_i st' hst; exact openA_cb (openSt_cb hst h)
   ·exact openA_cb h
  ·rename_i e; cases e; exact openA_cb h
theorem prepX_cb {t : Nat} {c : Bool} {st : MSt} {op : Op} (h : lkG st.G t = some (.vl false [.cb c])) : lkG (prepX st op).G t = some (.vl false [.cb c]) := by
 unfold prepX
 split
 ·exact openA_cb (tidy_cb h)
 ·exact renAll_cb h

open Classical in
noncomputable def meetO {A : Type} (m1 m2 : Option A) : Option A := if m1 = m2 then m1 else none
theorem meetO_some {A : Type} {m1 m2 : Option A} {r : A} (h : meetO m1 m2 = some r) : m1 = some r ∧ m2 = some r := by
 unfold meetO at h
 split at h
 ·rename_i e; exact ⟨h, e ▸ h⟩
 ·cases h
theorem meetO_self {A : Type} {m : Option A} : meetO m m = m := by unfold meetO; rw [if_pos rfl]
noncomputable def meetAll {A : Type} (f : Nat → Option A) : Nat → List Nat → Option A
 | i, [] => f i
 | i, j :: js => meetO (f i) (meetAll f j js)
theorem meetAll_at {A : Type} {f : Nat → Option A} {r : A} : ∀ {l : List Nat} {i : Nat}, meetAll f i l = some r → f i = some r ∧ ∀ j ∈ l, f j = some r
  | [], i, h => ⟨h, fun j hj => by simp at hj⟩
  | k :: l, i, h => by
    obtain ⟨h1, h2⟩ := meetO_some h
    obtain ⟨h3, h4⟩ := meetAll_at h2
    exact ⟨h1, fun j hj => by rcases List.mem_cons.1 hj with e | e
                              · rw [e]; exact h3
                              · exact h4 j e⟩

def putG (dst : Option Nat) (v : Sh) (G : List (Nat × Sh)) : List (Nat × Sh) := match dst with
 | some d => (d, v) :: G
 | none => G
def dnOf : Option Nat → Nat
 | some d => d
 | none => 0
def dstOk (N : Nat) : Option Nat → Bool
 | some d => Nat.blt d N
 | none => true

noncomputable def evA (P : Program) [PTab P] (T : FuncId → List Con) (H : Hints) (N : Nat) (ops : Array Oper) (fl : List Nat) : Nat → Array Bool → List (Nat × List Nat) → MSt → (MSt → Option A) → Option A
 | 0, l, _, st, k => bif allIn ops.size l then k st else none
 | m + 1, l, pend, st, k => match Region.ready .any ops l with
  | [] => none
  | i0 :: is => match (i0 :: is).find? (hasN fl) with
   | some i => match ops[i]? with
    | some ⟨some d, op, ty, pos, aft, gd⟩ => bif Nat.blt d N && hasN (Region.ready .any ops l) i && hasN fl i then
      let run : MSt → Option A := fun st => (prep P T (hasN H.cons d) st op).bind fun st => bif st.O.all (MO.clo st.n st.env) then (opE P T (hasN H.own d) st.n st.env st.G st.O op).run fun r =>
       bif isQuiet op && r.upd.isEmpty && r.new.isEmpty && Nat.beq r.nh 0 then evA P T H N ops fl m (l.setIfInBounds i true) ((i, readO st.G op) :: pend) ⟨r.n' st.n, r.env' st.n st.env, (d, r.val) :: st.G, r.O' st.O⟩ k else none else none
      let skip : MSt → Option A := fun st => evA P T H N ops fl m (l.setIfInBounds i true) ((i, []) :: pend) ⟨st.n, st.env, (d, .undef) :: st.G, st.O⟩ k
      match gd with
      | none => run st
      | some (g, b) => match (ops[g]?).bind (·.dst) with
       | some t => bif Nat.blt t N then (match lkG st.G t with
        | some .undef => skip st
        | some (.vl false [.cb c]) => bif c == b then run st else skip st
        | some (.vl false [.vr v]) => match (rdD st.env (.vr v)).bind Dyn.bool with
         | some c => bif c then (bif b then run ⟨st.n, st.env, (t, .vl false [.cb true]) :: st.G, st.O⟩ else skip ⟨st.n, st.env, (t, .vl false [.cb true]) :: st.G, st.O⟩)
           else (bif b then skip ⟨st.n, st.env, (t, .vl false [.cb false]) :: st.G, st.O⟩ else run ⟨st.n, st.env, (t, .vl false [.cb false]) :: st.G, st.O⟩)
         | none => none
        | _ => none) else none
       | none => none
     else none
    | _ => none
   | none => match is, ops[i0]? with
    | [], some ⟨dst, op, ty, pos, aft, gd⟩ => bif dstOk N dst && !hasN fl i0 then
      let pre := predsOf ⟨dst, op, ty, pos, aft, gd⟩
      let run0 : MSt → Option A := fun st => (prep P T (hasN H.cons (dnOf dst)) st op).bind fun st => (opE P T (hasN H.own (dnOf dst)) st.n st.env st.G st.O op).run fun r =>
       bif calmE st.n st.env st.O pre (r.upd.map (·.1)) pend then evA P T H N ops fl m (l.setIfInBounds i0 true) (dropP pre pend) ⟨r.n' st.n, r.env' st.n st.env, putG dst r.val st.G, r.O' st.O⟩ k else none
      let run : MSt → Option A := fun st => bif needX st op then (bif pendX st (prepX st op) pend then run0 (prepX st op) else none) else run0 st
      let skip : MSt → Option A := fun st => bif calmE st.n st.env st.O pre [] pend then evA P T H N ops fl m (l.setIfInBounds i0 true) pend ⟨st.n, st.env, putG dst .undef st.G, st.O⟩ k else none
      match gd with
      | none => run st
      | some (g, b) => match (ops[g]?).bind (·.dst) with
       | some t => bif Nat.blt t N then (match lkG st.G t with
        | some .undef => skip st
        | some (.vl false [.cb c]) => bif c == b then run st else skip st
        | some (.vl false [.vr v]) => match (rdD st.env (.vr v)).bind Dyn.bool with
         | some c => bif c then (bif b then run ⟨st.n, st.env, (t, .vl false [.cb true]) :: st.G, st.O⟩ else skip ⟨st.n, st.env, (t, .vl false [.cb true]) :: st.G, st.O⟩)
           else (bif b then skip ⟨st.n, st.env, (t, .vl false [.cb false]) :: st.G, st.O⟩ else run ⟨st.n, st.env, (t, .vl false [.cb false]) :: st.G, st.O⟩)
         | none => none
        | _ => none) else none
       | none => none
     else none
    | _ :: _, _ => meetAll (fun i => match ops[i]? with
     | some ⟨dst, op, ty, pos, aft, none⟩ => bif dstOk N dst && !hasN fl i then
       (opE P T (hasN H.own (dnOf dst)) st.n st.env st.G st.O op).run fun r =>
        bif calmE st.n st.env st.O (predsOf ⟨dst, op, ty, pos, aft, none⟩) (r.upd.map (·.1)) pend then evA P T H N ops fl m (l.setIfInBounds i true) (dropP (predsOf ⟨dst, op, ty, pos, aft, none⟩) pend) ⟨r.n' st.n, r.env' st.n st.env, putG dst r.val st.G, r.O' st.O⟩ k else none
      else none
     | some ⟨dst, op, ty, pos, aft, some (g, b)⟩ => (match (ops[g]?).bind (·.dst) with
      | some t => bif Nat.blt t N && (bif dstOk N dst && !hasN fl i then true else false) then (match lkG st.G t with
       | some .undef => bif calmE st.n st.env st.O (predsOf ⟨dst, op, ty, pos, aft, some (g, b)⟩) [] pend then evA P T H N ops fl m (l.setIfInBounds i true) pend ⟨st.n, st.env, putG dst .undef st.G, st.O⟩ k else none
       | some (.vl false [.cb c]) => bif c == b then
         (opE P T (hasN H.own (dnOf dst)) st.n st.env st.G st.O op).run fun r =>
          bif calmE st.n st.env st.O (predsOf ⟨dst, op, ty, pos, aft, some (g, b)⟩) (r.upd.map (·.1)) pend then evA P T H N ops fl m (l.setIfInBounds i true) (dropP (predsOf ⟨dst, op, ty, pos, aft, some (g, b)⟩) pend) ⟨r.n' st.n, r.env' st.n st.env, putG dst r.val st.G, r.O' st.O⟩ k else none
         else bif calmE st.n st.env st.O (predsOf ⟨dst, op, ty, pos, aft, some (g, b)⟩) [] pend then evA P T H N ops fl m (l.setIfInBounds i true) pend ⟨st.n, st.env, putG dst .undef st.G, st.O⟩ k else none
       | _ => none) else none
      | none => none)
     | _ => none) i0 is
    | _, _ => none

theorem prepC_cb {t f : Nat} {c : Bool} {ss : List Sh} {args : List Operand} {cs : List Cap} {st st' : MSt} : ∀ {l : List Con}, prepC P f ss args cs st l = some st' → lkG st.G t = some (.vl false [.cb c]) → lkG st'.G t = some (.vl false [.cb c])
 | [], h, _ => by cases h
 | C :: r, h, hl => by
  unfold prepC at h
  split at h
  ·rename_i s1 h1
   split at h
   ·cases h; exact frzAll_cb h1 hl
   ·exact prepC_cb h hl
  ·exact prepC_cb h hl
theorem prep_cb {T : FuncId → List Con} {cons : Bool} {op : Op} {st st' : MSt} {t : Nat} {c : Bool} (h : prep P T cons st op = some st') (hl : lkG st.G t = some (.vl false [.cb c])) : lkG st'.G t = some (.vl false [.cb c]) := by
 unfold prep at h
 split at h
 ·exact frzAll_cb h hl
 ·split at h
  ·rename_i x y _ _ _ _ _
   cases hd : isDl st.env st.G x with
   | true => rw [hd] at h; cases h; exact hl
   | false => rw [hd] at h; exact frzAll_cb h hl
  ·exact frzAll_cb h hl
  ·cases h; exact hl
 ·exact frzAll_cb h hl
 ·cases cons with
  | true => cases h; exact hl
  | false => exact frzAll_cb h hl
 ·split at h
  ·exact frzAll_cb h hl
  ·cases h; exact hl
 ·split at h
  ·obtain ⟨ss, _, h⟩ := Option.bind_eq_some_iff.1 h
   exact prepC_cb h hl
  ·cases h
 ·cases h; exact hl

def Met (ops : Array Oper) (N : Nat) (G : List (Nat × Sh)) : Option (Nat × Bool) → Prop
 | none => True
 | some (g, b) => ∃ t, (ops[g]?).bind (·.dst) = some t ∧ Nat.blt t N = true ∧ lkG G t = some (.vl false [.cb b])

def flOf (H : Hints) : Nat → List Oper → List Nat
 | _, [] => []
 | i, ⟨some d, op, _, _, _, _⟩ :: r => bif isQuiet op && !hasN H.loud d then i :: flOf H (i + 1) r else flOf H (i + 1) r
 | i, ⟨none, _, _, _, _, _⟩ :: r => flOf H (i + 1) r

theorem evA_ok {T : FuncId → List Con} (hT : TabOk P T) {H : Hints} {ops : Array Oper} {fl : List Nat} (hok : okDraw ops fl = true) {K : KT A} {k : MSt → Option A} : ∀ (m : Nat) (l : Array Bool) (pend : List (Nat × List Nat)) (st : MSt) (η : Nat → Hd), WF st.n st.env →
  (∀ st' η', WF st'.n st'.env → Ext (st.cx' η) (st'.cx' η') → RefE E N .normal (k st') (gma (st'.cx' η') st'.G) (oma (st'.cx' η') st'.O) K) →
  RefA P E N (evA P T H N ops fl m l pend st k) ops fl l pend (gma (st.cx' η) st.G) (oma (st.cx' η) st.O) K
 | 0, l, pend, st, η, hw, hk => by
  unfold evA
  cases hl : allIn ops.size l with
  | false => exact pnone
  | true => exact a_fin hok hl (hk st η hw (.refl _))
 | m + 1, l, pend, st0, η, hw0, hk0 => by
  unfold evA
  split
  ·exact pnone
  ·rename_i i0 is hrs
   split
   · -- an operation that only looks
    rename_i i _
    split
    ·rename_i d op ty pos aft gd hi
     cases hb : Nat.blt d N && hasN (Region.ready .any ops l) i && hasN fl i with
     | false => exact pnone
     | true =>
      simp only [Bool.and_eq_true] at hb
      obtain ⟨⟨hd, hrd⟩, hf⟩ := hb
      simp only [cond_true]
      have hrun : ∀ (st : MSt), WF st.n st.env → (∀ st' η', WF st'.n st'.env → Ext (st.cx' η) (st'.cx' η') → RefE E N .normal (k st') (gma (st'.cx' η') st'.G) (oma (st'.cx' η') st'.O) K) → Met ops N st.G gd →
        RefA P E N ((prep P T (hasN H.cons d) st op).bind fun st => bif st.O.all (MO.clo st.n st.env) then (opE P T (hasN H.own d) st.n st.env st.G st.O op).run fun r =>
         bif isQuiet op && r.upd.isEmpty && r.new.isEmpty && Nat.beq r.nh 0 then evA P T H N ops fl m (l.setIfInBounds i true) ((i, readO st.G op) :: pend) ⟨r.n' st.n, r.env' st.n st.env, (d, r.val) :: st.G, r.O' st.O⟩ k else none else none)
         ops fl l pend (gma (st.cx' η) st.G) (oma (st.cx' η) st.O) K := by
       intro st hw hk hmet
       refine pull fun st1 h1 => ?_
       have hkp := prep_ok h1
       have hcm := prep_calm h1 η
       have hw1 : WF st1.n st1.env := by rw [hkp.1, hkp.2.1]; exact hw
       have hcx : st1.cx' η = st.cx' η := by simp only [MSt.cx', hkp.1, hkp.2.1]
       refine a_of (Γ' := gma (st1.cx' η) st1.G) (Ω' := oma (st1.cx' η) st1.O) (fun a w hs => by rw [hcx]; exact hkp.2.2 η a w hs) (fun hn => by rw [hcx]; exact (hcm hn).2) ?_
       cases hcl : st1.O.all (MO.clo st1.n st1.env) with
       | false => exact pnone
       | true =>
        simp only [cond_true]
        refine ref_ask (opE_ok (E := E) (N := N) (ty := ty) hT hw1) fun r hr => ?_
        cases hq : isQuiet op && r.upd.isEmpty && r.new.isEmpty && Nat.beq r.nh 0 with
        | false => exact pnone
        | true =>
         simp only [Bool.and_eq_true, List.isEmpty_iff] at hq
         obtain ⟨⟨⟨q1, q2⟩, q3⟩, q4⟩ := hq
         have q4 := Nat.eq_of_beq_eq_true q4
         have hrdj := hr.rd q1 q2 q3 q4 η
         have hx1 := OpOk.ext hw1 hr.src ⟨η, fun _ _ => rfl⟩
         have hO : oma (r.cx' st1.n st1.env η) (r.O' st1.O) = oma (st1.cx' η) st1.O := by
          have e : r.O' st1.O = st1.O := by simp [OpR.O', q2, q3, updO]
          rw [e]
          exact List.map_congr_left fun o ho => MO.clo_ok hx1 (List.all_eq_true.1 hcl o ho)
         have ih := evA_ok (H := H) hT hok (K := K) (k := k) m (l.setIfInBounds i true) ((i, readO st1.G op) :: pend) ⟨r.n' st1.n, r.env' st1.n st1.env, (d, r.val) :: st1.G, r.O' st1.O⟩ η (OpR.wf hw1 hr.src) fun st' η' hw' hx => hk st' η' hw' (by rw [← hcx]; exact hx1.trans hx)
         have ih2 : RefA P E N (evA P T H N ops fl m (l.setIfInBounds i true) ((i, readO st1.G op) :: pend) ⟨r.n' st1.n, r.env' st1.n st1.env, (d, r.val) :: st1.G, r.O' st1.O⟩ k) ops fl (l.setIfInBounds i true) ((i, readO st1.G op) :: pend)
           ((d, r.val.rp (r.cx' st1.n st1.env η)) :: gma (st1.cx' η) st1.G) (oma (st1.cx' η) st1.O) K := by
          have ih' := ih
          rw [show oma (MSt.cx' ⟨r.n' st1.n, r.env' st1.n st1.env, (d, r.val) :: st1.G, r.O' st1.O⟩ η) (r.O' st1.O) = oma (st1.cx' η) st1.O from hO] at ih'
          exact b_of (fun a w hs => Sat.mextΓ hx1 hs rfl) ih'
         cases gd with
         | none => exact a_rd hok hi hrd hf hrdj hd ih2
         | some gb =>
          obtain ⟨g, b⟩ := gb
          obtain ⟨t, g1, g2, g3⟩ := hmet
          have hlk : lk (gma (st1.cx' η) st1.G) t = some (bv b) := by rw [lk_gma, prep_cb h1 g3]; rfl
          exact a_rdOn hok hi g1 hlk g2 hrd hf hrdj hd ih2
      have hskip : ∀ (st : MSt), WF st.n st.env → (∀ st' η', WF st'.n st'.env → Ext (st.cx' η) (st'.cx' η') → RefE E N .normal (k st') (gma (st'.cx' η') st'.G) (oma (st'.cx' η') st'.O) K) →
        RefA P E N (evA P T H N ops fl m (l.setIfInBounds i true) ((i, []) :: pend) ⟨st.n, st.env, (d, .undef) :: st.G, st.O⟩ k) ops fl (l.setIfInBounds i true) ((i, []) :: pend) ((d, pv Go.undef) :: gma (st.cx' η) st.G) (oma (st.cx' η) st.O) K :=
       fun st hw hk => evA_ok (H := H) hT hok m (l.setIfInBounds i true) ((i, []) :: pend) ⟨st.n, st.env, (d, .undef) :: st.G, st.O⟩ η hw hk
      cases gd with
      | none => exact hrun st0 hw0 hk0 trivial
      | some gb =>
       obtain ⟨g, b⟩ := gb
       simp only
       split
       ·rename_i t hg
        cases hN : Nat.blt t N with
        | false => exact pnone
        | true =>
         simp only [cond_true]
         split
         ·rename_i hl
          have hlk : lk (gma (st0.cx' η) st0.G) t = some (pv Go.undef) := by rw [lk_gma, hl]; rfl
          exact a_offU hok hi hg hlk hrd hf hd (hskip st0 hw0 hk0)
         ·rename_i c hl
          have hlk : lk (gma (st0.cx' η) st0.G) t = some (bv c) := by rw [lk_gma, hl]; rfl
          cases hcb : (c == b) with
          | true =>
           have : c = b := by simpa using hcb
           subst this
           exact hrun st0 hw0 hk0 ⟨t, hg, hN, hl⟩
          | false => exact a_off hok hi hg hlk hN hcb hrd hf hd (hskip st0 hw0 hk0)
         ·rename_i v hl
          split
          ·rename_i c hc
           have hlk : lk (gma (st0.cx' η) st0.G) t = some (bv c) := by
            rw [lk_gma, hl]
            obtain ⟨D, h1, h2⟩ := Option.bind_eq_some_iff.1 hc
            show some ((At.vr v).rp (st0.cx' η)) = _
            rw [(rdD_rp (c := st0.cx' η) h1).1, Dyn.bool_rp h2]
           have hlk' : ∀ {Γ : List (Nat × RP)} {c : Bool}, lk ((t, bv c) :: Γ) t = some (bv c) := lk_cons_eq
           have hlG : ∀ {c : Bool}, lkG ((t, Sh.vl false [.cb c]) :: st0.G) t = some (.vl false [.cb c]) := by simp [lkG]
           refine b_split hlk (fun hct => ?_) (fun hcf => ?_)
           ·cases b with
            | true => exact hrun ⟨st0.n, st0.env, (t, .vl false [.cb true]) :: st0.G, st0.O⟩ hw0 hk0 ⟨t, hg, hN, hlG⟩
            | false => exact a_off hok hi hg hlk' hN rfl hrd hf hd (hskip ⟨st0.n, st0.env, (t, .vl false [.cb true]) :: st0.G, st0.O⟩ hw0 hk0)
           ·cases b with
            | true => exact a_off hok hi hg hlk' hN rfl hrd hf hd (hskip ⟨st0.n, st0.env, (t, .vl false [.cb false]) :: st0.G, st0.O⟩ hw0 hk0)
            | false => exact hrun ⟨st0.n, st0.env, (t, .vl false [.cb false]) :: st0.G, st0.O⟩ hw0 hk0 ⟨t, hg, hN, hlG⟩
          ·exact pnone
         ·exact pnone
       ·exact pnone
    ·exact pnone
   ·split
    ·rename_i dst op ty pos aft gd hi h_find
     cases hb : dstOk N dst && !hasN fl i0 with
     | false => exact pnone
     | true =>
      simp only [Bool.and_eq_true, Bool.not_eq_true'] at hb
      obtain ⟨hd, hf⟩ := hb
      have hd' : ∀ d, dst = some d → Nat.blt d N = true := fun d e => by subst e; exact hd
      simp only [cond_true]
      have hput : ∀ {c c' : Cx} {G : List (Nat × Sh)} {v : Sh} {Ω : List OB} {a : Act} {w : World}, Ext c c' → Sat E N (putΓ (gma c G) dst (v.rp c')) Ω a w →
        Sat E N (gma c' (putG dst v G)) Ω a w := by
       intro c c' G v Ω a w hx hs
       cases dst with
       | some d => exact Sat.mextΓ hx hs rfl
       | none => exact Sat.mextΓ0 hx hs
      have hrun0 : ∀ (st : MSt) (η : Nat → Hd), WF st.n st.env → (∀ st' η', WF st'.n st'.env → Ext (st.cx' η) (st'.cx' η') → RefE E N .normal (k st') (gma (st'.cx' η') st'.G) (oma (st'.cx' η') st'.O) K) → Met ops N st.G gd →
        RefA P E N ((prep P T (hasN H.cons (dnOf dst)) st op).bind fun st => (opE P T (hasN H.own (dnOf dst)) st.n st.env st.G st.O op).run fun r =>
         bif calmE st.n st.env st.O (predsOf ⟨dst, op, ty, pos, aft, gd⟩) (r.upd.map (·.1)) pend then evA P T H N ops fl m (l.setIfInBounds i0 true) (dropP (predsOf ⟨dst, op, ty, pos, aft, gd⟩) pend) ⟨r.n' st.n, r.env' st.n st.env, putG dst r.val st.G, r.O' st.O⟩ k else none)
         ops fl l pend (gma (st.cx' η) st.G) (oma (st.cx' η) st.O) K := by
       intro st η hw hk hmet
       refine pull fun st1 h1 => ?_
       have hkp := prep_ok h1
       have hcm := prep_calm h1 η
       have hw1 : WF st1.n st1.env := by rw [hkp.1, hkp.2.1]; exact hw
       have hcx : st1.cx' η = st.cx' η := by simp only [MSt.cx', hkp.1, hkp.2.1]
       refine a_of (Γ' := gma (st1.cx' η) st1.G) (Ω' := oma (st1.cx' η) st1.O) (fun a w hs => by rw [hcx]; exact hkp.2.2 η a w hs) (fun hn => by rw [hcx]; exact (hcm hn).2) ?_
       refine ref_ask (opE_ok (E := E) (N := N) (ty := ty) hT hw1) fun r hr => ?_
       cases hcl : calmE st1.n st1.env st1.O (predsOf ⟨dst, op, ty, pos, aft, gd⟩) (r.upd.map (·.1)) pend with
       | false => exact pnone
       | true =>
        simp only [cond_true]
        have hsafe : ∀ x : Agr st1.n η, Safe (predsOf ⟨dst, op, ty, pos, aft, gd⟩) (r.upd.map (·.1)) (oma (st1.cx' η) st1.O) (oma (r.cx' st1.n st1.env x.1) (r.O' st1.O)) pend := fun x =>
         calmE_ok (c := st1.cx' η) (OpOk.ext hw1 hr.src x) (fun j hj hlt => OpR.O'_out hj hlt) hcl
        have ih : ∀ x : Agr st1.n η, RefA P E N (evA P T H N ops fl m (l.setIfInBounds i0 true) (dropP (predsOf ⟨dst, op, ty, pos, aft, gd⟩) pend) ⟨r.n' st1.n, r.env' st1.n st1.env, putG dst r.val st1.G, r.O' st1.O⟩ k) ops fl (l.setIfInBounds i0 true) (dropP (predsOf ⟨dst, op, ty, pos, aft, gd⟩) pend)
          (putΓ (gma (st1.cx' η) st1.G) dst (r.val.rp (r.cx' st1.n st1.env x.1))) (oma (r.cx' st1.n st1.env x.1) (r.O' st1.O)) K := fun x =>
         b_of (fun a w hs => hput (OpOk.ext hw1 hr.src x) hs) (evA_ok (H := H) hT hok (K := K) (k := k) m (l.setIfInBounds i0 true) (dropP (predsOf ⟨dst, op, ty, pos, aft, gd⟩) pend) ⟨r.n' st1.n, r.env' st1.n st1.env, putG dst r.val st1.G, r.O' st1.O⟩ x.1 (OpR.wf hw1 hr.src)
          fun st' η' hw' hx => hk st' η' hw' (by rw [← hcx]; exact (OpOk.ext hw1 hr.src x).trans hx))
        cases gd with
        | none => exact a_next hok i0 [] hrs (a_stP hok hi hf (hr.st η) hd' hsafe dropP_mem ih) trivial
        | some gb =>
         obtain ⟨g, b⟩ := gb
         obtain ⟨t, g1, g2, g3⟩ := hmet
         have hlk : lk (gma (st1.cx' η) st1.G) t = some (bv b) := by rw [lk_gma, prep_cb h1 g3]; rfl
         exact a_next hok i0 [] hrs (a_stOnP hok hi g1 hlk g2 hf (hr.st η) hd' hsafe dropP_mem ih) trivial
      have hrun : ∀ (st : MSt), WF st.n st.env → (∀ st' η', WF st'.n st'.env → Ext (st.cx' η) (st'.cx' η') → RefE E N .normal (k st') (gma (st'.cx' η') st'.G) (oma (st'.cx' η') st'.O) K) → Met ops N st.G gd →
        RefA P E N (bif needX st op then (bif pendX st (prepX st op) pend then (prep P T (hasN H.cons (dnOf dst)) (prepX st op) op).bind fun st => (opE P T (hasN H.own (dnOf dst)) st.n st.env st.G st.O op).run fun r =>
         bif calmE st.n st.env st.O (predsOf ⟨dst, op, ty, pos, aft, gd⟩) (r.upd.map (·.1)) pend then evA P T H N ops fl m (l.setIfInBounds i0 true) (dropP (predsOf ⟨dst, op, ty, pos, aft, gd⟩) pend) ⟨r.n' st.n, r.env' st.n st.env, putG dst r.val st.G, r.O' st.O⟩ k else none else none)
         else (prep P T (hasN H.cons (dnOf dst)) st op).bind fun st => (opE P T (hasN H.own (dnOf dst)) st.n st.env st.G st.O op).run fun r =>
         bif calmE st.n st.env st.O (predsOf ⟨dst, op, ty, pos, aft, gd⟩) (r.upd.map (·.1)) pend then evA P T H N ops fl m (l.setIfInBounds i0 true) (dropP (predsOf ⟨dst, op, ty, pos, aft, gd⟩) pend) ⟨r.n' st.n, r.env' st.n st.env, putG dst r.val st.G, r.O' st.O⟩ k else none)
         ops fl l pend (gma (st.cx' η) st.G) (oma (st.cx' η) st.O) K := by
       intro st hw hk hmet
       cases hnx : needX st op with
       | false => exact hrun0 st η hw hk hmet
       | true =>
        simp only [cond_true]
        cases hpx : pendX st (prepX st op) pend with
        | false => exact pnone
        | true =>
         simp only [cond_true]
         obtain ⟨hw0, hgo⟩ := prepX_goes (st := st) (op := op) hw
         obtain ⟨η0, hx0, hs0⟩ := hgo η
         refine a_ofX (Γ' := gma ((prepX st op).cx' η0) (prepX st op).G) (Ω' := oma ((prepX st op).cx' η0) (prepX st op).O) (fun a w hs => hs0 a w hs) (fun p J hJ j hj => ?_) (hrun0 (prepX st op) η0 hw0 (fun st' η' hw' hx => hk st' η' hw' (hx0.trans hx)) ?_)
         ·exact keepS_ok hx0 (List.all_eq_true.1 (List.all_eq_true.1 hpx (p, J) hJ) j hj)
         ·cases gd with
          | none => trivial
          | some gb =>
           obtain ⟨g, b⟩ := gb
           obtain ⟨t, g1, g2, g3⟩ := hmet
           exact ⟨t, g1, g2, prepX_cb g3⟩
      have hskip : ∀ (st : MSt), WF st.n st.env → (∀ st' η', WF st'.n st'.env → Ext (st.cx' η) (st'.cx' η') → RefE E N .normal (k st') (gma (st'.cx' η') st'.G) (oma (st'.cx' η') st'.O) K) →
        (Safe (predsOf ⟨dst, op, ty, pos, aft, gd⟩) [] (oma (st.cx' η) st.O) (oma (st.cx' η) st.O) pend →
         RefA P E N (evA P T H N ops fl m (l.setIfInBounds i0 true) pend ⟨st.n, st.env, putG dst .undef st.G, st.O⟩ k) ops fl (l.setIfInBounds i0 true) pend (putΓ (gma (st.cx' η) st.G) dst (pv Go.undef)) (oma (st.cx' η) st.O) K →
         RefA P E N (evA P T H N ops fl m (l.setIfInBounds i0 true) pend ⟨st.n, st.env, putG dst .undef st.G, st.O⟩ k) ops fl l pend (gma (st.cx' η) st.G) (oma (st.cx' η) st.O) K) →
        RefA P E N (bif calmE st.n st.env st.O (predsOf ⟨dst, op, ty, pos, aft, gd⟩) [] pend then evA P T H N ops fl m (l.setIfInBounds i0 true) pend ⟨st.n, st.env, putG dst .undef st.G, st.O⟩ k else none) ops fl l pend (gma (st.cx' η) st.G) (oma (st.cx' η) st.O) K := by
       intro st hw hk hgo
       cases hcl : calmE st.n st.env st.O (predsOf ⟨dst, op, ty, pos, aft, gd⟩) [] pend with
       | false => exact pnone
       | true =>
        simp only [cond_true]
        refine hgo (calmE_ok (c := st.cx' η) (.refl _) (fun _ _ _ => rfl) hcl) ?_
        exact b_of (fun a w hs => hput (v := .undef) (.refl _) hs) (evA_ok (H := H) hT hok (K := K) (k := k) m (l.setIfInBounds i0 true) pend ⟨st.n, st.env, putG dst .undef st.G, st.O⟩ η hw hk)
      cases gd with
      | none => exact hrun st0 hw0 hk0 trivial
      | some gb =>
       obtain ⟨g, b⟩ := gb
       simp only
       split
       ·rename_i t hg
        cases hN : Nat.blt t N with
        | false => exact pnone
        | true =>
         simp only [cond_true]
         have off : ∀ (st : MSt) {c : Bool}, lk (gma (st.cx' η) st.G) t = some (bv c) → (c == b) = false → WF st.n st.env → (∀ st' η', WF st'.n st'.env → Ext (st.cx' η) (st'.cx' η') → RefE E N .normal (k st') (gma (st'.cx' η') st'.G) (oma (st'.cx' η') st'.O) K) → _ :=
          fun st c hlk hcb hw hk => hskip st hw hk fun hs h => a_next hok i0 [] hrs (a_stOff hok hi hg hlk hN hcb hf hd' hs h) trivial
         split
         ·rename_i hl
          have hlk : lk (gma (st0.cx' η) st0.G) t = some (pv Go.undef) := by rw [lk_gma, hl]; rfl
          exact hskip st0 hw0 hk0 fun hs h => a_next hok i0 [] hrs (a_stOffU hok hi hg hlk hf hd' hs h) trivial
         ·rename_i c hl
          have hlk : lk (gma (st0.cx' η) st0.G) t = some (bv c) := by rw [lk_gma, hl]; rfl
          cases hcb : (c == b) with
          | true =>
           have : c = b := by simpa using hcb
           subst this
           exact hrun st0 hw0 hk0 ⟨t, hg, hN, hl⟩
          | false => exact off st0 hlk hcb hw0 hk0
         ·rename_i v hl
          split
          ·rename_i c hc
           have hlk : lk (gma (st0.cx' η) st0.G) t = some (bv c) := by
            rw [lk_gma, hl]
            obtain ⟨D, h1, h2⟩ := Option.bind_eq_some_iff.1 hc
            show some ((At.vr v).rp (st0.cx' η)) = _
            rw [(rdD_rp (c := st0.cx' η) h1).1, Dyn.bool_rp h2]
           have hlk' : ∀ {Γ : List (Nat × RP)} {c : Bool}, lk ((t, bv c) :: Γ) t = some (bv c) := lk_cons_eq
           have hlG : ∀ {c : Bool}, lkG ((t, Sh.vl false [.cb c]) :: st0.G) t = some (.vl false [.cb c]) := by simp [lkG]
           refine b_split hlk (fun hct => ?_) (fun hcf => ?_)
           ·cases b with
            | true => exact hrun ⟨st0.n, st0.env, (t, .vl false [.cb true]) :: st0.G, st0.O⟩ hw0 hk0 ⟨t, hg, hN, hlG⟩
            | false => exact off ⟨st0.n, st0.env, (t, .vl false [.cb true]) :: st0.G, st0.O⟩ (c := true) hlk' rfl hw0 hk0
           ·cases b with
            | true => exact off ⟨st0.n, st0.env, (t, .vl false [.cb false]) :: st0.G, st0.O⟩ (c := false) hlk' rfl hw0 hk0
            | false => exact hrun ⟨st0.n, st0.env, (t, .vl false [.cb false]) :: st0.G, st0.O⟩ hw0 hk0 ⟨t, hg, hN, hlG⟩
          ·exact pnone
         ·exact pnone
       ·exact pnone
    ·rename_i i1 is1 _ _
     have each : ∀ i : Nat, Loud P E N (match ops[i]? with
       | some ⟨dst, op, ty, pos, aft, none⟩ => bif dstOk N dst && !hasN fl i then
         (opE P T (hasN H.own (dnOf dst)) st0.n st0.env st0.G st0.O op).run fun r =>
          bif calmE st0.n st0.env st0.O (predsOf ⟨dst, op, ty, pos, aft, none⟩) (r.upd.map (·.1)) pend then evA P T H N ops fl m (l.setIfInBounds i true) (dropP (predsOf ⟨dst, op, ty, pos, aft, none⟩) pend) ⟨r.n' st0.n, r.env' st0.n st0.env, putG dst r.val st0.G, r.O' st0.O⟩ k else none
        else none
       | some ⟨dst, op, ty, pos, aft, some (g, b)⟩ => (match (ops[g]?).bind (·.dst) with
        | some t => bif Nat.blt t N && (bif dstOk N dst && !hasN fl i then true else false) then (match lkG st0.G t with
         | some .undef => bif calmE st0.n st0.env st0.O (predsOf ⟨dst, op, ty, pos, aft, some (g, b)⟩) [] pend then evA P T H N ops fl m (l.setIfInBounds i true) pend ⟨st0.n, st0.env, putG dst .undef st0.G, st0.O⟩ k else none
         | some (.vl false [.cb c]) => bif c == b then
           (opE P T (hasN H.own (dnOf dst)) st0.n st0.env st0.G st0.O op).run fun r =>
            bif calmE st0.n st0.env st0.O (predsOf ⟨dst, op, ty, pos, aft, some (g, b)⟩) (r.upd.map (·.1)) pend then evA P T H N ops fl m (l.setIfInBounds i true) (dropP (predsOf ⟨dst, op, ty, pos, aft, some (g, b)⟩) pend) ⟨r.n' st0.n, r.env' st0.n st0.env, putG dst r.val st0.G, r.O' st0.O⟩ k else none
           else bif calmE st0.n st0.env st0.O (predsOf ⟨dst, op, ty, pos, aft, some (g, b)⟩) [] pend then evA P T H N ops fl m (l.setIfInBounds i true) pend ⟨st0.n, st0.env, putG dst .undef st0.G, st0.O⟩ k else none
         | _ => none) else none
        | none => none)
       | _ => none) ops fl l pend (gma (st0.cx' η) st0.G) (oma (st0.cx' η) st0.O) K i := by
      intro i
      split
      ·rename_i dst op ty pos aft hi
       cases hb : dstOk N dst && !hasN fl i with
       | false => exact pnone
       | true =>
        simp only [Bool.and_eq_true, Bool.not_eq_true'] at hb
        obtain ⟨hd, hf⟩ := hb
        have hd' : ∀ d, dst = some d → Nat.blt d N = true := fun d e => by subst e; exact hd
        simp only [cond_true]
        refine ref_ask (opE_ok (E := E) (N := N) (ty := ty) hT hw0) fun r hr => ?_
        cases hcl : calmE st0.n st0.env st0.O (predsOf ⟨dst, op, ty, pos, aft, none⟩) (r.upd.map (·.1)) pend with
        | false => exact pnone
        | true =>
         simp only [cond_true]
         have hsafe : ∀ x : Agr st0.n η, Safe (predsOf ⟨dst, op, ty, pos, aft, none⟩) (r.upd.map (·.1)) (oma (st0.cx' η) st0.O) (oma (r.cx' st0.n st0.env x.1) (r.O' st0.O)) pend := fun x =>
          calmE_ok (c := st0.cx' η) (OpOk.ext hw0 hr.src x) (fun j hj hlt => OpR.O'_out hj hlt) hcl
         have hput : ∀ {c c' : Cx} {G : List (Nat × Sh)} {v : Sh} {Ω : List OB} {a : Act} {w : World}, Ext c c' → Sat E N (putΓ (gma c G) dst (v.rp c')) Ω a w → Sat E N (gma c' (putG dst v G)) Ω a w := by
          intro c c' G v Ω a w hx hs
          cases dst with
          | some d => exact Sat.mextΓ hx hs rfl
          | none => exact Sat.mextΓ0 hx hs
         have ih : ∀ x : Agr st0.n η, RefA P E N (evA P T H N ops fl m (l.setIfInBounds i true) (dropP (predsOf ⟨dst, op, ty, pos, aft, none⟩) pend) ⟨r.n' st0.n, r.env' st0.n st0.env, putG dst r.val st0.G, r.O' st0.O⟩ k) ops fl (l.setIfInBounds i true) (dropP (predsOf ⟨dst, op, ty, pos, aft, none⟩) pend)
           (putΓ (gma (st0.cx' η) st0.G) dst (r.val.rp (r.cx' st0.n st0.env x.1))) (oma (r.cx' st0.n st0.env x.1) (r.O' st0.O)) K := fun x =>
          b_of (fun a w hs => hput (OpOk.ext hw0 hr.src x) hs) (evA_ok (H := H) hT hok (K := K) (k := k) m (l.setIfInBounds i true) (dropP (predsOf ⟨dst, op, ty, pos, aft, none⟩) pend) ⟨r.n' st0.n, r.env' st0.n st0.env, putG dst r.val st0.G, r.O' st0.O⟩ x.1 (OpR.wf hw0 hr.src)
           fun st' η' hw' hx => hk0 st' η' hw' ((OpOk.ext hw0 hr.src x).trans hx))
         exact a_stP hok hi hf (hr.st η) hd' hsafe dropP_mem ih
      ·rename_i dst op ty pos aft g b hi
       split
       ·rename_i t hg
        cases hN2 : Nat.blt t N && (bif dstOk N dst && !hasN fl i then true else false) with
        | false => exact pnone
        | true =>
         simp only [Bool.and_eq_true] at hN2
         obtain ⟨hN, hN3⟩ := hN2
         simp only [cond_true]
         have hbb : dstOk N dst = true ∧ hasN fl i = false := by
          cases hb : dstOk N dst && !hasN fl i with
          | false => rw [hb] at hN3; cases hN3
          | true => simpa using hb
         have hdd : ∀ d, dst = some d → Nat.blt d N = true := fun d e => by subst e; exact hbb.1
         have hput0 : ∀ {c : Cx} {G : List (Nat × Sh)} {Ω : List OB} {a : Act} {w : World}, Sat E N (putΓ (gma c G) dst (pv Go.undef)) Ω a w → Sat E N (gma c (putG dst .undef G)) Ω a w := by
          intro c G Ω a w hs
          cases dst with
          | some d => exact Sat.mextΓ (.refl _) hs rfl
          | none => exact Sat.mextΓ0 (.refl _) hs
         have hsk : RefA P E N (evA P T H N ops fl m (l.setIfInBounds i true) pend ⟨st0.n, st0.env, putG dst .undef st0.G, st0.O⟩ k) ops fl (l.setIfInBounds i true) pend (putΓ (gma (st0.cx' η) st0.G) dst (pv Go.undef)) (oma (st0.cx' η) st0.O) K :=
          b_of (fun a w hs => hput0 hs) (evA_ok (H := H) hT hok (K := K) (k := k) m (l.setIfInBounds i true) pend ⟨st0.n, st0.env, putG dst .undef st0.G, st0.O⟩ η hw0 hk0)
         split
         ·rename_i hl
          have hlk : lk (gma (st0.cx' η) st0.G) t = some (pv Go.undef) := by rw [lk_gma, hl]; rfl
          cases hcl : calmE st0.n st0.env st0.O (predsOf ⟨dst, op, ty, pos, aft, some (g, b)⟩) [] pend with
          | false => exact pnone
          | true => exact a_stOffU hok hi hg hlk hbb.2 hdd (calmE_ok (c := st0.cx' η) (.refl _) (fun _ _ _ => rfl) hcl) hsk
         ·rename_i c hl
          cases hcb : (c == b) with
          | false =>
           have hlk : lk (gma (st0.cx' η) st0.G) t = some (bv c) := by rw [lk_gma, hl]; rfl
           simp only [cond_false]
           cases hcl : calmE st0.n st0.env st0.O (predsOf ⟨dst, op, ty, pos, aft, some (g, b)⟩) [] pend with
           | false => exact pnone
           | true => exact a_stOff hok hi hg hlk hN hcb hbb.2 hdd (calmE_ok (c := st0.cx' η) (.refl _) (fun _ _ _ => rfl) hcl) hsk
          | true =>
          have hcb' : c = b := by simpa using hcb
          subst hcb'
          have hlk : lk (gma (st0.cx' η) st0.G) t = some (bv c) := by rw [lk_gma, hl]; rfl
          simp only [cond_true]
          cases hb : dstOk N dst && !hasN fl i with
          | false => rw [hb] at hN3; cases hN3
          | true =>
           simp only [Bool.and_eq_true, Bool.not_eq_true'] at hb
           obtain ⟨hd, hf⟩ := hb
           have hd' : ∀ d, dst = some d → Nat.blt d N = true := fun d e => by subst e; exact hd
           refine ref_ask (opE_ok (E := E) (N := N) (ty := ty) hT hw0) fun r hr => ?_
           cases hcl : calmE st0.n st0.env st0.O (predsOf ⟨dst, op, ty, pos, aft, some (g, c)⟩) (r.upd.map (·.1)) pend with
           | false => exact pnone
           | true =>
            simp only [cond_true]
            have hsafe : ∀ x : Agr st0.n η, Safe (predsOf ⟨dst, op, ty, pos, aft, some (g, c)⟩) (r.upd.map (·.1)) (oma (st0.cx' η) st0.O) (oma (r.cx' st0.n st0.env x.1) (r.O' st0.O)) pend := fun x =>
             calmE_ok (c := st0.cx' η) (OpOk.ext hw0 hr.src x) (fun j hj hlt => OpR.O'_out hj hlt) hcl
            have hput : ∀ {c c' : Cx} {G : List (Nat × Sh)} {v : Sh} {Ω : List OB} {a : Act} {w : World}, Ext c c' → Sat E N (putΓ (gma c G) dst (v.rp c')) Ω a w → Sat E N (gma c' (putG dst v G)) Ω a w := by
             intro c c' G v Ω a w hx hs
             cases dst with
             | some d => exact Sat.mextΓ hx hs rfl
             | none => exact Sat.mextΓ0 hx hs
            have ih : ∀ x : Agr st0.n η, RefA P E N (evA P T H N ops fl m (l.setIfInBounds i true) (dropP (predsOf ⟨dst, op, ty, pos, aft, some (g, c)⟩) pend) ⟨r.n' st0.n, r.env' st0.n st0.env, putG dst r.val st0.G, r.O' st0.O⟩ k) ops fl (l.setIfInBounds i true) (dropP (predsOf ⟨dst, op, ty, pos, aft, some (g, c)⟩) pend)
              (putΓ (gma (st0.cx' η) st0.G) dst (r.val.rp (r.cx' st0.n st0.env x.1))) (oma (r.cx' st0.n st0.env x.1) (r.O' st0.O)) K := fun x =>
             b_of (fun a w hs => hput (OpOk.ext hw0 hr.src x) hs) (evA_ok (H := H) hT hok (K := K) (k := k) m (l.setIfInBounds i true) (dropP (predsOf ⟨dst, op, ty, pos, aft, some (g, c)⟩) pend) ⟨r.n' st0.n, r.env' st0.n st0.env, putG dst r.val st0.G, r.O' st0.O⟩ x.1 (OpR.wf hw0 hr.src)
              fun st' η' hw' hx => hk0 st' η' hw' ((OpOk.ext hw0 hr.src x).trans hx))
            exact a_stOnP hok hi hg hlk hN hf (hr.st η) hd' hsafe dropP_mem ih
         ·exact pnone
       ·exact pnone
      ·exact pnone
     refine a_all hok hrs (by simp) fun j hj => ?_
     intro r hr
     obtain ⟨h1, h2⟩ := meetAll_at hr
     rcases List.mem_cons.1 hj with e | e
     ·rw [e]; exact each i0 r h1
     ·exact each j r (h2 j e)
    ·exact pnone
end Go.Dc
