/- Part M.Frz of a proof: lemmas. -/
import Derived.Test.YtpnhpildieghpaaGreatDoorMMem4
import Derived.Test.YtpnhpildieghpaaGreatDoorMAsk
set_option linter.unusedSectionVars false
set_option linter.unusedVariables false
set_option linter.unusedSimpArgs false
/-! Slices: literals, make, parts, len, append. -/
namespace Go.Dc
variable [DrawMode] {R : Type} {P : Program} [PTab P] {E : Env} {N : Nat} {K : KT R} {m : Option R} {op : Op} {ty : TypeId} {n : Nat} {env : List (Nat × Ent)} {G : List (Nat × Sh)} {O : List MO}

def isEnum : Nat → List (Nat × Operand) → Bool
  | _, [] => true
  | k, (i, _) :: r => Nat.beq i k && isEnum (k + 1) r
theorem isEnum_ok : ∀ {k : Nat} {l : List (Nat × Operand)}, isEnum k l = true → l = enumP k (l.map (·.2))
  | _, [], _ => rfl
  | k, (i, x) :: r, h => by
    simp only [isEnum, Bool.and_eq_true] at h
    obtain rfl := Nat.eq_of_beq_eq_true h.1
    simp only [List.map_cons, enumP]
    rw [← isEnum_ok h.2]
def opTs (P : Program) [PTab P] (env : List (Nat × Ent)) (G : List (Nat × Sh)) (c : Ty) : List Operand → Option (List c.den)
  | [] => some []
  | x :: xs => (opT P env G c x).bind fun d => (opTs P env G c xs).map (d :: ·)
theorem opTs_ok {η : Nat → Hd} {Ω : List OB} {c : Ty} : ∀ {xs : List Operand} {ds : List c.den}, opTs P env G c xs = some ds → AllPart E N (gma ⟨n, env, η⟩ G) Ω c.rep xs ds
  | [], _, h => by cases h; trivial
  | x :: xs, ds, h => by
    simp only [opTs] at h
    obtain ⟨d, h1, h2⟩ := Option.bind_eq_some_iff.1 h
    obtain ⟨ds', h3, rfl⟩ := Option.map_eq_some_iff.1 h2
    exact ⟨opT_part h1, opTs_ok h3⟩

def bsliceE (P : Program) [PTab P] (n : Nat) (env : List (Nat × Ent)) (G : List (Nat × Sh)) (O : List MO) (own : Bool) (t : TypeId) (k : Nat) (ps : List (Nat × Operand)) : Ask OpR := match P.underlying t with
  | some (.slice e) => Ask.of (elT P e) fun c => Ask.when (isEnum 0 ps) (Ask.of (opTs P env G c.1 (ps.map (·.2))) fun ds =>
      Ask.when (Nat.beq k ds.length && Nat.ble (ds.length * c.1.rep.size) 16777216)
        (bif own then .ret ⟨.vl false [.own O.length (n + 1)], [⟨.sl c.1, ds, none⟩], 1, [], [.oa (n + 1) n]⟩ else .ret (resD n (.sl c.1) ds)))
  | _ => .fail
theorem bsliceE_ok (hw : WF n env) {own : Bool} {t : TypeId} {k : Nat} {ps : List (Nat × Operand)} : AskOk (OpOk P E N (.buildSlice t k ps.toArray) ty n env G O) (bsliceE P n env G O own t k ps) := by
  unfold bsliceE
  split
  · rename_i e hu
    refine AskOk.of fun c hc => AskOk.when fun hen => AskOk.of fun ds hds => AskOk.when fun hb => ?_
    simp only [Bool.and_eq_true] at hb
    have h1 := Nat.eq_of_beq_eq_true hb.1
    have h2 := Nat.le_of_ble_eq_true hb.2
    rw [isEnum_ok hen]
    cases own with
    | true => exact OpOk.newA hw fun η => (s_bsliceO hu (elT_ok hc) h1 h2 (opTs_ok hds))
    | false => exact OpOk.newD hw rfl (t := .sl c.1) rfl fun η => (s_bslice hu (elT_ok hc) h1 h2 (opTs_ok hds))
  · trivial

def sameAt : At → At → Bool
  | .vr i, .vr j => Nat.beq i j
  | .ci k a, .ci k' b => decide (k = k') && decide (a = b)
  | _, _ => false
theorem sameAt_ok {a b : At} (h : sameAt a b = true) : a = b := by
  unfold sameAt at h
  split at h
  · rw [Nat.eq_of_beq_eq_true h]
  · simp only [Bool.and_eq_true, decide_eq_true_eq] at h; rw [h.1, h.2]
  · cases h

def makeE (P : Program) [PTab P] (n : Nat) (env : List (Nat × Ent)) (G : List (Nat × Sh)) (O : List MO) (t : TypeId) (x y : Operand) : Ask OpR := match P.underlying t with
  | some (.slice e) => Ask.of (elT P e) fun c => Ask.of (opA G x) fun a => Ask.of (opA G y) fun b => Ask.when (sameAt a b) (Ask.of (opI env G x) fun l =>
      Ask.of ((zeroT P e).bind (celD P env c.1)) fun z => .bind (mkM c.2 z l.2) fun d => .ret ⟨.vl false [.own O.length (n + 1)], [⟨.sl c.1, d, none⟩], 1, [], [.oa (n + 1) n]⟩)
  | _ => .fail
theorem zeroD_ok {e : TypeId} {c : Ty} {z : c.den} (h : (zeroT P e).bind (celD P env c) = some z) : ZeroT P e c.rep z := by
  obtain ⟨l, h1, h2⟩ := Option.bind_eq_some_iff.1 h
  obtain ⟨i, zv, hi, hz, hall⟩ := zeroT_ok h1
  exact ⟨i, zv, hi, hz, fun F w => (celD_imp (c := ⟨0, env, fun _ => ⟨.bool true, [], 0, rfl⟩⟩) h2).all (hall _ F w)⟩
theorem makeE_ok (hw : WF n env) {t : TypeId} {x y : Operand} : AskOk (OpOk P E N (.makeSlice t x y) ty n env G O) (makeE P n env G O t x y) := by
  unfold makeE
  split
  · rename_i e hu
    refine AskOk.of fun c hc => AskOk.of fun a ha => AskOk.of fun b hb => AskOk.when fun hab => AskOk.of fun l hl => AskOk.of fun z hz => fun d hd => ?_
    have hs := sameAt_ok hab
    subst hs
    have hy : ∀ η, lkO (gma ⟨n, env, η⟩ G) y = some (iv l.1 l.2) := fun η => by rw [opA_rp hb, ← opA_rp (c := ⟨n, env, η⟩) ha]; exact opI_rp hl
    exact OpOk.newA hw fun η => (s_make hd hu (elT_ok hc) (zeroD_ok hz) (opI_rp hl) (hy η))
  · trivial

/-! ### parts -/
def bdE (env : List (Nat × Ent)) (G : List (Nat × Sh)) (d : Int) : Option Operand → Option Int
  | none => some d
  | some x => (opI env G x).map (·.2)
theorem bdE_ok {η : Nat → Hd} {d i : Int} {x : Option Operand} (h : bdE env G d x = some i) : BdOk (gma ⟨n, env, η⟩ G) d x i := by
  cases x with
  | none => cases h; exact .dft
  | some x =>
    simp only [bdE] at h
    obtain ⟨p, h1, rfl⟩ := Option.map_eq_some_iff.1 h
    exact .of (opI_rp h1)

/-- the length of a slice of an array, from its beginning -/
def vsM (len : Nat) (h : Int) : Option Int := if 0 ≤ h ∧ h ≤ (len : Int) then some h else none
theorem r_aslice {t e : TypeId} {x y : Operand} {Γ : List (Nat × RP)} {Ω : List OB} {b off len sz : Nat} {k : IntKind} {h l : Int} (hl : vsM len h = some l) (h0 : 0 < len) (hu : P.underlying t = some (.array len e)) (hs : ∀ w, (Go.sizeOf e).run P w = .ok sz w)
    (hx : lkO Γ x = some (pv (Dc.ptr b off))) (hy : lkO Γ y = some (iv k h)) : Rd P E N (.slice t x none (some y) none) ty Γ Ω [] (pv (.slice (some ⟨b, off, none⟩) l.toNat len)) := .mk fun a w hs' => by
  have h1 : a.eval x = Dc.ptr b off := hs'.op hx
  have h2 : a.eval y = .int k h := hs'.op hy
  unfold vsM at hl
  split at hl
  · rename_i hr
    cases hl
    refine ⟨_, rfl, fun w' o ho _ => ?_⟩
    simp [execOp, ho, h1, h2, Instr.sliceAt, run_underlying hu, Instr.sureAddr, Dc.ptr, Instr.sliceBounds, Instr.sliceBound, asIntOf, hr.1, hr.2, hs, Addr.add]
  · cases hl

def sliceE (P : Program) [PTab P] (own : Bool) (n : Nat) (env : List (Nat × Ent)) (G : List (Nat × Sh)) (O : List MO) (t : TypeId) (x : Operand) (lo hi : Option Operand) : Ask OpR :=
  Ask.of (bdE env G 0 lo) fun l => match P.underlying t with
  | some .string => Ask.of (opS env G x) fun s => Ask.of (bdE env G s.size hi) fun h => .bind (ssubM s l h) fun r => .ret (resD n .str r)
  | some (.slice e) => Ask.of (elT P e) fun c => Ask.of (opA G x) fun a => match a with
    | .own o h => Ask.of (ownA n env O o h) fun q => if c.1 = q.2.1 then Ask.of (bdE env G q.2.2.length hi) fun m => .bind (slM q.2.2 l m) fun d =>
        bif own then .ret ⟨.vl false [.sb o h n (n + 1) q.2.1.rep.size], [⟨.int .i64, l, none⟩, ⟨.int .i64, m, none⟩], 0, [], []⟩ else .ret ⟨.vl false [.own o (n + 1)], [⟨.sl q.2.1, d, none⟩], 1, [(o, .oa (n + 1) n)], []⟩ else .fail
    | .nl => match lo, hi with
      | none, some y => Ask.of (opI env G y) fun p => if p.2 = 0 ∧ opLit G y = true then .ret (resS (.vl false [.nl])) else .fail
      | _, _ => .fail
    | _ => Ask.of (opL env G x) fun q => if c.1 = q.1 then Ask.of (bdE env G q.2.length hi) fun m => .bind (slM q.2 l m) fun d => .ret (resD n (.sl q.1) d) else .fail
  | some (.array len e) => Ask.of (sizeT P e) fun sz => Ask.of (opA G x) fun a => match a, lo, hi with
    | .ptr o h off, none, some y => Ask.when (Nat.blt h n && Nat.blt 0 len) (Ask.of (opI env G y) fun p => .bind (vsM len p.2) fun l => .ret ⟨.vl false [.vs o h off n len], [⟨.int .i64, l, none⟩], 0, [], []⟩)
    | _, _, _ => .fail
  | _ => .fail
theorem sliceE_ok (hw : WF n env) {own : Bool} {t : TypeId} {x : Operand} {lo hi : Option Operand} : AskOk (OpOk P E N (.slice t x lo hi none) ty n env G O) (sliceE P own n env G O t x lo hi) :=
  AskOk.of fun l hl => by
    split
    · rename_i hu
      exact AskOk.of fun s hs => AskOk.of fun h hh => fun r hr => OpOk.dat hw rfl fun η => (r_ssub hr hu (opS_rp hs) (bdE_ok hl) (bdE_ok hh))
    · rename_i e hu
      refine AskOk.of fun c hc => AskOk.of fun a ha => ?_
      have hx := fun η => opA_rp (c := ⟨n, env, η⟩) ha
      split
      · rename_i o h
        refine AskOk.of fun q hq => ?_
        split
        · rename_i hct
          refine AskOk.of fun m hm => fun d hd => ?_
          obtain ⟨i0, t', l'⟩ := q
          obtain ⟨c1, c2⟩ := c
          simp only at hct
          subst hct
          obtain ⟨hb, hlt, ⟨s, he⟩, hj⟩ := ownA_ok hq
          cases own with
          | true =>
            refine OpOk.rd' hw (fun e' he' => by
              rcases List.mem_cons.1 he' with rfl | he'
              · exact .none rfl
              · rw [List.mem_singleton.1 he']; exact .none rfl) fun η => ?_
            have h1 := hx η
            rw [own_rp (c := ⟨n, env, η⟩) hb] at h1
            have h2 := r_osub (E := E) (N := N) (Ω := oma ⟨n, env, η⟩ O) (ty := ty) hd hu (elT_ok hc) h1 (hj η) (bdE_ok (η := η) hl) (bdE_ok (η := η) hm)
            have e0 : lkE (keyed n [(⟨.int .i64, l, none⟩ : Ent), ⟨.int .i64, m, none⟩] env) n = some ⟨.int .i64, l, none⟩ := by simp only [keyed, lkE_cons, if_true]; rw [if_neg (by omega)]
            have e1 : lkE (keyed n [(⟨.int .i64, l, none⟩ : Ent), ⟨.int .i64, m, none⟩] env) (n + 1) = some ⟨.int .i64, m, none⟩ := by simp only [keyed, lkE_cons, if_true]
            simp only [Sh.rp, vrp, cond_false, List.map_cons, List.headD_cons, At.rp, e0, e1]
            rw [blt_mono hb (show n ≤ n + [(⟨.int .i64, l, none⟩ : Ent), ⟨.int .i64, m, none⟩].length from by omega)]
            exact h2
          | false =>
          refine OpOk.chgA hw (fun η => (s_oslice hd hu (elT_ok hc) ?_ (hj η) (bdE_ok hl) (bdE_ok hm))) hlt
          have h1 := hx η
          rw [own_rp (c := ⟨n, env, η⟩) hb] at h1
          exact h1
        · trivial
      · split
        · rename_i y
          refine AskOk.of fun p hp => ?_
          split
          · rename_i hp0
            refine OpOk.same hw fun η => (r_sliceN (k := p.1) hu (elT_ok hc) (hx η) ?_)
            rw [opI_rp (k := p.1) (i := p.2) hp, hp0.1]
          · trivial
        · trivial
      · refine AskOk.of fun q hq => ?_
        split
        · rename_i hct
          refine AskOk.of fun m hm => fun d hd => ?_
          obtain ⟨t', l'⟩ := q
          obtain ⟨c1, c2⟩ := c
          simp only at hct
          subst hct
          exact OpOk.dat hw (t := .sl c1) rfl fun η => (r_slice hd hu (elT_ok hc) (opL_rp hq) (bdE_ok hl) (bdE_ok hm))
        · trivial
    · rename_i len e hu
      refine AskOk.of fun sz hsz => AskOk.of fun a ha => ?_
      have hx := fun η => opA_rp (c := ⟨n, env, η⟩) ha
      split
      · rename_i o h off y
        refine AskOk.when fun hb => AskOk.of fun p hp => fun d hd => ?_
        simp only [Bool.and_eq_true] at hb
        obtain ⟨hb, h0⟩ := hb
        refine OpOk.rd' hw (fun e' he' => by rw [List.mem_singleton.1 he']; exact .none rfl) fun η => ?_
        have h1 := hx η
        rw [ptr_rp (c := ⟨n, env, η⟩) hb] at h1
        have h2 := r_aslice (E := E) (N := N) (Ω := oma ⟨n, env, η⟩ O) (ty := ty) (k := p.1) hd (by simpa [Nat.blt_eq] using h0) hu (sizeT_ok hsz) h1 (opI_rp (η := η) hp)
        simp only [Sh.rp, vrp, cond_false, List.map_cons, List.headD_cons, At.rp, keyed, lkE_cons, if_true]
        rw [blt_mono hb (show n ≤ n + [(⟨.int .i64, d, none⟩ : Ent)].length from by omega)]
        exact h2
      · trivial
    · trivial

/-! ### built-in functions -/
theorem r_vslen {t e : TypeId} {x : Operand} {Γ : List (Nat × RP)} {Ω : List OB} {ad : Option Addr} {l c : Nat} (hu : P.underlying t = some (.slice e)) (hx : lkO Γ x = some (pv (.slice ad l c))) : Rd P E N (.call ⟨.builtin .len, #[x], #[t]⟩) ty Γ Ω [] (iv .i64 (l : Int)) := .mk fun a w hs => by
  have hv : a.eval x = .slice ad l c := hs.op hx
  exact ⟨.int .i64 l, rfl, fun w' o ho _ => by simp [execOp, ho, resolve, invoke, builtin, Builtin.len_, hv, run_underlying hu, goInt]⟩
def lenE (P : Program) [PTab P] (n : Nat) (env : List (Nat × Ent)) (G : List (Nat × Sh)) (O : List MO) (t : TypeId) (x : Operand) : Ask OpR := match P.underlying t with
  | some .string => Ask.of (opS env G x) fun s => .ret (resD n (.int .i64) (s.size : Int))
  | some (.slice e) => Ask.of (opA G x) fun a => match a with
    | .nl => .ret (resS (.vl false [.ci .i64 0]))
    | .own o h => Ask.of (ownA n env O o h) fun q => .ret (resD n (.int .i64) (q.2.2.length : Int))
    | .vs o h off i cp => Ask.of ((lkE env i).bind entI) fun l => Ask.when (Nat.blt h n) (.ret (resD n (.int .i64) (l.toNat : Int)))
    | _ => Ask.of (opL env G x) fun q => .ret (resD n (.int .i64) (q.2.length : Int))
  | _ => .fail
theorem lenE_ok (hw : WF n env) {t : TypeId} {x : Operand} : AskOk (OpOk P E N (.call ⟨.builtin .len, #[x], #[t]⟩) ty n env G O) (lenE P n env G O t x) := by
  unfold lenE
  split
  · rename_i hu
    exact AskOk.of fun s hs => OpOk.dat hw rfl fun η => (r_slen hu (opS_rp hs))
  · rename_i e hu
    refine AskOk.of fun a ha => ?_
    have hx := fun η => opA_rp (c := ⟨n, env, η⟩) ha
    split
    · exact OpOk.same hw fun η => (r_lenN hu (hx η))
    · rename_i o h
      refine AskOk.of fun q hq => ?_
      obtain ⟨i0, t', l'⟩ := q
      obtain ⟨hb, hlt, ⟨s, he⟩, hj⟩ := ownA_ok hq
      refine OpOk.dat hw rfl fun η => (r_olen hu ?_ (hj η))
      have h1 := hx η
      rw [own_rp (c := ⟨n, env, η⟩) hb] at h1
      exact h1
    · rename_i o h off i cp
      refine AskOk.of fun l hl => AskOk.when fun hb => OpOk.dat hw rfl fun η => ?_
      obtain ⟨ej, hej, hl⟩ := Option.bind_eq_some_iff.1 hl
      obtain ⟨sj, rfl⟩ := entI_eq hl
      have h1 := hx η
      simp only [At.rp, hej, hb, cond_true] at h1
      exact r_vslen hu h1
    · exact AskOk.of fun q hq => OpOk.dat hw rfl fun η => (r_len hu (opL_rp hq))
  · trivial

def minE (n : Nat) (env : List (Nat × Ent)) (G : List (Nat × Sh)) (mx : Bool) (x y : Operand) : Ask OpR :=
  Ask.of (opI env G x) fun u => Ask.of (opI env G y) fun v => if v.1 = u.1 then .ret (resD n (.int u.1) (bif mx then imax u.2 v.2 else imin u.2 v.2)) else .fail
theorem minE_ok (hw : WF n env) {x y : Operand} {t1 t2 : TypeId} : AskOk (OpOk P E N (.call ⟨.builtin .min, #[x, y], #[t1, t2]⟩) ty n env G O) (minE n env G false x y) :=
  AskOk.of fun u hu => AskOk.of fun v hv => by
    split
    · rename_i h
      obtain ⟨k, i⟩ := u; obtain ⟨k', j⟩ := v
      simp only at h; subst h
      exact OpOk.dat hw rfl fun η => (r_min (opI_rp hu) (opI_rp hv))
    · trivial
theorem maxE_ok (hw : WF n env) {x y : Operand} {t1 t2 : TypeId} : AskOk (OpOk P E N (.call ⟨.builtin .max, #[x, y], #[t1, t2]⟩) ty n env G O) (minE n env G true x y) :=
  AskOk.of fun u hu => AskOk.of fun v hv => by
    split
    · rename_i h
      obtain ⟨k, i⟩ := u; obtain ⟨k', j⟩ := v
      simp only at h; subst h
      exact OpOk.dat hw rfl fun η => (r_max (opI_rp hu) (opI_rp hv))
    · trivial

/-- a slice up to its end, with no room behind it -/
def fullE (P : Program) [PTab P] (n : Nat) (env : List (Nat × Ent)) (G : List (Nat × Sh)) (t : TypeId) (x hi mx : Operand) : Ask OpR := match P.underlying t with
  | some (.slice e) => Ask.of (elT P e) fun c => Ask.of (opL env G x) fun q => Ask.of (opI env G hi) fun p => Ask.of (opI env G mx) fun m => if c.1 = q.1 then
      .cond ((p.2 == (q.2.length : Int)) && (m.2 == (q.2.length : Int))) (.ret ⟨.vl false [.fu n], [⟨.sl q.1, q.2, none⟩], 0, [], []⟩) .fail else .fail
  | _ => .fail
theorem fullE_ok (hw : WF n env) {t : TypeId} {x hi mx : Operand} : AskOk (OpOk P E N (.slice t x none (some hi) (some mx)) ty n env G O) (fullE P n env G t x hi mx) := by
  unfold fullE
  split
  · rename_i e hu
    refine AskOk.of fun c hc => AskOk.of fun q hq => AskOk.of fun p hp => AskOk.of fun m hm => ?_
    split
    · rename_i hct
      obtain ⟨t', l⟩ := q
      obtain ⟨c1, c2⟩ := c
      simp only at hct
      subst hct
      refine ⟨fun hb => ?_, fun _ => trivial⟩
      simp only [Bool.and_eq_true, beq_iff_eq] at hb
      obtain ⟨h1, h2⟩ := hb
      refine OpOk.rd' hw (fun e' he' => by rw [List.mem_singleton.1 he']; exact .none rfl) fun η => ?_
      simp only [Sh.rp, vrp, cond_false, List.map_cons, List.headD_cons, At.rp, keyed, lkE_cons, if_true]
      exact r_full (k1 := p.1) (k2 := m.1) hu (elT_ok hc) (opL_rp hq) (by rw [← h1]; exact opI_rp hp) (by rw [← h2]; exact opI_rp hm)
    · trivial
  · trivial

def appE (P : Program) [PTab P] (n : Nat) (env : List (Nat × Ent)) (G : List (Nat × Sh)) (O : List MO) (t : TypeId) (x y : Operand) : Ask OpR := match P.underlying t with
  | some (.slice e) => Ask.of (elT P e) fun c => Ask.of (opL env G y) fun l => if hl : l.1 = c.1 then Ask.of (opA G x) fun a => match a with
    | .nl => .bind (appM c.2 ([] : List l.1.den) l.2) fun d => .ret ⟨.vl false [.own O.length (n + 1)], [⟨.sl l.1, d, none⟩], 1, [], [.oa (n + 1) n]⟩
    | .own o h => Ask.of (ownA n env O o h) fun q => if hq : q.2.1 = l.1 then .bind (appM c.2 (hq ▸ q.2.2 : List l.1.den) l.2) fun d => .ret ⟨.vl false [.own o (n + 1)], [⟨.sl l.1, d, none⟩], 1, [(o, .oa (n + 1) n)], []⟩ else .fail
    | .fu i => Ask.of ((lkE env i).bind Ent.asSl) fun q => if hq : q.1 = l.1 then Ask.when (Nat.ble 1 l.2.length) (.bind (appM c.2 (hq ▸ q.2 : List l.1.den) l.2) fun d => .ret ⟨.vl false [.own O.length (n + 1)], [⟨.sl l.1, d, none⟩], 1, [], [.oa (n + 1) n]⟩) else .fail
    | _ => .fail else .fail
  | _ => .fail
theorem appE_ok (hw : WF n env) {t : TypeId} {x y : Operand} : AskOk (OpOk P E N (.call ⟨.builtin .append, #[x, y], #[t, t]⟩) ty n env G O) (appE P n env G O t x y) := by
  unfold appE
  split
  · rename_i e hu
    refine AskOk.of fun c hc => AskOk.of fun l hl => ?_
    split
    · rename_i hlc
      obtain ⟨t', l⟩ := l
      obtain ⟨c1, c2⟩ := c
      simp only at hlc
      subst hlc
      refine AskOk.of fun a ha => ?_
      have hx := fun η => opA_rp (c := ⟨n, env, η⟩) ha
      split
      · exact fun d hd => OpOk.newA hw fun η => (s_appendN hd hu (elT_ok hc) (hx η) (opL_rp hl))
      · rename_i o h
        refine AskOk.of fun q hq => ?_
        split
        · rename_i hqt
          obtain ⟨i0, t2, l2⟩ := q
          simp only at hqt
          subst hqt
          obtain ⟨hb, hlt, ⟨s, he⟩, hj⟩ := ownA_ok hq
          refine fun d hd => OpOk.chgA hw (fun η => (s_append hd hu (elT_ok hc) ?_ (hj η) (opL_rp hl))) hlt
          have h1 := hx η
          rw [own_rp (c := ⟨n, env, η⟩) hb] at h1
          exact h1
        · trivial
      · rename_i i
        refine AskOk.of fun q hq => ?_
        split
        · rename_i hqt
          obtain ⟨t2, l2⟩ := q
          simp only at hqt
          subst hqt
          refine AskOk.when fun hne => fun d hd => OpOk.newA hw fun η => ?_
          obtain ⟨en, he, hs⟩ := Option.bind_eq_some_iff.1 hq
          obtain ⟨s, rfl⟩ := asSl_eq hs
          have h1 := hx η
          simp only [At.rp, he] at h1
          exact s_appendF hd hne hu (elT_ok hc) h1 (opL_rp hl)
        · trivial
      · trivial
    · trivial
  · trivial
/-! ### a part of a slice of ours is cleared -/
theorem St.imp {X : Type} {Γ : List (Nat × RP)} {Ω : List OB} {js : List Nat} {φ ψ : X → RP} {Ω' : X → List OB} (h : St P E N op ty Γ Ω js φ Ω') (hi : ∀ x F w v, (φ x).h F w v → (ψ x).h F w v) : St P E N op ty Γ Ω js ψ Ω' := by
  intro a w hs o ho ht
  refine (h a w hs o ho ht).mono ?_
  rintro v w' ⟨x, h1, h2, h3⟩
  exact ⟨x, h1, hi x _ _ _ h2, h3⟩
def clearE (P : Program) [PTab P] (n : Nat) (env : List (Nat × Ent)) (G : List (Nat × Sh)) (O : List MO) (t : TypeId) (x : Operand) : Ask OpR := match P.underlying t with
  | some (.slice e) => Ask.of (elT P e) fun c => Ask.of (opA G x) fun a => match a with
    | .sb o h a b sz => Ask.of (ownA n env O o h) fun q => Ask.of ((lkE env a).bind entI) fun l => Ask.of ((lkE env b).bind entI) fun m => if c.1 = q.2.1 ∧ sz = q.2.1.rep.size then Ask.of ((zeroT P e).bind (celD P env q.2.1)) fun z =>
        .bind (slM q.2.2 l m) fun _ =>   .ret ⟨.tup [], [⟨.sl q.2.1, q.2.2.take (Int.toNat l) ++ List.replicate (Int.toNat m - Int.toNat l) z ++ q.2.2.drop (Int.toNat m), none⟩], 0, [(o, .oa h n)], []⟩ else .fail
    | _ => .fail
  | _ => .fail
theorem clearE_ok (hw : WF n env) {t : TypeId} {x : Operand} : AskOk (OpOk P E N (.call ⟨.builtin .clear, #[x], #[t]⟩) ty n env G O) (clearE P n env G O t x) := by
  unfold clearE
  split
  · rename_i e hu
    refine AskOk.of fun c hc => AskOk.of fun a ha => ?_
    have hx := fun η => opA_rp (c := ⟨n, env, η⟩) ha
    split
    · rename_i o h a b sz
      refine AskOk.of fun q hq => AskOk.of fun l hl => AskOk.of fun m hm => ?_
      split
      · rename_i hct
        refine AskOk.of fun z hz => fun d' hd => ?_
        obtain ⟨i0, t', l'⟩ := q
        obtain ⟨c1, c2⟩ := c
        simp only at hct
        obtain ⟨rfl, rfl⟩ := hct
        obtain ⟨hb, hlt, ⟨s, he⟩, hj⟩ := ownA_ok hq
        obtain ⟨ea, hea, hl⟩ := Option.bind_eq_some_iff.1 hl
        obtain ⟨eb, heb, hm⟩ := Option.bind_eq_some_iff.1 hm
        obtain ⟨sa, rfl⟩ := entI_eq hl
        obtain ⟨sb, rfl⟩ := entI_eq hm
        have hsrc : ∀ e ∈ [(⟨.sl c1, l'.take (Int.toNat l) ++ List.replicate (Int.toNat m - Int.toNat l) z ++ l'.drop (Int.toNat m), none⟩ : Ent)], SrcOk env e := fun e he => by rw [List.mem_singleton.1 he]; exact .none rfl
        refine ⟨hsrc, (fun _ h => by cases h), fun η => ?_⟩
        have h1 := hx η
        simp only [At.rp, hea, heb, hb, cond_true] at h1
        have h2 := s_clear (E := E) (N := N) (ty := ty) (ρ := c1.rep) hd hu (elT_ok hc) (zeroD_ok hz) h1 (hj η)
        refine (h2.imp (ψ := fun _ => Dc.tup []) fun _ F w v hv => ⟨#[], hv, trivial⟩).to' fun x a w hs => ⟨⟨η, fun _ _ => rfl⟩, ?_, rfl⟩
        simp only [OpR.O', updO, List.append_nil]
        refine oma_set (OpOk.ext hw (r := ⟨.tup [], [⟨.sl c1, l'.take (Int.toNat l) ++ List.replicate (Int.toNat m - Int.toNat l) z ++ l'.drop (Int.toNat m), none⟩], 0, [(o, .oa h n)], []⟩) hsrc ⟨η, fun _ _ => rfl⟩) ?_ hs
        simp only [MO.ob, OpR.cx', OpR.n', OpR.env', keyed, lkE_cons, if_true, Dyn.ob]
        rw [blt_mono hb (show n ≤ n + [(⟨.sl c1, l'.take (Int.toNat l) ++ List.replicate (Int.toNat m - Int.toNat l) z ++ l'.drop (Int.toNat m), none⟩ : Ent)].length + 0 from by omega)]
        rfl
      · trivial
    · trivial
  · trivial
end Go.Dc

/-! Contracts of functions, in plain words. -/
namespace Go.Dc
variable [DrawMode]

def Tup [SDen] : List Ty → Type
  | [] => Unit
  | [t] => t.den
  | t :: u :: ts => t.den × Tup (u :: ts)

/-- component j of a tuple -/
def tupGet [SDen] : (ts : List Ty) → Tup ts → Nat → Option Dyn
  | [], _, _ => none
  | [t], a, 0 => some ⟨t, a⟩
  | [_], _, _ + 1 => none
  | t :: _ :: _, a, 0 => some ⟨t, a.1⟩
  | _ :: u :: ts, a, j + 1 => tupGet (u :: ts) a.2 j

/-- a tuple out of its components -/
def tupMk [SDen] : (ts : List Ty) → ((k : Nat) → (t : Ty) → Option t.den) → Nat → Option (Tup ts)
  | [], _, _ => some ()
  | [t], f, j => f j t
  | t :: u :: ts, f, j => (f j t).bind fun x => (tupMk (u :: ts) f (j + 1)).map fun y => (x, y)

theorem tupMk_get [SDen] {f : (k : Nat) → (t : Ty) → Option t.den} : ∀ {ts : List Ty} {j : Nat} {a : Tup ts}, tupMk ts f j = some a → ∀ {i : Nat} {D : Dyn}, tupGet ts a i = some D → f (j + i) D.t = some D.d
  | [], _, _, _, i, D, h => by cases h
  | [t], j, a, ha, 0, D, h => by cases h; exact ha
  | [t], j, a, ha, i + 1, D, h => by cases h
  | t :: u :: ts, j, a, ha, 0, D, h => by
    simp only [tupMk] at ha
    obtain ⟨x, h1, h2⟩ := Option.bind_eq_some_iff.1 ha
    obtain ⟨y, h3, rfl⟩ := Option.map_eq_some_iff.1 h2
    cases h; exact h1
  | t :: u :: ts, j, a, ha, i + 1, D, h => by
    simp only [tupMk] at ha
    obtain ⟨x, h1, h2⟩ := Option.bind_eq_some_iff.1 ha
    obtain ⟨y, h3, rfl⟩ := Option.map_eq_some_iff.1 h2
    have := tupMk_get h3 (i := i) (D := D) h
    rw [show j + (i + 1) = j + 1 + i from by omega]
    exact this

/-- the words of data -/
def leaves (P : Program) [PTab P] (D : Dyn) : List Dyn := match D with
  | ⟨.st k, d⟩ => PTab.split (P := P) k d
  | D => [D]
/-- word q of component j -/
def leaf (P : Program) [PTab P] (ts : List Ty) (a : Tup ts) (j q : Nat) : Option Dyn := (tupGet ts a j).bind fun D => (leaves P D)[q]?

section
variable [SRep]
/-- words of a contract -/
inductive KA where
  | d (j q : Nat)
  | own (k : Nat)
  | ptr (k : Nat)
  | mp (k : Nat)
  | fn (f : Nat) (cs : List (Option Nat))
  | nl
  | nilp
  | nilf
  | pj (j q : Nat)
  | vs (k off j q c : Nat)
  | fx (a : At)
inductive KO where
  | dead
  | same
  | oa (k : Nat) (w : KA)
  | oc (k : Nat) (l : List KA)

/-- the elements of an array -/
def pjK (j : Nat) : Nat → Nat → List KA
  | _, 0 => []
  | q, n + 1 => .pj j q :: pjK j (q + 1) n
def pjO (j q n : Nat) : List (Option KA) := (pjK j q n).map some
/-- what a captured value is: a pointer to object k, or nil -/
def kcap (hs : Nat → Hd) : Option Nat → Value
  | some k => Dc.ptr (hs k).b 0
  | none => .pointer none

def KA.rp (c0 : Cx) (L : Nat → Nat → Option Dyn) (hs : Nat → Hd) : KA → RP
  | .fx a => a.rp c0
  | .d j q => match L j q with
    | some D => D.rp
    | none => RP.no
  | .own k => pv (hs k).hv
  | .ptr k => pv (Dc.ptr (hs k).b 0)
  | .mp k => pv (.map (some (hs k).b))
  | .fn f cs => pv (.func (.func f) #[] (cs.map (kcap hs)).toArray)
  | .nl => pv (.slice none 0 0)
  | .nilp => pv (.pointer none)
  | .nilf => pv .nilFunc
  | .pj j q => match L j 0 with
    | some ⟨.vec k, dd⟩ => (match pjG dd q with
      | some x => iv k x
      | none => RP.no)
    | _ => RP.no
  | .vs k off j q c => match L j q with
    | some ⟨.int _, l⟩ => pv (.slice (some ⟨(hs k).b, off, none⟩) (Int.toNat l) c)
    | _ => RP.no
/-- data that a word stands for -/
def KA.sl (c0 : Cx) (L : Nat → Nat → Option Dyn) : KA → Option Dyn
  | .d j q => L j q
  | .fx (.vr i) => (lkE c0.env i).map fun e => ⟨e.t, e.d⟩
  | _ => none
def kvrp (c0 : Cx) (L : Nat → Nat → Option Dyn) (hs : Nat → Hd) (v : Bool × List KA) : RP := bif v.1 then ag (v.2.map (KA.rp c0 L hs)) else (v.2.map (KA.rp c0 L hs)).headD RP.no
def KO.ob (c0 : Cx) (L : Nat → Nat → Option Dyn) (hs : Nat → Hd) : KO → OB
  | .dead => Dc.dead
  | .same => OB.no
  | .oa k w => match w.sl c0 L with
    | some D => D.ob (hs k)
    | none => OB.no
  | .oc k l => Dc.oc (hs k).b (l.map (KA.rp c0 L hs))
/-- no entries, no handles -/
def cx0 : Cx := ⟨0, [], fun _ => ⟨.bool true, [], 0, rfl⟩⟩
theorem cx0_ext (c : Cx) : Ext cx0 c := ⟨Nat.zero_le _, fun i e h => (by cases h), fun h hh => absurd hh (Nat.not_lt_zero _)⟩
def KO.isDead : KO → Bool
  | .dead => true
  | _ => false

end

structure Con [SDen] where
  ins : List Ty
  outs : List Ty
  m : Tup ins → Option (Tup outs)
  ps : List (Bool × List KA)
  os : List KO
  rs : List (Bool × List KA)
  os' : List KO
  /-- handles: those that are given, and all of them -/
  nh : Nat
  nh' : Nat

variable {P : Program} [PTab P]
def Con.args (C : Con) (a : Tup C.ins) (hs : Nat → Hd) : List RP := C.ps.map (kvrp cx0 (leaf P C.ins a) hs)
def Con.Ω0 (C : Con) (a : Tup C.ins) (hs : Nat → Hd) : List OB := C.os.map (KO.ob cx0 (leaf P C.ins a) hs)
def Con.res (C : Con) (r : Tup C.outs) (hs : Nat → Hd) : List RP := C.rs.map (kvrp cx0 (leaf P C.outs r) hs)
/-- the objects behind a call, those that are used up as_ dead ones -/
def kafter (Li Lo : Nat → Nat → Option Dyn) (hs0 hs : Nat → Hd) : List KO → List KO → List OB
  | i :: is, .same :: os => i.ob cx0 Li hs0 :: kafter Li Lo hs0 hs is os
  | _ :: is, o :: os => o.ob cx0 Lo hs :: kafter Li Lo hs0 hs is os
  | [], o :: os => o.ob cx0 Lo hs :: kafter Li Lo hs0 hs [] os
  | _, [] => []
def kmask : List KO → List Bool := List.map fun o => !o.isDead
def Con.Ω2 (C : Con) (a : Tup C.ins) (r : Tup C.outs) (hs0 hs : Nat → Hd) : List OB := kafter (leaf P C.ins a) (leaf P C.outs r) hs0 hs C.os C.os'
def Con.Ω1 (C : Con) (a : Tup C.ins) (r : Tup C.outs) (hs0 hs : Nat → Hd) : List OB := keepB (kmask C.os') (C.Ω2 (P := P) a r hs0 hs)

def ConOk (P : Program) [PTab P] (f : FuncId) (C : Con) : Prop :=
  ∀ a r, C.m a = some r → ∀ hs, FnOk P f (C.args (P := P) a hs) (C.Ω0 (P := P) a hs) (fun x : Agr C.nh hs => C.res (P := P) r x.1) (fun x => C.Ω1 (P := P) a r hs x.1)

section
variable [SRep]
/-! ### words that are matched -/
/-- what has been found: words, and objects (their place and handle) -/
structure Mt where
  ws : List ((Nat × Nat) × Dyn)
  om : List (Nat × (Nat × Nat))

def lkW : List ((Nat × Nat) × Dyn) → Nat → Nat → Option Dyn
  | [], _, _ => none
  | ((j, q), D) :: r, i, p => bif Nat.beq j i && Nat.beq q p then some D else lkW r i p
def lkM : List (Nat × (Nat × Nat)) → Nat → Option (Nat × Nat)
  | [], _ => none
  | (k, x) :: r, i => bif Nat.beq k i then some x else lkM r i

/-- an object k at place o with handle h: known already, or new -/
def Mt.obj (M : Mt) (k o h : Nat) : Option Mt := match lkM M.om k with
  | some (o', h') => bif Nat.beq o o' && Nat.beq h h' then some M else none
  | none => some ⟨M.ws, (k, (o, h)) :: M.om⟩
def Mt.word (M : Mt) (j q : Nat) (D : Dyn) : Option Mt := match lkW M.ws j q with
  | some _ => none
  | none => some ⟨((j, q), D) :: M.ws, M.om⟩

structure Mt.Le (M M' : Mt) : Prop where
  w : ∀ j q D, lkW M.ws j q = some D → lkW M'.ws j q = some D
  o : ∀ k x, lkM M.om k = some x → lkM M'.om k = some x
theorem Mt.Le.refl (M : Mt) : Mt.Le M M := ⟨fun _ _ _ h => h, fun _ _ h => h⟩
theorem Mt.Le.trans {A B C : Mt} (h : Mt.Le A B) (k : Mt.Le B C) : Mt.Le A C := ⟨fun j q D e => k.w j q D (h.w j q D e), fun i x e => k.o i x (h.o i x e)⟩

theorem Mt.obj_ok {M M' : Mt} {k o h : Nat} (hm : M.obj k o h = some M') : Mt.Le M M' ∧ lkM M'.om k = some (o, h) := by
  unfold Mt.obj at hm
  split at hm
  · rename_i o' h' hl
    cases hb : Nat.beq o o' && Nat.beq h h' with
    | false => rw [hb] at hm; cases hm
    | true =>
      rw [hb] at hm; cases hm
      simp only [Bool.and_eq_true] at hb
      obtain rfl := Nat.eq_of_beq_eq_true hb.1
      obtain rfl := Nat.eq_of_beq_eq_true hb.2
      exact ⟨.refl _, hl⟩
  · rename_i hl
    cases hm
    refine ⟨⟨fun _ _ _ h => h, fun i x hi => ?_⟩, by simp [lkM]⟩
    simp only [lkM]
    by_cases e : k = i
    · subst e; rw [hl] at hi; cases hi
    · rw [beq_ne e]; exact hi
theorem Mt.word_ok {M M' : Mt} {j q : Nat} {D : Dyn} (hm : M.word j q D = some M') : Mt.Le M M' ∧ lkW M'.ws j q = some D := by
  unfold Mt.word at hm
  split at hm
  · cases hm
  · rename_i hl
    cases hm
    refine ⟨⟨fun i p x hi => ?_, fun _ _ h => h⟩, by simp [lkW]⟩
    simp only [lkW]
    cases hb : Nat.beq j i && Nat.beq q p with
    | false => exact hi
    | true =>
      simp only [Bool.and_eq_true] at hb
      obtain rfl := Nat.eq_of_beq_eq_true hb.1
      obtain rfl := Nat.eq_of_beq_eq_true hb.2
      rw [hl] at hi; cases hi

/-- atoms that are the same -/
def capEq : List Cap → List Cap → Bool
  | [], [] => true
  | .ptr o h :: r, .ptr o' h' :: r' => Nat.beq o o' && Nat.beq h h' && capEq r r'
  | .fn f :: r, .fn f' :: r' => Nat.beq f f' && capEq r r'
  | .nilp :: r, .nilp :: r' => capEq r r'
  | _, _ => false
theorem capEq_ok : ∀ {l l' : List Cap}, capEq l l' = true → l = l'
  | [], [], _ => rfl
  | .ptr o h :: r, .ptr o' h' :: r', e => by
    simp only [capEq, Bool.and_eq_true] at e
    rw [Nat.eq_of_beq_eq_true e.1.1, Nat.eq_of_beq_eq_true e.1.2, capEq_ok e.2]
  | .fn f :: r, .fn f' :: r', e => by
    simp only [capEq, Bool.and_eq_true] at e
    rw [Nat.eq_of_beq_eq_true e.1, capEq_ok e.2]
  | .nilp :: r, .nilp :: r', e => by rw [capEq_ok (l := r) (l' := r') e]
  | [], _ :: _, e => by cases e
  | _ :: _, [], e => by simp [capEq] at e
  | .ptr _ _ :: _, .fn _ :: _, e => by cases e
  | .ptr _ _ :: _, .nilp :: _, e => by cases e
  | .fn _ :: _, .ptr _ _ :: _, e => by cases e
  | .fn _ :: _, .nilp :: _, e => by cases e
  | .nilp :: _, .ptr _ _ :: _, e => by cases e
  | .nilp :: _, .fn _ :: _, e => by cases e
def atEq : At → At → Bool
  | .vr i, .vr j => Nat.beq i j
  | .ci k a, .ci k' b => decide (k = k') && decide (a = b)
  | .cb a, .cb b => a == b
  | .ck a, .ck b => decide (a.data = b.data)
  | .nl, .nl => true
  | .own o h, .own o' h' => Nat.beq o o' && Nat.beq h h'
  | .ptr o h f, .ptr o' h' f' => Nat.beq o o' && Nat.beq h h' && Nat.beq f f'
  | .mp o h, .mp o' h' => Nat.beq o o' && Nat.beq h h'
  | .fn f c, .fn f' c' => Nat.beq f f' && capEq c c'
  | .nilf, .nilf => true
  | .nilp, .nilp => true
  | .ea i, .ea j => Nat.beq i j
  | .fu i, .fu j => Nat.beq i j
  | .pj i j, .pj i' j' => Nat.beq i i' && Nat.beq j j'
  | .vs o h f i c, .vs o' h' f' i' c' => Nat.beq o o' && Nat.beq h h' && Nat.beq f f' && Nat.beq i i' && Nat.beq c c'
  | _, _ => false
theorem atEq_ok {a b : At} (hh : atEq a b = true) : a = b := by
  cases a <;> cases b <;> first
    | rfl
    | (simp only [atEq] at hh; cases hh; done)
    | (simp only [atEq] at hh; rw [Nat.eq_of_beq_eq_true hh]; done)
    | (simp only [atEq, Bool.and_eq_true, decide_eq_true_eq] at hh; rw [hh.1, hh.2]; done)
    | (simp only [atEq, Bool.and_eq_true] at hh; rw [Nat.eq_of_beq_eq_true hh.1, Nat.eq_of_beq_eq_true hh.2]; done)
    | (simp only [atEq, Bool.and_eq_true] at hh; rw [Nat.eq_of_beq_eq_true hh.1.1, Nat.eq_of_beq_eq_true hh.1.2, Nat.eq_of_beq_eq_true hh.2]; done)
    | (simp only [atEq, Bool.and_eq_true] at hh; rw [Nat.eq_of_beq_eq_true hh.1.1.1.1, Nat.eq_of_beq_eq_true hh.1.1.1.2, Nat.eq_of_beq_eq_true hh.1.1.2, Nat.eq_of_beq_eq_true hh.1.2, Nat.eq_of_beq_eq_true hh.2]; done)
    | (simp only [atEq, Bool.and_eq_true] at hh; rw [Nat.eq_of_beq_eq_true hh.1, capEq_ok hh.2]; done)
    | (rename_i x y; simp only [atEq, decide_eq_true_eq] at hh; cases x; cases y; simp only at hh; rw [hh]; done)
    | (simp only [atEq, beq_iff_eq] at hh; rw [hh]; done)
theorem atsEq_ok : ∀ {l l' : List At}, Nat.beq l.length l'.length = true → ((l.zip l').all fun x => atEq x.1 x.2) = true → l = l'
  | [], [], _, _ => rfl
  | a :: l, b :: l', h, h2 => by
    simp only [List.zip_cons_cons, List.all_cons, Bool.and_eq_true] at h2
    rw [atEq_ok h2.1, atsEq_ok (by simpa using h) h2.2]
  | [], _ :: _, h, _ => by simp at h
  | _ :: _, [], h, _ => by simp at h
/-- known there already -/
def At.clo (n : Nat) (env : List (Nat × Ent)) : At → Bool
  | .vr i => (lkE env i).isSome
  | .own _ h => Nat.blt h n
  | .ptr _ h _ => Nat.blt h n
  | .mp _ h => Nat.blt h n
  | .fn _ cs => cs.all (Cap.ok n)
  | .ea i => (lkE env i).isSome
  | .fu i => (lkE env i).isSome
  | .oea _ _ _ => false
  | .oef _ _ _ => false
  | .pj i _ => (lkE env i).isSome
  | .vs _ h _ i _ => Nat.blt h n && (lkE env i).isSome
  | .sb _ _ _ _ _ => false
  | _ => true
theorem At.clo_ok {c c' : Cx} (hx : Ext c c') {a : At} (h : a.clo c.n c.env = true) : a.rp c' = a.rp c := by
  cases a with
  | vr i =>
    simp only [At.clo] at h
    obtain ⟨e, he⟩ := Option.isSome_iff_exists.1 h
    simp only [At.rp, he, hx.env i e he]
  | ea i =>
    simp only [At.clo] at h
    obtain ⟨e, he⟩ := Option.isSome_iff_exists.1 h
    simp only [At.rp, he, hx.env i e he]
  | fu i =>
    simp only [At.clo] at h
    obtain ⟨e, he⟩ := Option.isSome_iff_exists.1 h
    simp only [At.rp, he, hx.env i e he]
  | pj i j =>
    simp only [At.clo] at h
    obtain ⟨e, he⟩ := Option.isSome_iff_exists.1 h
    simp only [At.rp, he, hx.env i e he]
  | vs o k f i cp =>
    simp only [At.clo, Bool.and_eq_true] at h
    obtain ⟨e, he⟩ := Option.isSome_iff_exists.1 h.2
    simp only [At.rp, he, hx.env i e he, h.1, blt_mono h.1 hx.n, hx.η k (by simpa [Nat.blt_eq] using h.1)]
  | sb _ _ _ _ _ => cases h
  | own o k => simp only [At.clo] at h; rw [own_rp h, own_rp (blt_mono h hx.n), hx.η k (by simpa [Nat.blt_eq] using h)]
  | ptr o k f => simp only [At.clo] at h; rw [ptr_rp h, ptr_rp (blt_mono h hx.n), hx.η k (by simpa [Nat.blt_eq] using h)]
  | mp o k => simp only [At.clo] at h; simp only [At.rp, h, blt_mono h hx.n, cond_true, hx.η k (by simpa [Nat.blt_eq] using h)]
  | fn f cs =>
    simp only [At.clo] at h
    have h1 : ∀ x ∈ cs, Cap.ok c.n x = true := List.all_eq_true.1 h
    have h2 : cs.all (Cap.ok c'.n) = true := List.all_eq_true.2 fun x hx' => by
      have := h1 x hx'
      cases x with
      | ptr o k => exact blt_mono this hx.n
      | _ => rfl
    have h3 : cs.map (Cap.val c'.η) = cs.map (Cap.val c.η) := List.map_congr_left fun x hx' => by
      have := h1 x hx'
      cases x with
      | ptr o k => simp only [Cap.val]; rw [hx.η k (by simpa [Cap.ok, Nat.blt_eq] using this)]
      | _ => rfl
    simp only [At.rp, h, h2, cond_true, h3]
  | oea _ _ _ => cases h
  | oef _ _ _ => cases h
  | _ => rfl

def moEq : MO → MO → Bool
  | .dead, .dead => true
  | .oa h i, .oa h' i' => Nat.beq h h' && Nat.beq i i'
  | .oc h l, .oc h' l' => Nat.beq h h' && (Nat.beq l.length l'.length && (l.zip l').all fun x => atEq x.1 x.2)
  | _, _ => false
theorem moEq_ok {m m' : MO} (h : moEq m m' = true) : m = m' := by
  cases m with
  | dead => cases m' <;> first | rfl | cases h
  | oa a b =>
    cases m' with
    | oa a' b' => simp only [moEq, Bool.and_eq_true] at h; rw [Nat.eq_of_beq_eq_true h.1, Nat.eq_of_beq_eq_true h.2]
    | _ => cases h
  | oc a l =>
    cases m' with
    | oc a' l' => simp only [moEq, Bool.and_eq_true] at h; rw [Nat.eq_of_beq_eq_true h.1, atsEq_ok h.2.1 h.2.2]
    | _ => cases h

def MO.clo (n : Nat) (env : List (Nat × Ent)) : MO → Bool
  | .dead => true
  | .oa h i => Nat.blt h n && ((lkE env i).isSome)
  | .oc h l => Nat.blt h n && l.all (At.clo n env)
theorem MO.clo_ok {c c' : Cx} (hx : Ext c c') {m : MO} (h : m.clo c.n c.env = true) : m.ob c' = m.ob c := by
  cases m with
  | dead => rfl
  | oa k i =>
    simp only [MO.clo, Bool.and_eq_true] at h
    obtain ⟨e, he⟩ := Option.isSome_iff_exists.1 h.2
    simp only [MO.ob, he, hx.env i e he, h.1, blt_mono h.1 hx.n, hx.η k (by simpa [Nat.blt_eq] using h.1)]
  | oc k l =>
    simp only [MO.clo, Bool.and_eq_true] at h
    have h3 : l.map (At.rp c') = l.map (At.rp c) := List.map_congr_left fun a ha => At.clo_ok hx (List.all_eq_true.1 h.2 a ha)
    simp only [MO.ob, h.1, blt_mono h.1 hx.n, hx.η k (by simpa [Nat.blt_eq] using h.1), h3]

/-- captured values -/
def mtCaps : Mt → List (Option Nat) → List Cap → Option Mt
  | M, [], [] => some M
  | M, some k :: ks, .ptr o h :: cs => (M.obj k o h).bind fun M => mtCaps M ks cs
  | M, none :: ks, .nilp :: cs => mtCaps M ks cs
  | _, _, _ => none

/-- one word; nil may stand for an empty slice where `nilT` says of which type; a slice of ours may be lent -/
def mtA (n0 : Nat) (env0 : List (Nat × Ent)) (n : Nat) (env : List (Nat × Ent)) (nilT : Option Ty) (M : Mt) : KA → At → Option Mt
  | .fx a, b => bif atEq a b && a.clo n0 env0 then some M else none
  | .d j q, .nl => match nilT with
    | some t => M.word j q ⟨.sl t, []⟩
    | none => none
  | .d j q, a => (rdD env a).bind fun D => M.word j q D
  | .own k, .own o h => bif Nat.blt h n then M.obj k o h else none
  | .ptr k, .ptr o h 0 => bif Nat.blt h n then M.obj k o h else none
  | .mp k, .mp o h => bif Nat.blt h n then M.obj k o h else none
  | .fn f cs, .fn g ds => bif Nat.beq f g && ds.all (Cap.ok n) then mtCaps M cs ds else none
  | .nl, .nl => some M
  | .nilp, .nilp => some M
  | .nilf, .nilf => some M
  | .vs k off j q c, .vs o h off' i c' => bif Nat.blt h n && (Nat.beq off off' && Nat.beq c c') then (rdD env (.vr i)).bind fun D => (M.word j q D).bind fun M => M.obj k o h else none
  | _, _ => none

/-- what the words found say -/
structure MtSay (L : Nat → Nat → Option Dyn) (hs η : Nat → Hd) (M : Mt) : Prop where
  w : ∀ j q D, lkW M.ws j q = some D → L j q = some D
  o : ∀ k o h, lkM M.om k = some (o, h) → hs k = η h
theorem MtSay.le {L : Nat → Nat → Option Dyn} {hs η : Nat → Hd} {M M' : Mt} (h : MtSay L hs η M') (hl : Mt.Le M M') : MtSay L hs η M := ⟨fun j q D e => h.w j q D (hl.w j q D e), fun k o x e => h.o k o x (hl.o k _ e)⟩

theorem mtCaps_ok {n : Nat} : ∀ {ks : List (Option Nat)} {cs : List Cap} {M M' : Mt}, mtCaps M ks cs = some M' → Mt.Le M M' ∧ ∀ {L : Nat → Nat → Option Dyn} {hs η : Nat → Hd}, MtSay L hs η M' → ks.map (kcap hs) = cs.map (Cap.val η)
  | [], [], M, M', h => by cases h; exact ⟨.refl _, fun _ => rfl⟩
  | some k :: ks, .ptr o x :: cs, M, M', h => by
    simp only [mtCaps] at h
    obtain ⟨M1, h1, h2⟩ := Option.bind_eq_some_iff.1 h
    obtain ⟨h3, h4⟩ := Mt.obj_ok h1
    obtain ⟨h5, h6⟩ := mtCaps_ok (n := n) h2
    refine ⟨h3.trans h5, fun hs => ?_⟩
    rw [List.map_cons, List.map_cons, h6 hs]
    have := hs.o k o x (h5.o _ _ h4)
    simp only [kcap, Cap.val, this]
  | none :: ks, .nilp :: cs, M, M', h => by
    simp only [mtCaps] at h
    obtain ⟨h5, h6⟩ := mtCaps_ok (n := n) h
    refine ⟨h5, fun hs => ?_⟩
    rw [List.map_cons, List.map_cons, h6 hs]; rfl
  | [], _ :: _, _, _, h => by simp [mtCaps] at h
  | some _ :: _, [], _, _, h => by simp [mtCaps] at h
  | none :: _, [], _, _, h => by simp [mtCaps] at h
  | some _ :: _, .fn _ :: _, _, _, h => by simp [mtCaps] at h
  | some _ :: _, .nilp :: _, _, _, h => by simp [mtCaps] at h
  | none :: _, .ptr _ _ :: _, _, _, h => by simp [mtCaps] at h
  | none :: _, .fn _ :: _, _, _, h => by simp [mtCaps] at h

theorem mtA_ok {c0 : Cx} {n : Nat} {env : List (Nat × Ent)} {nt : Option Ty} {M M' : Mt} {k : KA} {a : At} (h : mtA c0.n c0.env n env nt M k a = some M') :
    Mt.Le M M' ∧ ∀ {L : Nat → Nat → Option Dyn} {hs η : Nat → Hd}, Ext c0 ⟨n, env, η⟩ → MtSay L hs η M' → (∀ {F w v}, (a.rp ⟨n, env, η⟩).h F w v → (k.rp c0 L hs).h F w v) ∧ (nt = none → a.rp ⟨n, env, η⟩ = k.rp c0 L hs) := by
  have both : ∀ {φ ψ : RP}, φ = ψ → (∀ {F w v}, φ.h F w v → ψ.h F w v) ∧ (nt = none → φ = ψ) := fun e => ⟨fun h => e ▸ h, fun _ => e⟩
  unfold mtA at h
  split at h
  · rename_i b
    cases hb : atEq b a && b.clo c0.n c0.env with
    | false => rw [hb] at h; cases h
    | true =>
      rw [hb] at h; cases h
      simp only [Bool.and_eq_true] at hb
      obtain rfl := atEq_ok hb.1
      exact ⟨.refl _, fun hx _ => both (At.clo_ok hx hb.2)⟩
  · rename_i j q
    split at h
    · rename_i t
      obtain ⟨h1, h2⟩ := Mt.word_ok h
      refine ⟨h1, fun hx hs => ⟨fun hv => ?_, fun e => by cases e⟩⟩
      simp only [KA.rp, hs.w _ _ _ h2]
      exact nil_sl hv
    · cases h
  · rename_i j q
    obtain ⟨D, hD, h⟩ := Option.bind_eq_some_iff.1 h
    obtain ⟨h1, h2⟩ := Mt.word_ok h
    refine ⟨h1, fun {L hs η} hx hs => both ?_⟩
    simp only [KA.rp, hs.w _ _ _ h2]
    rw [(rdD_rp (c := ⟨n, env, η⟩) hD).1]
  · rename_i k o x
    cases hb : Nat.blt x n with
    | false => rw [hb] at h; cases h
    | true =>
      rw [hb] at h
      obtain ⟨h1, h2⟩ := Mt.obj_ok h
      refine ⟨h1, fun {L hs η} hx hs => both ?_⟩
      rw [own_rp (c := ⟨n, env, η⟩) hb]
      simp only [KA.rp, hs.o _ _ _ h2]
  · rename_i k o x
    cases hb : Nat.blt x n with
    | false => rw [hb] at h; cases h
    | true =>
      rw [hb] at h
      obtain ⟨h1, h2⟩ := Mt.obj_ok h
      refine ⟨h1, fun {L hs η} hx hs => both ?_⟩
      rw [ptr_rp (c := ⟨n, env, η⟩) hb]
      simp only [KA.rp, hs.o _ _ _ h2]
  · rename_i k o x
    cases hb : Nat.blt x n with
    | false => rw [hb] at h; cases h
    | true =>
      rw [hb] at h
      obtain ⟨h1, h2⟩ := Mt.obj_ok h
      refine ⟨h1, fun {L hs η} hx hs => both ?_⟩
      simp only [At.rp, hb, cond_true, KA.rp, hs.o _ _ _ h2]
  · rename_i f cs g ds
    cases hb : Nat.beq f g && ds.all (Cap.ok n) with
    | false => rw [hb] at h; cases h
    | true =>
      rw [hb] at h
      simp only [Bool.and_eq_true] at hb
      obtain rfl := Nat.eq_of_beq_eq_true hb.1
      obtain ⟨h1, h2⟩ := mtCaps_ok (n := n) h
      refine ⟨h1, fun {L hs η} hx hs => both ?_⟩
      simp only [At.rp, hb.2, cond_true, KA.rp, h2 hs]
  · cases h; exact ⟨.refl _, fun _ _ => both rfl⟩
  · cases h; exact ⟨.refl _, fun _ _ => both rfl⟩
  · cases h; exact ⟨.refl _, fun _ _ => both rfl⟩
  · rename_i k off j q c o x off' i c'
    cases hb : Nat.blt x n && (Nat.beq off off' && Nat.beq c c') with
    | false => rw [hb] at h; cases h
    | true =>
      rw [hb] at h
      simp only [Bool.and_eq_true] at hb
      obtain ⟨hb, h1, h2⟩ := hb
      obtain rfl := Nat.eq_of_beq_eq_true h1
      obtain rfl := Nat.eq_of_beq_eq_true h2
      obtain ⟨D, hD, h⟩ := Option.bind_eq_some_iff.1 h
      obtain ⟨M1, h3, h4⟩ := Option.bind_eq_some_iff.1 h
      obtain ⟨h5, h6⟩ := Mt.word_ok h3
      obtain ⟨h7, h8⟩ := Mt.obj_ok h4
      refine ⟨h5.trans h7, fun {L hs η} hx hsay => both ?_⟩
      simp only [rdD] at hD
      obtain ⟨e, he, hD⟩ := Option.bind_eq_some_iff.1 hD
      cases ho : e.t.one with
      | false => rw [ho] at hD; cases hD
      | true =>
        rw [ho] at hD; cases hD
        obtain ⟨t, d, s⟩ := e
        simp only [KA.rp, At.rp, he, hsay.w _ _ _ (h7.w _ _ _ h6), hsay.o _ _ _ h8]
        cases t with
        | int kd => simp only [hb, cond_true]
        | _ => rfl
  · cases h
end
end Go.Dc

/-! Values and objects that are matched; the tuple of what was found. -/
namespace Go.Dc
variable [DrawMode] {P : Program} [PTab P] {E : Env} {N : Nat} {n : Nat} {env : List (Nat × Ent)} {G : List (Nat × Sh)} {O : List MO}

def wordT (P : Program) [PTab P] (ts : List Ty) (j q : Nat) : Option Ty := (ts[j]?).bind fun t => match t with
  | .st k => (PTab.fts P k)[q]?
  | t => match q with
    | 0 => some t
    | _ + 1 => none
def nilOf (P : Program) [PTab P] (ts : List Ty) (strict : Bool) (k : KA) : Option Ty := bif strict then none else match k with
  | .d j q => match wordT P ts j q with
    | some (.sl t) => some t
    | _ => none
  | _ => none

/-- the elements of an array: their entry is that of the first -/
def mtP (n : Nat) (env : List (Nat × Ent)) (cur : Option (Nat × Nat)) (M : Mt) (j q i q' : Nat) : Option Mt := bif Nat.beq q q' then (match q with
    | 0 => (match lkE env i with
      | some ⟨.vec k, d, _⟩ => M.word j 0 ⟨.vec k, d⟩
      | _ => none)
    | _ + 1 => match cur with
      | some (j0, i0) => bif Nat.beq j0 j && Nat.beq i0 i then some M else none
      | none => none) else none
def CurOk (env : List (Nat × Ent)) (cur : Option (Nat × Nat)) (M : Mt) : Prop := ∀ j i, cur = some (j, i) → ∃ k d s, lkE env i = some ⟨.vec k, d, s⟩ ∧ lkW M.ws j 0 = some ⟨.vec k, d⟩
theorem mtP_ok {cur : Option (Nat × Nat)} {M M' : Mt} {j q i q' : Nat} (h : mtP n env cur M j q i q' = some M') (hc : CurOk env cur M) :
    Mt.Le M M' ∧ CurOk env (some (j, i)) M' ∧ ∀ {c0 : Cx} {L : Nat → Nat → Option Dyn} {hs η : Nat → Hd}, MtSay L hs η M' → (At.pj i q').rp ⟨n, env, η⟩ = (KA.pj j q).rp c0 L hs := by
  have say : ∀ {k : IntKind} {d : List Int} {s : Option Src} {M' : Mt} {q : Nat}, lkE env i = some ⟨.vec k, d, s⟩ → lkW M'.ws j 0 = some ⟨.vec k, d⟩ → ∀ {c0 : Cx} {L : Nat → Nat → Option Dyn} {hs η : Nat → Hd}, MtSay L hs η M' → (At.pj i q).rp ⟨n, env, η⟩ = (KA.pj j q).rp c0 L hs := by
    intro k d s M' q he hw c0 L hs η hsay
    simp only [At.rp, KA.rp, he, hsay.w _ _ _ hw]
    rfl
  unfold mtP at h
  cases hq : Nat.beq q q' with
  | false => rw [hq] at h; cases h
  | true =>
    rw [hq] at h
    obtain rfl := Nat.eq_of_beq_eq_true hq
    simp only [cond_true] at h
    split at h
    · split at h
      · rename_i k d s he
        obtain ⟨h1, h2⟩ := Mt.word_ok h
        exact ⟨h1, fun j' i' e => by cases e; exact ⟨k, d, s, he, h2⟩, say he h2⟩
      · cases h
    · split at h
      · rename_i j0 i0
        cases hb : Nat.beq j0 j && Nat.beq i0 i with
        | false => rw [hb] at h; cases h
        | true =>
          rw [hb] at h; cases h
          simp only [Bool.and_eq_true] at hb
          obtain rfl := Nat.eq_of_beq_eq_true hb.1
          obtain rfl := Nat.eq_of_beq_eq_true hb.2
          obtain ⟨k, d, s, he, hw⟩ := hc _ _ rfl
          exact ⟨.refl _, hc, say he hw⟩
      · cases h
theorem CurOk.none {env : List (Nat × Ent)} {M : Mt} : CurOk env none M := fun _ _ e => by cases e

def mtAsC (P : Program) [PTab P] (ts : List Ty) (strict : Bool) (n0 : Nat) (env0 : List (Nat × Ent)) (n : Nat) (env : List (Nat × Ent)) : Option (Nat × Nat) → Mt → List KA → List At → Option Mt
  | _, M, [], [] => some M
  | cur, M, k :: ks, a :: as_ => match k, a with
    | .pj j q, .pj i q' => (mtP n env cur M j q i q').bind fun M => mtAsC P ts strict n0 env0 n env (some (j, i)) M ks as_
    | k, a => (mtA n0 env0 n env (nilOf P ts strict k) M k a).bind fun M => mtAsC P ts strict n0 env0 n env none M ks as_
  | _, _, _, _ => none

theorem mtAsC_ok {c0 : Cx} {ts : List Ty} {strict : Bool} : ∀ {ks : List KA} {as_ : List At} {cur : Option (Nat × Nat)} {M M' : Mt}, mtAsC P ts strict c0.n c0.env n env cur M ks as_ = some M' → CurOk env cur M →
    Mt.Le M M' ∧ ∀ {L : Nat → Nat → Option Dyn} {hs η : Nat → Hd}, Ext c0 ⟨n, env, η⟩ → MtSay L hs η M' → ImpAll (as_.map (At.rp ⟨n, env, η⟩)) (ks.map (KA.rp c0 L hs)) ∧ (strict = true → as_.map (At.rp ⟨n, env, η⟩) = ks.map (KA.rp c0 L hs))
  | [], [], _, M, M', h, _ => by cases h; exact ⟨.refl _, fun _ _ => ⟨trivial, fun _ => rfl⟩⟩
  | k :: ks, a :: as_, cur, M, M', h, hcur => by
    unfold mtAsC at h
    split at h
    · rename_i j q i q'
      obtain ⟨M1, h1, h2⟩ := Option.bind_eq_some_iff.1 h
      obtain ⟨h3, hc1, h4⟩ := mtP_ok h1 hcur
      obtain ⟨h5, h6⟩ := mtAsC_ok h2 hc1
      refine ⟨h3.trans h5, fun {L hs η} hx hs' => ?_⟩
      obtain ⟨h7, h8⟩ := h6 hx hs'
      have h9 : (At.pj i q').rp ⟨n, env, η⟩ = (KA.pj j q).rp c0 L hs := h4 (hs'.le h5)
      refine ⟨⟨fun {F w v} hv => by rw [← h9]; exact hv, h7⟩, fun e => ?_⟩
      rw [List.map_cons, List.map_cons, h8 e, h9]
    · obtain ⟨M1, h1, h2⟩ := Option.bind_eq_some_iff.1 h
      obtain ⟨h3, h4⟩ := mtA_ok h1
      obtain ⟨h5, h6⟩ := mtAsC_ok h2 .none
      refine ⟨h3.trans h5, fun hx hs => ?_⟩
      obtain ⟨h7, h8⟩ := h6 hx hs
      obtain ⟨h9, h10⟩ := h4 hx (hs.le h5)
      refine ⟨⟨h9, h7⟩, fun e => ?_⟩
      rw [List.map_cons, List.map_cons, h8 e, h10 (by subst e; rfl)]
  | [], _ :: _, _, _, _, h, _ => by simp [mtAsC] at h
  | _ :: _, [], _, _, _, h, _ => by simp [mtAsC] at h
def mtAs (P : Program) [PTab P] (ts : List Ty) (strict : Bool) (n0 : Nat) (env0 : List (Nat × Ent)) (n : Nat) (env : List (Nat × Ent)) (M : Mt) (ks : List KA) (as_ : List At) : Option Mt := mtAsC P ts strict n0 env0 n env none M ks as_
theorem mtAs_ok {c0 : Cx} {ts : List Ty} {strict : Bool} {ks : List KA} {as_ : List At} {M M' : Mt} (h : mtAs P ts strict c0.n c0.env n env M ks as_ = some M') :
    Mt.Le M M' ∧ ∀ {L : Nat → Nat → Option Dyn} {hs η : Nat → Hd}, Ext c0 ⟨n, env, η⟩ → MtSay L hs η M' → ImpAll (as_.map (At.rp ⟨n, env, η⟩)) (ks.map (KA.rp c0 L hs)) ∧ (strict = true → as_.map (At.rp ⟨n, env, η⟩) = ks.map (KA.rp c0 L hs)) := mtAsC_ok h .none

def mtV (P : Program) [PTab P] (ts : List Ty) (strict : Bool) (n0 : Nat) (env0 : List (Nat × Ent)) (n : Nat) (env : List (Nat × Ent)) (M : Mt) (k : Bool × List KA) : Sh → Option Mt
  | .vl g as_ => bif k.1 == g && (g || Nat.beq as_.length 1) then mtAs P ts strict n0 env0 n env M k.2 as_ else none
  | _ => none
theorem mtV_ok {c0 : Cx} {ts : List Ty} {strict : Bool} {M M' : Mt} {k : Bool × List KA} {s : Sh} (h : mtV P ts strict c0.n c0.env n env M k s = some M') :
    Mt.Le M M' ∧ ∀ {L : Nat → Nat → Option Dyn} {hs η : Nat → Hd}, Ext c0 ⟨n, env, η⟩ → MtSay L hs η M' → (∀ {F w v}, (s.rp ⟨n, env, η⟩).h F w v → (kvrp c0 L hs k).h F w v) ∧ (strict = true → s.rp ⟨n, env, η⟩ = kvrp c0 L hs k) := by
  unfold mtV at h
  split at h
  · rename_i g as_
    cases hb : (k.1 == g && (g || Nat.beq as_.length 1)) with
    | false => rw [hb] at h; cases h
    | true =>
      rw [hb] at h
      simp only [Bool.and_eq_true, beq_iff_eq] at hb
      obtain ⟨hg, hlen⟩ := hb
      obtain ⟨h1, h2⟩ := mtAs_ok h
      refine ⟨h1, fun {L hs η} hx hsay => ?_⟩
      obtain ⟨h3, h4⟩ := h2 hx hsay
      obtain ⟨kg, ks⟩ := k
      simp only at hg h3 h4
      subst hg
      cases kg with
      | true =>
        refine ⟨fun hv => ?_, fun e => ?_⟩
        · obtain ⟨cs, e1, h5⟩ := hv; exact ⟨cs, e1, h3.all h5⟩
        · simp only [Sh.rp, vrp, kvrp, cond_true]; rw [h4 e]
      | false =>
        simp only [Bool.false_or] at hlen
        obtain ⟨a, rfl⟩ := List.length_eq_one_iff.1 (Nat.eq_of_beq_eq_true hlen)
        match ks, h3 with
        | [k], ⟨h3, _⟩ =>
          refine ⟨fun hv => h3 hv, fun e => ?_⟩
          have := h4 e
          simp only [List.map_cons, List.map_nil, List.cons.injEq, and_true] at this
          exact this
  · cases h

def mtVs (P : Program) [PTab P] (ts : List Ty) (strict : Bool) (n0 : Nat) (env0 : List (Nat × Ent)) (n : Nat) (env : List (Nat × Ent)) : Mt → List (Bool × List KA) → List Sh → Option Mt
  | M, [], [] => some M
  | M, k :: ks, s :: ss => (mtV P ts strict n0 env0 n env M k s).bind fun M => mtVs P ts strict n0 env0 n env M ks ss
  | _, _, _ => none
theorem mtVs_ok {c0 : Cx} {ts : List Ty} {strict : Bool} : ∀ {ks : List (Bool × List KA)} {ss : List Sh} {M M' : Mt}, mtVs P ts strict c0.n c0.env n env M ks ss = some M' →
    Mt.Le M M' ∧ ∀ {L : Nat → Nat → Option Dyn} {hs η : Nat → Hd}, Ext c0 ⟨n, env, η⟩ → MtSay L hs η M' → ImpAll (ss.map (Sh.rp ⟨n, env, η⟩)) (ks.map (kvrp c0 L hs)) ∧ (strict = true → ss.map (Sh.rp ⟨n, env, η⟩) = ks.map (kvrp c0 L hs))
  | [], [], M, M', h => by cases h; exact ⟨.refl _, fun _ _ => ⟨trivial, fun _ => rfl⟩⟩
  | k :: ks, a :: as_, M, M', h => by
    simp only [mtVs] at h
    obtain ⟨M1, h1, h2⟩ := Option.bind_eq_some_iff.1 h
    obtain ⟨h3, h4⟩ := mtV_ok h1
    obtain ⟨h5, h6⟩ := mtVs_ok h2
    refine ⟨h3.trans h5, fun hx hs => ?_⟩
    obtain ⟨h7, h8⟩ := h6 hx hs
    obtain ⟨h9, h10⟩ := h4 hx (hs.le h5)
    refine ⟨⟨h9, h7⟩, fun e => ?_⟩
    rw [List.map_cons, List.map_cons, h8 e, h10 e]
  | [], _ :: _, _, _, h => by simp [mtVs] at h
  | _ :: _, [], _, _, h => by simp [mtVs] at h

/-! ### objects -/
def KO.key : KO → Option Nat
  | .oa k _ => some k
  | .oc k _ => some k
  | _ => none
def mtO (P : Program) [PTab P] (ts : List Ty) (n0 : Nat) (env0 : List (Nat × Ent)) (n : Nat) (env : List (Nat × Ent)) (O : List MO) (M : Mt) : KO → Option Mt
  | .oa k (.d j q) => (lkM M.om k).bind fun x => (anyA n env O x.1 x.2).bind fun p => M.word j q p.2
  | .oa k (.fx (.vr i)) => (lkM M.om k).bind fun x => (anyA n env O x.1 x.2).bind fun p => bif Nat.beq p.1 i && (lkE env0 i).isSome then some M else none
  | .oc k l => (lkM M.om k).bind fun x => (varC n O x.1 x.2).bind fun as_ => mtAs P ts true n0 env0 n env M l as_
  | _ => none
theorem mtO_ok {c0 : Cx} {ts : List Ty} {M M' : Mt} {o : KO} (h : mtO P ts c0.n c0.env n env O M o = some M') :
    Mt.Le M M' ∧ ∃ k p x, o.key = some k ∧ lkM M.om k = some (p, x) ∧ p < O.length ∧ Nat.blt x n = true ∧ ∀ {L : Nat → Nat → Option Dyn} {hs η : Nat → Hd}, Ext c0 ⟨n, env, η⟩ → MtSay L hs η M' → (oma ⟨n, env, η⟩ O)[p]? = some (o.ob c0 L hs) := by
  unfold mtO at h
  split at h
  · rename_i k j q
    obtain ⟨⟨p, x⟩, h1, h⟩ := Option.bind_eq_some_iff.1 h
    obtain ⟨⟨i, D⟩, h2, h⟩ := Option.bind_eq_some_iff.1 h
    obtain ⟨h3, h4⟩ := Mt.word_ok h
    obtain ⟨hb, hlt, _, hj⟩ := anyA_ok h2
    refine ⟨h3, k, p, x, rfl, h1, hlt, hb, fun {L hs η} hx hsay => ?_⟩
    rw [hj η]
    simp only [KO.ob, KA.sl, hsay.w _ _ _ h4, hsay.o _ _ _ (h3.o _ _ h1)]
  · rename_i k i0
    obtain ⟨⟨p, x⟩, h1, h⟩ := Option.bind_eq_some_iff.1 h
    obtain ⟨⟨i, D⟩, h2, h⟩ := Option.bind_eq_some_iff.1 h
    cases hbi : Nat.beq (i, D).1 i0 && (lkE c0.env i0).isSome with
    | false => rw [hbi] at h; cases h
    | true =>
      rw [hbi] at h; cases h
      simp only [Bool.and_eq_true] at hbi
      obtain rfl : i = i0 := Nat.eq_of_beq_eq_true hbi.1
      obtain ⟨e, he⟩ := Option.isSome_iff_exists.1 hbi.2
      obtain ⟨hb, hlt, ⟨s, hse⟩, hj⟩ := anyA_ok h2
      refine ⟨.refl _, k, p, x, rfl, h1, hlt, hb, fun {L hs η} hx hsay => ?_⟩
      have he' := hx.env i e he
      simp only at he'
      rw [hse] at he'
      obtain rfl := Option.some.inj he'
      rw [hj η]
      simp only [KO.ob, KA.sl, he, Option.map_some, hsay.o _ _ _ h1]
  · rename_i k l
    obtain ⟨⟨p, x⟩, h1, h⟩ := Option.bind_eq_some_iff.1 h
    obtain ⟨as_, h2, h⟩ := Option.bind_eq_some_iff.1 h
    obtain ⟨h3, h4⟩ := mtAs_ok h
    obtain ⟨hb, hlt, hj⟩ := varC_ok (env := env) h2
    refine ⟨h3, k, p, x, rfl, h1, hlt, hb, fun {L hs η} hx hsay => ?_⟩
    rw [hj η]
    simp only [KO.ob, hsay.o _ _ _ (h3.o _ _ h1)]
    rw [(h4 hx hsay).2 rfl]
  · cases h

def mtOs (P : Program) [PTab P] (ts : List Ty) (n0 : Nat) (env0 : List (Nat × Ent)) (n : Nat) (env : List (Nat × Ent)) (O : List MO) : Mt → List KO → Option Mt
  | M, [] => some M
  | M, o :: os => (mtO P ts n0 env0 n env O M o).bind fun M => mtOs P ts n0 env0 n env O M os
/-- where the objects stand -/
def posOs (M : Mt) : List KO → Option (List (Nat × Nat))
  | [] => some []
  | o :: os => (o.key.bind (lkM M.om)).bind fun x => (posOs M os).map (x :: ·)

theorem mtOs_ok {c0 : Cx} {ts : List Ty} : ∀ {os : List KO} {M M' : Mt}, mtOs P ts c0.n c0.env n env O M os = some M' →
    Mt.Le M M' ∧ ∀ {ps : List (Nat × Nat)}, posOs M' os = some ps → ps.length = os.length ∧ (∀ x ∈ ps, x.1 < O.length ∧ Nat.blt x.2 n = true) ∧ ∀ {L : Nat → Nat → Option Dyn} {hs η : Nat → Hd}, Ext c0 ⟨n, env, η⟩ → MtSay L hs η M' → ∀ (i : Nat) (p : Nat × Nat) (o : KO), ps[i]? = some p → os[i]? = some o → (oma ⟨n, env, η⟩ O)[p.1]? = some (o.ob c0 L hs)
  | [], M, M', h => by cases h; exact ⟨.refl _, fun hp => by cases hp; exact ⟨rfl, by simp, fun _ _ i p o h => by simp at h⟩⟩
  | o :: os, M, M', h => by
    simp only [mtOs] at h
    obtain ⟨M1, h1, h2⟩ := Option.bind_eq_some_iff.1 h
    obtain ⟨h3, k, p, x, hk, hm, hlt, hb, hat⟩ := mtO_ok h1
    obtain ⟨h5, h6⟩ := mtOs_ok h2
    refine ⟨h3.trans h5, fun {ps} hp => ?_⟩
    simp only [posOs, hk, Option.bind_some, h5.o _ _ (h3.o _ _ hm)] at hp
    obtain ⟨ps', hp', rfl⟩ := Option.map_eq_some_iff.1 hp
    obtain ⟨h7, h8, h9⟩ := h6 hp'
    refine ⟨by simp [h7], fun y hy => ?_, fun hx hsay i q o' hq ho' => ?_⟩
    · rcases List.mem_cons.1 hy with e | e
      · rw [e]; exact ⟨hlt, hb⟩
      · exact h8 y e
    · cases i with
      | zero =>
        simp only [List.getElem?_cons_zero, Option.some.injEq] at hq ho'
        subst hq; subst ho'
        exact hat hx (hsay.le h5)
      | succ i => exact h9 hx hsay i q o' (by simpa using hq) (by simpa using ho')

/-! ### the tuple -/
def wordsN (ws : List ((Nat × Nat) × Dyn)) (j : Nat) : Nat → Nat → Option (List Dyn)
  | _, 0 => some []
  | q, k + 1 => (lkW ws j q).bind fun D => (wordsN ws j (q + 1) k).map (D :: ·)
theorem wordsN_get {ws : List ((Nat × Nat) × Dyn)} {j : Nat} : ∀ {k q : Nat} {l : List Dyn}, wordsN ws j q k = some l → l.length = k ∧ ∀ i, i < k → l[i]? = lkW ws j (q + i)
  | 0, q, l, h => by cases h; exact ⟨rfl, fun i hi => by omega⟩
  | k + 1, q, l, h => by
    simp only [wordsN] at h
    obtain ⟨D, h1, h2⟩ := Option.bind_eq_some_iff.1 h
    obtain ⟨l', h3, rfl⟩ := Option.map_eq_some_iff.1 h2
    obtain ⟨h4, h5⟩ := wordsN_get h3
    refine ⟨by simp [h4], fun i hi => ?_⟩
    cases i with
    | zero => simp [h1]
    | succ i => simp only [List.getElem?_cons_succ]; rw [h5 i (by omega)]; congr 1; omega

def comp (P : Program) [PTab P] (ws : List ((Nat × Nat) × Dyn)) (j : Nat) (t : Ty) : Option t.den := match t with
  | .st k => (wordsN ws j 0 (PTab.fts P k).length).bind (PTab.join (P := P) k)
  | t => (lkW ws j 0).bind fun D => if h : D.t = t then some (h ▸ D.d) else none
def nleaf (P : Program) [PTab P] : Ty → Nat
  | .st k => (PTab.fts P k).length
  | _ => 1
theorem comp_get {ws : List ((Nat × Nat) × Dyn)} {j q : Nat} {t : Ty} {d : t.den} {D : Dyn} (h : comp P ws j t = some d) (hD : lkW ws j q = some D) (hq : q < nleaf P t) : (leaves P ⟨t, d⟩)[q]? = some D := by
  have one : ∀ {t : Ty} {d : t.den}, ((lkW ws j 0).bind fun D => if h : D.t = t then some (h ▸ D.d) else none) = some d → q < 1 → ([(⟨t, d⟩ : Dyn)])[q]? = some D := by
    intro t d h hq
    obtain rfl : q = 0 := by omega
    rw [hD] at h
    simp only [Option.bind_some] at h
    split at h
    · rename_i e; subst e; cases h; rfl
    · cases h
  cases t with
  | st k =>
    simp only [comp] at h
    obtain ⟨l, h1, h2⟩ := Option.bind_eq_some_iff.1 h
    have h3 : PTab.split (P := P) k d = l := PTab.join_ok' k l d h2
    show (PTab.split (P := P) k d)[q]? = _
    rw [h3, (wordsN_get h1).2 q hq, Nat.zero_add, hD]
  | int k => exact one h hq
  | bool => exact one h hq
  | str => exact one h hq
  | sl t => exact one h hq
  | op t => exact one h hq
  | mp k v => exact one h hq
  | vec k => exact one h hq

def wsOk (P : Program) [PTab P] (ts : List Ty) : List ((Nat × Nat) × Dyn) → Bool
  | [] => true
  | ((j, q), _) :: r => (match ts[j]? with | some t => Nat.blt q (nleaf P t) | none => false) && wsOk P ts r
theorem wsOk_get {ts : List Ty} : ∀ {ws : List ((Nat × Nat) × Dyn)}, wsOk P ts ws = true → ∀ {j q : Nat} {D : Dyn}, lkW ws j q = some D → ∃ t, ts[j]? = some t ∧ q < nleaf P t
  | [], _, j, q, D, h => by cases h
  | ((j', q'), D') :: r, hw, j, q, D, h => by
    simp only [wsOk, Bool.and_eq_true] at hw
    simp only [lkW] at h
    cases hb : Nat.beq j' j && Nat.beq q' q with
    | false => rw [hb] at h; exact wsOk_get hw.2 h
    | true =>
      simp only [Bool.and_eq_true] at hb
      obtain rfl := Nat.eq_of_beq_eq_true hb.1
      obtain rfl := Nat.eq_of_beq_eq_true hb.2
      have h1 := hw.1
      split at h1
      · rename_i t ht; exact ⟨t, ht, by simpa [Nat.blt_eq] using h1⟩
      · cases h1

theorem tupGet_ty : ∀ {ts : List Ty} {a : Tup ts} {j : Nat} {t : Ty}, ts[j]? = some t → ∃ d, tupGet ts a j = some ⟨t, d⟩
  | [], _, _, _, h => by simp at h
  | [t], a, 0, _, h => by simp at h; subst h; exact ⟨a, rfl⟩
  | [t], a, j + 1, _, h => by simp at h
  | t :: u :: ts, a, 0, _, h => by simp at h; subst h; exact ⟨a.1, rfl⟩
  | t :: u :: ts, a, j + 1, _, h => tupGet_ty (ts := u :: ts) (a := a.2) (j := j) (by simpa using h)

/-- the tuple of what was found -/
def Mt.tup (P : Program) [PTab P] (M : Mt) (ts : List Ty) : Option (Tup ts) := bif wsOk P ts M.ws then tupMk ts (fun j t => comp P M.ws j t) 0 else none
theorem Mt.tup_ok {M : Mt} {ts : List Ty} {a : Tup ts} (h : M.tup P ts = some a) {j q : Nat} {D : Dyn} (hD : lkW M.ws j q = some D) : leaf P ts a j q = some D := by
  unfold Mt.tup at h
  cases hb : wsOk P ts M.ws with
  | false => rw [hb] at h; cases h
  | true =>
    rw [hb] at h
    obtain ⟨t, ht, hq⟩ := wsOk_get hb hD
    obtain ⟨d, hd⟩ := tupGet_ty (a := a) ht
    have h1 := tupMk_get h hd
    rw [Nat.zero_add] at h1
    unfold leaf
    rw [hd]
    exact comp_get h1 hD hq

/-- handles by what was found -/
def Mt.hs (M : Mt) (η : Nat → Hd) : Nat → Hd := fun k => match lkM M.om k with
  | some x => η x.2
  | none => ⟨.bool true, [], 0, rfl⟩
theorem Mt.say {M : Mt} {ts : List Ty} {a : Tup ts} (h : M.tup P ts = some a) (η : Nat → Hd) : MtSay (leaf P ts a) (M.hs η) η M :=
  ⟨fun j q D hD => M.tup_ok h hD, fun k o x hk => by simp only [Mt.hs, hk]⟩
end Go.Dc

/-! Calls by contract. -/
namespace Go.Dc
section
variable [DrawMode] {P : Program} [PTab P] {E : Env} {N : Nat} {op : Op} {ty : TypeId} {n : Nat} {env : List (Nat × Ent)} {G : List (Nat × Sh)} {O : List MO}

/-! ### arguments -/
def opds (G : List (Nat × Sh)) : List Operand → Option (List Sh)
  | [] => some []
  | x :: xs => (opd G x).bind fun s => (opds G xs).map (s :: ·)
def capSh : Cap → Sh
  | .ptr o h => .vl false [.ptr o h 0]
  | .fn f => .vl false [.fn f []]
  | .nilp => .vl false [.nilp]
theorem capSh_ok {c : Cx} {k : Cap} (h : Cap.ok c.n k = true) {F : FP} {w : World} : ((capSh k).rp c).h F w (k.val c.η) := by
  cases k with
  | ptr o x =>
    have hb : Nat.blt x c.n = true := h
    show ((At.ptr o x 0).rp c).h F w _
    rw [ptr_rp hb]; rfl
  | fn f => rfl
  | nilp => rfl
theorem argsOk {c : Cx} {Ω : List OB} : ∀ {xs : List Operand} {cs : List Cap} {ss : List Sh} {φs : List RP}, opds G xs = some ss → cs.all (Cap.ok c.n) = true → ImpAll ((ss ++ cs.map capSh).map (Sh.rp c)) φs →
    ArgsOk E N (gma c G) Ω frF (xs ++ (cs.map (Cap.val c.η)).map .const) φs
  | [], [], ss, φs, h, _, hi => by
    cases h
    match φs, hi with
    | [], _ => trivial
  | [], k :: cs, ss, φs, h, hc, hi => by
    cases h
    simp only [List.all_cons, Bool.and_eq_true] at hc
    match φs, hi with
    | φ :: φs, ⟨h1, h2⟩ => exact ⟨fun a w hs => h1 (capSh_ok (c := c) hc.1), argsOk (xs := []) (ss := []) rfl hc.2 h2⟩
  | x :: xs, cs, ss, φs, h, hc, hi => by
    simp only [opds] at h
    obtain ⟨s, h1, h2⟩ := Option.bind_eq_some_iff.1 h
    obtain ⟨ss', h3, rfl⟩ := Option.map_eq_some_iff.1 h2
    match φs, hi with
    | φ :: φs, ⟨h4, h5⟩ => exact ⟨fun a w hs => h4 (hs.op (opd_rp h1)), argsOk h3 hc h5⟩

/-! ### what comes back -/
def KA.words : KA → List (Nat × Nat)
  | .d j q => [(j, q)]
  | .pj j 0 => [(j, 0)]
  | .vs _ _ j q _ => [(j, q)]
  | _ => []
def KO.words : KO → List (Nat × Nat)
  | .oa _ w => w.words
  | .oc _ l => l.flatMap KA.words
  | _ => []
def Con.wl [SDen] (C : Con) : List (Nat × Nat) := C.rs.flatMap (fun v => v.2.flatMap KA.words) ++ C.os'.flatMap KO.words
def leafs (P : Program) [PTab P] (ts : List Ty) (r : Tup ts) : List (Nat × Nat) → Option (List Dyn)
  | [] => some []
  | (j, q) :: l => (leaf P ts r j q).bind fun D => (leafs P ts r l).map (D :: ·)
theorem leafs_get {ts : List Ty} {r : Tup ts} : ∀ {l : List (Nat × Nat)} {Ds : List Dyn}, leafs P ts r l = some Ds → Ds.length = l.length ∧ ∀ {i : Nat} {p : Nat × Nat}, l[i]? = some p → ∃ D, Ds[i]? = some D ∧ leaf P ts r p.1 p.2 = some D
  | [], _, h => by cases h; exact ⟨rfl, fun h => by simp at h⟩
  | (j, q) :: l, Ds, h => by
    simp only [leafs] at h
    obtain ⟨D, h1, h2⟩ := Option.bind_eq_some_iff.1 h
    obtain ⟨Ds', h3, rfl⟩ := Option.map_eq_some_iff.1 h2
    obtain ⟨h4, h5⟩ := leafs_get h3
    refine ⟨by simp [h4], fun {i p} hp => ?_⟩
    cases i with
    | zero => simp only [List.getElem?_cons_zero, Option.some.injEq] at hp; subst hp; exact ⟨D, rfl, h1⟩
    | succ i => exact h5 (by simpa using hp)
def ixW : List (Nat × Nat) → Nat → Nat → Nat → Option Nat
  | [], _, _, _ => none
  | (j, q) :: l, i, p, k => bif Nat.beq j i && Nat.beq q p then some k else ixW l i p (k + 1)
theorem ixW_get : ∀ {l : List (Nat × Nat)} {j q k i : Nat}, ixW l j q k = some i → k ≤ i ∧ l[i - k]? = some (j, q)
  | [], _, _, _, _, h => by cases h
  | (j', q') :: l, j, q, k, i, h => by
    simp only [ixW] at h
    cases hb : Nat.beq j' j && Nat.beq q' q with
    | true =>
      rw [hb] at h; cases h
      simp only [Bool.and_eq_true] at hb
      obtain rfl := Nat.eq_of_beq_eq_true hb.1
      obtain rfl := Nat.eq_of_beq_eq_true hb.2
      exact ⟨Nat.le_refl _, by simp⟩
    | false =>
      rw [hb] at h
      obtain ⟨h1, h2⟩ := ixW_get h
      refine ⟨by omega, ?_⟩
      rw [show i - k = (i - (k + 1)) + 1 from by omega]
      simpa using h2

end
section
variable [SRep] [DrawMode]
/-- names for what comes back -/
structure Bk where
  n0 : Nat
  env0 : List (Nat × Ent)
  n : Nat
  wl : List (Nat × Nat)
  om : List (Nat × (Nat × Nat))
  nh : Nat
  nh' : Nat
  pos : Nat → Nat
def Bk.hid (B : Bk) (k : Nat) : Option Nat := bif Nat.blt k B.nh then (match lkM B.om k with
    | some (_, h) => bif Nat.blt h B.n then some h else none
    | none => none) else bif Nat.blt k B.nh' then some (B.n + B.wl.length + (k - B.nh)) else none
def Bk.caps (B : Bk) : List (Option Nat) → Option (List Cap)
  | [] => some []
  | none :: l => (B.caps l).map (.nilp :: ·)
  | some k :: l => (B.hid k).bind fun h => (B.caps l).map (.ptr (B.pos k) h :: ·)
def Bk.at (B : Bk) : KA → Option At
  | .d j q => (ixW B.wl j q 0).map fun i => .vr (B.n + i)
  | .own k => (B.hid k).map fun h => .own (B.pos k) h
  | .ptr k => (B.hid k).map fun h => .ptr (B.pos k) h 0
  | .mp k => (B.hid k).map fun h => .mp (B.pos k) h
  | .fn f cs => (B.caps cs).map (.fn f)
  | .nl => some .nl
  | .nilp => some .nilp
  | .nilf => some .nilf
  | .pj j q => (ixW B.wl j 0 0).map fun i => .pj (B.n + i) q
  | .vs k off j q c => (B.hid k).bind fun h => (ixW B.wl j q 0).map fun i => .vs (B.pos k) h off (B.n + i) c
  | .fx a => bif a.clo B.n0 B.env0 then some a else none
def Bk.ats (B : Bk) : List KA → Option (List At)
  | [] => some []
  | k :: l => (B.at k).bind fun a => (B.ats l).map (a :: ·)
def Bk.vals (B : Bk) : List (Bool × List KA) → Option (List (Bool × List At))
  | [] => some []
  | (g, l) :: r => (B.ats l).bind fun as_ => (B.vals r).map ((g, as_) :: ·)
def Bk.obj (B : Bk) : KO → Option MO
  | .dead => some .dead
  | .same => none
  | .oa k (.d j q) => (B.hid k).bind fun h => (ixW B.wl j q 0).map fun i => .oa h (B.n + i)
  | .oa k (.fx (.vr i)) => (B.hid k).bind fun h => bif (lkE B.env0 i).isSome then some (.oa h i) else none
  | .oa _ _ => none
  | .oc k l => (B.hid k).bind fun h => (B.ats l).map fun as_ => .oc h as_
/-- objects that were given, and new ones -/
def Bk.objs (B : Bk) (O : List MO) : List Nat → List KO → Option (List MO × List MO)
  | p :: ps, .same :: os => (O[p]?).bind fun o => (B.objs O ps os).map fun r => (o :: r.1, r.2)
  | _ :: ps, o :: os => (B.obj o).bind fun m => (B.objs O ps os).map fun r => (m :: r.1, r.2)
  | [], o :: os => (B.obj o).bind fun m => (B.objs O [] os).map fun r => (r.1, m :: r.2)
  | [], [] => some ([], [])
  | _ :: _, [] => none

/-- what the names say -/
structure BkSay (B : Bk) (L : Nat → Nat → Option Dyn) (hs : Nat → Hd) (c0 c : Cx) : Prop where
  n0 : B.n0 = c0.n
  env0 : B.env0 = c0.env
  x : Ext c0 c
  w : ∀ j q i, ixW B.wl j q 0 = some i → ∃ D, lkE c.env (B.n + i) = some ⟨D.t, D.d, none⟩ ∧ L j q = some D ∧ D.t.one = true
  h : ∀ k x, B.hid k = some x → c.η x = hs k ∧ Nat.blt x c.n = true

section
variable {B : Bk} {L : Nat → Nat → Option Dyn} {hs : Nat → Hd} {c0 c : Cx}
theorem BkSay.caps (H : BkSay B L hs c0 c) : ∀ {l : List (Option Nat)} {cs : List Cap}, B.caps l = some cs → cs.map (Cap.val c.η) = l.map (kcap hs) ∧ cs.all (Cap.ok c.n) = true
  | [], _, h => by cases h; exact ⟨rfl, rfl⟩
  | none :: l, cs, h => by
    simp only [Bk.caps] at h
    obtain ⟨cs', h1, rfl⟩ := Option.map_eq_some_iff.1 h
    obtain ⟨h2, h3⟩ := H.caps h1
    exact ⟨by rw [List.map_cons, List.map_cons, h2]; rfl, by simp [h3, Cap.ok]⟩
  | some k :: l, cs, h => by
    simp only [Bk.caps] at h
    obtain ⟨x, h0, h⟩ := Option.bind_eq_some_iff.1 h
    obtain ⟨cs', h1, rfl⟩ := Option.map_eq_some_iff.1 h
    obtain ⟨h2, h3⟩ := H.caps h1
    obtain ⟨h4, h5⟩ := H.h _ _ h0
    refine ⟨by rw [List.map_cons, List.map_cons, h2]; simp only [kcap, Cap.val, h4], ?_⟩
    rw [List.all_cons, h3]
    show (Nat.blt x c.n && true) = true
    rw [h5]; rfl
theorem BkSay.at (H : BkSay B L hs c0 c) {k : KA} {a : At} (h : B.at k = some a) : a.rp c = k.rp c0 L hs := by
  cases k with
  | d j q =>
    simp only [Bk.at] at h
    obtain ⟨i, h1, rfl⟩ := Option.map_eq_some_iff.1 h
    obtain ⟨D, h2, h3, h4⟩ := H.w _ _ _ h1
    simp only [At.rp, h2, h4, cond_true, KA.rp, h3, Dyn.rp]
  | own k =>
    obtain ⟨x, h1, rfl⟩ := Option.map_eq_some_iff.1 h
    obtain ⟨h2, h3⟩ := H.h _ _ h1
    rw [own_rp h3, h2]; rfl
  | ptr k =>
    obtain ⟨x, h1, rfl⟩ := Option.map_eq_some_iff.1 h
    obtain ⟨h2, h3⟩ := H.h _ _ h1
    rw [ptr_rp h3, h2]; rfl
  | mp k =>
    obtain ⟨x, h1, rfl⟩ := Option.map_eq_some_iff.1 h
    obtain ⟨h2, h3⟩ := H.h _ _ h1
    simp only [At.rp, h3, cond_true, h2]; rfl
  | fn f cs =>
    obtain ⟨ds, h1, rfl⟩ := Option.map_eq_some_iff.1 h
    obtain ⟨h2, h3⟩ := H.caps h1
    simp only [At.rp, h3, cond_true, h2]; rfl
  | nl => cases h; rfl
  | nilp => cases h; rfl
  | nilf => cases h; rfl
  | pj j q =>
    obtain ⟨i, h1, rfl⟩ := Option.map_eq_some_iff.1 h
    obtain ⟨⟨t, d⟩, h2, h3, h4⟩ := H.w _ _ _ h1
    simp only [At.rp, h2, KA.rp, h3]
    cases t <;> rfl
  | vs k off j q cp =>
    simp only [Bk.at] at h
    obtain ⟨x, h0, h⟩ := Option.bind_eq_some_iff.1 h
    obtain ⟨i, h1, rfl⟩ := Option.map_eq_some_iff.1 h
    obtain ⟨⟨t, d⟩, h2, h3, h4⟩ := H.w _ _ _ h1
    obtain ⟨h5, h6⟩ := H.h _ _ h0
    simp only [At.rp, h2, KA.rp, h3]
    cases t with
    | int kd => simp only [h6, cond_true, h5]
    | _ => rfl
  | fx a' =>
    simp only [Bk.at] at h
    cases hb : a'.clo B.n0 B.env0 with
    | false => rw [hb] at h; cases h
    | true =>
      rw [hb] at h; cases h
      rw [H.n0, H.env0] at hb
      exact At.clo_ok H.x hb
theorem BkSay.ats (H : BkSay B L hs c0 c) : ∀ {l : List KA} {as_ : List At}, B.ats l = some as_ → as_.map (At.rp c) = l.map (KA.rp c0 L hs)
  | [], _, h => by cases h; rfl
  | k :: l, as_, h => by
    simp only [Bk.ats] at h
    obtain ⟨a, h1, h2⟩ := Option.bind_eq_some_iff.1 h
    obtain ⟨as_', h3, rfl⟩ := Option.map_eq_some_iff.1 h2
    rw [List.map_cons, List.map_cons, H.at h1, H.ats h3]
theorem BkSay.vals (H : BkSay B L hs c0 c) : ∀ {l : List (Bool × List KA)} {vs : List (Bool × List At)}, B.vals l = some vs → (vs.map fun x => vrp c x.1 x.2) = l.map (kvrp c0 L hs)
  | [], _, h => by cases h; rfl
  | (g, l) :: r, vs, h => by
    simp only [Bk.vals] at h
    obtain ⟨as_, h1, h2⟩ := Option.bind_eq_some_iff.1 h
    obtain ⟨vs', h3, rfl⟩ := Option.map_eq_some_iff.1 h2
    rw [List.map_cons, List.map_cons, H.vals h3]
    simp only [vrp, kvrp]
    rw [H.ats h1]
theorem BkSay.obj (H : BkSay B L hs c0 c) {o : KO} {m : MO} (h : B.obj o = some m) : m.ob c = o.ob c0 L hs := by
  cases o with
  | dead => cases h; rfl
  | same => cases h
  | oa k w =>
    unfold Bk.obj at h
    split at h
    · rename_i e0; cases e0
    · cases h
    · rename_i k j q e0
      cases e0
      obtain ⟨x, h1, h2⟩ := Option.bind_eq_some_iff.1 h
      obtain ⟨i, h3, rfl⟩ := Option.map_eq_some_iff.1 h2
      obtain ⟨h4, h5⟩ := H.h _ _ h1
      obtain ⟨D, h6, h7, _⟩ := H.w _ _ _ h3
      simp only [MO.ob, h6, KO.ob, KA.sl, h7, h5, cond_true, h4]
    · rename_i k i e0
      cases e0
      obtain ⟨x, h1, h2⟩ := Option.bind_eq_some_iff.1 h
      cases hb : (lkE B.env0 i).isSome with
      | false => rw [hb] at h2; cases h2
      | true =>
        rw [hb] at h2; cases h2
        rw [H.env0] at hb
        obtain ⟨e, he⟩ := Option.isSome_iff_exists.1 hb
        obtain ⟨h4, h5⟩ := H.h _ _ h1
        simp only [MO.ob, H.x.env i e he, KO.ob, KA.sl, he, Option.map_some, h5, cond_true, h4]
    · cases h
    · rename_i e0; cases e0
  | oc k l =>
    simp only [Bk.obj] at h
    obtain ⟨x, h1, h2⟩ := Option.bind_eq_some_iff.1 h
    obtain ⟨as_, h3, rfl⟩ := Option.map_eq_some_iff.1 h2
    obtain ⟨h4, h5⟩ := H.h _ _ h1
    simp only [MO.ob, h5, cond_true, h4, KO.ob, H.ats h3]
end

end
section
variable [DrawMode] {P : Program} [PTab P] {E : Env} {N : Nat} {op : Op} {ty : TypeId} {n : Nat} {env : List (Nat × Ent)} {G : List (Nat × Sh)} {O : List MO}
/-! ### several objects written at once -/
theorem setAll_self : ∀ {js : List Nat} {os Ω : List OB} {i j : Nat} {o : OB}, js[i]? = some j → os[i]? = some o → hasN (js.drop (i + 1)) j = false → j < Ω.length → (setAll js os Ω)[j]? = some o
  | [], _, _, i, _, _, h, _, _, _ => by simp at h
  | _ :: _, [], _, i, _, _, _, h, _, _ => by simp at h
  | k :: js, p :: os, Ω, 0, j, o, h1, h2, h3, h4 => by
    simp only [List.getElem?_cons_zero, Option.some.injEq] at h1 h2
    subst h1; subst h2
    simp only [setAll]
    rw [setAll_out (fun hh => by simp only [List.drop_succ_cons, List.drop_zero] at h3; rw [hasN_iff.2 hh] at h3; cases h3), List.getElem?_set_self h4]
  | k :: js, p :: os, Ω, i + 1, j, o, h1, h2, h3, h4 => by
    simp only [setAll]
    exact setAll_self (i := i) (by simpa using h1) (by simpa using h2) (by simpa using h3) (by simpa using h4)

def nodupN : List Nat → Bool
  | [] => true
  | j :: js => !hasN js j && nodupN js
theorem nodupN_drop : ∀ {js : List Nat}, nodupN js = true → ∀ {i j : Nat}, js[i]? = some j → hasN (js.drop (i + 1)) j = false
  | [], _, i, j, h => by simp at h
  | k :: js, hn, 0, j, h => by
    simp only [nodupN, Bool.and_eq_true, Bool.not_eq_true'] at hn
    simp only [List.getElem?_cons_zero, Option.some.injEq] at h
    subst h; simpa using hn.1
  | k :: js, hn, i + 1, j, h => by
    simp only [nodupN, Bool.and_eq_true] at hn
    simpa using nodupN_drop hn.2 (i := i) (by simpa using h)

theorem updO_len : ∀ {l : List (Nat × MO)} {O : List MO}, (updO l O).length = O.length
  | [], _ => rfl
  | (j, o) :: l, O => by simp only [updO]; rw [updO_len]; simp
theorem updO_out {i : Nat} : ∀ {l : List (Nat × MO)} {O : List MO}, i ∉ l.map (·.1) → (updO l O)[i]? = O[i]?
  | [], _, _ => rfl
  | (j, o) :: l, O, h => by
    simp only [List.map_cons, List.mem_cons, not_or] at h
    simp only [updO]
    rw [updO_out h.2, List.getElem?_set_ne (Ne.symm h.1)]
theorem updO_self : ∀ {js : List Nat} {ms : List MO} {O : List MO} {i j : Nat} {m : MO}, js[i]? = some j → ms[i]? = some m → hasN (js.drop (i + 1)) j = false → j < O.length → js.length = ms.length → (updO (js.zip ms) O)[j]? = some m
  | [], _, _, i, _, _, h, _, _, _, _ => by simp at h
  | _ :: _, [], _, i, _, _, _, h, _, _, _ => by simp at h
  | k :: js, p :: ms, O, 0, j, m, h1, h2, h3, h4, h5 => by
    simp only [List.getElem?_cons_zero, Option.some.injEq] at h1 h2
    subst h1; subst h2
    simp only [List.zip_cons_cons, updO]
    rw [updO_out, List.getElem?_set_self h4]
    intro hm
    simp only [List.drop_succ_cons, List.drop_zero] at h3
    have : k ∈ js := by
      obtain ⟨x, hx, e⟩ := List.mem_map.1 hm
      rw [← e]; exact (List.of_mem_zip hx).1
    rw [hasN_iff.2 this] at h3; cases h3
  | k :: js, p :: ms, O, i + 1, j, m, h1, h2, h3, h4, h5 => by
    simp only [List.zip_cons_cons, updO]
    exact updO_self (i := i) (by simpa using h1) (by simpa using h2) (by simpa using h3) (by simpa using h4) (by simpa using h5)

theorem oma_setAll {c c' : Cx} (hx : Ext c c') {O : List MO} {Γ : List (Nat × RP)} {a : Act} {w : World} {js : List Nat} {ms : List MO} {obs : List OB} {new : List MO} {ex : List OB} (hnd : nodupN js = true) (hlt : ∀ j ∈ js, j < O.length)
    (hl : js.length = ms.length) (hl' : js.length = obs.length) (hm : ∀ (i : Nat) (m : MO) (o : OB), ms[i]? = some m → obs[i]? = some o → m.ob c' = o) (hn : new.map (MO.ob c') = ex)
    (hs : Sat E N Γ (setAll js obs (oma c O) ++ ex) a w) : oma c' (updO (js.zip ms) O ++ new) = setAll js obs (oma c O) ++ ex := by
  unfold oma at hs ⊢
  rw [List.map_append, hn]
  congr 1
  refine List.ext_getElem? fun j => ?_
  rw [List.getElem?_map]
  by_cases hj : j ∈ js
  · obtain ⟨i, hi⟩ := List.mem_iff_getElem?.1 hj
    have hil : i < js.length := (List.getElem?_eq_some_iff.1 hi).1
    obtain ⟨m, hm1⟩ : ∃ m, ms[i]? = some m := ⟨ms[i]'(by omega), List.getElem?_eq_getElem (by omega)⟩
    obtain ⟨o, ho1⟩ : ∃ o, obs[i]? = some o := ⟨obs[i]'(by omega), List.getElem?_eq_getElem (by omega)⟩
    rw [updO_self hi hm1 (nodupN_drop hnd hi) (hlt j hj) hl, setAll_self hi ho1 (nodupN_drop hnd hi) (by simpa using hlt j hj)]
    simp only [Option.map_some]
    rw [hm i m o hm1 ho1]
  · rw [updO_out, setAll_out hj, List.getElem?_map]
    · cases ho : O[j]? with
      | none => rfl
      | some q =>
        simp only [Option.map_some]
        have hq : (setAll js obs (O.map (MO.ob c)) ++ ex)[j]? = some (q.ob c) := by
          rw [List.getElem?_append_left (by rw [setAll_len, List.length_map]; exact (List.getElem?_eq_some_iff.1 ho).1), setAll_out hj, List.getElem?_map, ho]; rfl
        rw [MO.ob_eq hx (hs.ob _ (List.mem_of_getElem? hq))]
    · intro hm
      obtain ⟨x, hx', e⟩ := List.mem_map.1 hm
      exact hj (by rw [← e]; exact (List.of_mem_zip hx').1)
end
end Go.Dc

/-! Calls by contract, whole. -/
namespace Go.Dc
variable [DrawMode] {P : Program} [PTab P] {E : Env} {N : Nat} {op : Op} {ty : TypeId} {n : Nat} {env : List (Nat × Ent)} {G : List (Nat × Sh)} {O : List MO}

theorem Bk.objs_ok {B : Bk} {Li Lo : Nat → Nat → Option Dyn} {hs0 hs : Nat → Hd} {c' : Cx} {O : List MO} (H : BkSay B Lo hs cx0 c') : ∀ {os' : List KO} {os : List KO} {ps : List Nat} {ms new : List MO}, B.objs O ps os' = some (ms, new) → ps.length = os.length →
    ms.length = ps.length ∧ (kafter Li Lo hs0 hs os os').length = ms.length + new.length ∧
    (∀ (i : Nat) (m : MO) (o : OB), ms[i]? = some m → ((kafter Li Lo hs0 hs os os').take ps.length)[i]? = some o → m.ob c' = o ∨ (∃ p q k, ps[i]? = some p ∧ O[p]? = some q ∧ m = q ∧ os[i]? = some k ∧ o = k.ob cx0 Li hs0)) ∧
    new.map (MO.ob c') = (kafter Li Lo hs0 hs os os').drop ps.length
  | [], os, [], ms, new, h, hl => by
    cases h
    cases os with
    | nil => exact ⟨rfl, rfl, fun i m o h => by simp at h, rfl⟩
    | cons _ _ => simp at hl
  | [], _, _ :: _, _, _, h, _ => by cases h
  | o :: os', [], [], ms, new, h, hl => by
    have hh : (B.obj o).bind (fun m => (B.objs O [] os').map fun r => (r.1, m :: r.2)) = some (ms, new) := by cases o <;> exact h
    obtain ⟨m, h1, h2⟩ := Option.bind_eq_some_iff.1 hh
    obtain ⟨⟨a, b⟩, h3, h4⟩ := Option.map_eq_some_iff.1 h2
    cases h4
    obtain ⟨h5, h6, h7, h8⟩ := Bk.objs_ok (Li := Li) (hs0 := hs0) H (os := []) h3 rfl
    have hk : kafter Li Lo hs0 hs [] (o :: os') = o.ob cx0 Lo hs :: kafter Li Lo hs0 hs [] os' := by cases o <;> rfl
    rw [hk]
    refine ⟨h5, by simp only [List.length_cons, h6]; omega, fun i m' o' hm' ho' => ?_, ?_⟩
    · have h9 := (List.getElem?_eq_some_iff.1 hm').1
      simp only [h5, List.length_nil] at h9; omega
    · simp only [List.map_cons, List.length_nil, List.drop_zero] at h8 ⊢
      rw [h8, H.obj h1]
  | o :: os', [], _ :: _, ms, new, h, hl => by simp at hl
  | o :: os', _ :: _, [], ms, new, h, hl => by simp at hl
  | .same :: os', k :: os, p :: ps, ms, new, h, hl => by
    have hh : (O[p]?).bind (fun o => (B.objs O ps os').map fun r => (o :: r.1, r.2)) = some (ms, new) := h
    obtain ⟨q, h1, h2⟩ := Option.bind_eq_some_iff.1 hh
    obtain ⟨⟨a, b⟩, h3, h4⟩ := Option.map_eq_some_iff.1 h2
    cases h4
    obtain ⟨h5, h6, h7, h8⟩ := Bk.objs_ok (Li := Li) (hs0 := hs0) H (os := os) h3 (by simpa using hl)
    have hk : kafter Li Lo hs0 hs (k :: os) (.same :: os') = k.ob cx0 Li hs0 :: kafter Li Lo hs0 hs os os' := rfl
    rw [hk]
    refine ⟨by simp [h5], by simp only [List.length_cons, h6]; omega, fun i m' o' hm' ho' => ?_, ?_⟩
    · cases i with
      | zero =>
        simp only [List.getElem?_cons_zero, Option.some.injEq, List.length_cons, List.take_succ_cons] at hm' ho'
        subst hm'; subst ho'
        exact .inr ⟨p, q, k, by simp, h1, rfl, by simp, rfl⟩
      | succ i =>
        simp only [List.getElem?_cons_succ, List.length_cons, List.take_succ_cons] at hm' ho' ⊢
        exact h7 i m' o' hm' ho'
    · simpa using h8
  | .dead :: os', k :: os, p :: ps, ms, new, h, hl => by
    have hh : (B.obj .dead).bind (fun m => (B.objs O ps os').map fun r => (m :: r.1, r.2)) = some (ms, new) := h
    obtain ⟨q, h1, h2⟩ := Option.bind_eq_some_iff.1 hh
    obtain ⟨⟨a, b⟩, h3, h4⟩ := Option.map_eq_some_iff.1 h2
    cases h4
    obtain ⟨h5, h6, h7, h8⟩ := Bk.objs_ok (Li := Li) (hs0 := hs0) H (os := os) h3 (by simpa using hl)
    have hk : kafter Li Lo hs0 hs (k :: os) (.dead :: os') = KO.dead.ob cx0 Lo hs :: kafter Li Lo hs0 hs os os' := rfl
    rw [hk]
    refine ⟨by simp [h5], by simp only [List.length_cons, h6]; omega, fun i m' o' hm' ho' => ?_, by simpa using h8⟩
    cases i with
    | zero =>
      simp only [List.getElem?_cons_zero, Option.some.injEq, List.length_cons, List.take_succ_cons] at hm' ho'
      subst hm'; subst ho'
      exact .inl (H.obj h1)
    | succ i =>
      simp only [List.getElem?_cons_succ, List.length_cons, List.take_succ_cons] at hm' ho' ⊢
      exact h7 i m' o' hm' ho'
  | .oa x w :: os', k :: os, p :: ps, ms, new, h, hl => by
    have hh : (B.obj (.oa x w)).bind (fun m => (B.objs O ps os').map fun r => (m :: r.1, r.2)) = some (ms, new) := h
    obtain ⟨q, h1, h2⟩ := Option.bind_eq_some_iff.1 hh
    obtain ⟨⟨a, b⟩, h3, h4⟩ := Option.map_eq_some_iff.1 h2
    cases h4
    obtain ⟨h5, h6, h7, h8⟩ := Bk.objs_ok (Li := Li) (hs0 := hs0) H (os := os) h3 (by simpa using hl)
    have hk : kafter Li Lo hs0 hs (k :: os) (.oa x w :: os') = (KO.oa x w).ob cx0 Lo hs :: kafter Li Lo hs0 hs os os' := rfl
    rw [hk]
    refine ⟨by simp [h5], by simp only [List.length_cons, h6]; omega, fun i m' o' hm' ho' => ?_, by simpa using h8⟩
    cases i with
    | zero =>
      simp only [List.getElem?_cons_zero, Option.some.injEq, List.length_cons, List.take_succ_cons] at hm' ho'
      subst hm'; subst ho'
      exact .inl (H.obj h1)
    | succ i =>
      simp only [List.getElem?_cons_succ, List.length_cons, List.take_succ_cons] at hm' ho' ⊢
      exact h7 i m' o' hm' ho'
  | .oc x l :: os', k :: os, p :: ps, ms, new, h, hl => by
    have hh : (B.obj (.oc x l)).bind (fun m => (B.objs O ps os').map fun r => (m :: r.1, r.2)) = some (ms, new) := h
    obtain ⟨q, h1, h2⟩ := Option.bind_eq_some_iff.1 hh
    obtain ⟨⟨a, b⟩, h3, h4⟩ := Option.map_eq_some_iff.1 h2
    cases h4
    obtain ⟨h5, h6, h7, h8⟩ := Bk.objs_ok (Li := Li) (hs0 := hs0) H (os := os) h3 (by simpa using hl)
    have hk : kafter Li Lo hs0 hs (k :: os) (.oc x l :: os') = (KO.oc x l).ob cx0 Lo hs :: kafter Li Lo hs0 hs os os' := rfl
    rw [hk]
    refine ⟨by simp [h5], by simp only [List.length_cons, h6]; omega, fun i m' o' hm' ho' => ?_, by simpa using h8⟩
    cases i with
    | zero =>
      simp only [List.getElem?_cons_zero, Option.some.injEq, List.length_cons, List.take_succ_cons] at hm' ho'
      subst hm'; subst ho'
      exact .inl (H.obj h1)
    | succ i =>
      simp only [List.getElem?_cons_succ, List.length_cons, List.take_succ_cons] at hm' ho' ⊢
      exact h7 i m' o' hm' ho'

theorem kafter_dead {Li Lo : Nat → Nat → Option Dyn} {hs0 hs : Nat → Hd} : ∀ {os' os : List KO}, DeadB (kmask os') (kafter Li Lo hs0 hs os os')
  | [], os => by cases os <;> trivial
  | .dead :: os', [] => ⟨rfl, kafter_dead (os := [])⟩
  | .dead :: os', _ :: os => ⟨rfl, kafter_dead (os := os)⟩
  | .same :: os', [] => kafter_dead (os' := os') (os := [])
  | .same :: os', _ :: os => kafter_dead (os' := os') (os := os)
  | .oa _ _ :: os', [] => kafter_dead (os' := os') (os := [])
  | .oa _ _ :: os', _ :: os => kafter_dead (os' := os') (os := os)
  | .oc _ _ :: os', [] => kafter_dead (os' := os') (os := [])
  | .oc _ _ :: os', _ :: os => kafter_dead (os' := os') (os := os)

/-- a contract, and that the function can be called -/
structure ConFn (P : Program) [PTab P] (f : FuncId) (C : Con) : Prop where
  call : ∀ args w, (callFunc f args).run P w = .ok (.enter f args) w
  ok : ConOk P f C

/-- what a call finds -/
structure Cf (C : Con) where
  M : Mt
  ps : List (Nat × Nat)
  a : Tup C.ins
def Con.find (P : Program) [PTab P] (C : Con) (n : Nat) (env : List (Nat × Ent)) (O : List MO) (ss : List Sh) : Option (Cf C) :=
  (mtVs P C.ins false 0 [] n env ⟨[], []⟩ C.ps ss).bind fun M0 => (mtOs P C.ins 0 [] n env O M0 C.os).bind fun M => (posOs M C.os).bind fun ps =>
    bif nodupN (ps.map (·.1)) && Nat.beq C.nh C.os.length then (M.tup P C.ins).map fun a => ⟨M, ps, a⟩ else none

/-- where object k stands, those that are new too -/
def posK (O : List MO) (M : Mt) (C : Con) (k : Nat) : Nat := match lkM M.om k with
  | some (o, _) => o
  | none => O.length + ((C.os'.drop C.os.length).findIdx fun o => match o.key with | some i => Nat.beq i k | none => false)

def sumRes (vs : List (Bool × List At)) : Sh := match vs with
  | [(g, l)] => .vl g l
  | vs => .tup vs
theorem sumRes_ok {c : Cx} {vs : List (Bool × List At)} {φs : List RP} (h : (vs.map fun x => vrp c x.1 x.2) = φs) {F : FP} {w : World} {v : Value} (hr : resH F w φs v) : ((sumRes vs).rp c).h F w v := by
  subst h
  unfold sumRes
  split
  · exact hr
  · rename_i h1
    match vs, h1, hr with
    | [], _, hr => exact hr
    | [(g, l)], h1, _ => exact (h1 g l rfl).elim
    | a :: b :: vs, _, hr => exact hr

def Con.bk (C : Con) (n : Nat) (O : List MO) (M : Mt) : Bk := ⟨0, [], n, C.wl, M.om, C.nh, C.nh', posK O M C⟩

def callE (P : Program) [PTab P] (C : Con) (n : Nat) (env : List (Nat × Ent)) (O : List MO) (X : Cf C) : Ask OpR :=
  .bind (C.m X.a) fun r => Ask.of (leafs P C.outs r C.wl) fun Ds => Ask.when (Ds.all fun D => D.t.one) (Ask.of ((C.bk n O X.M).vals C.rs) fun vs =>
    Ask.of ((C.bk n O X.M).objs O (X.ps.map (·.1)) C.os') fun ob => .ret ⟨sumRes vs, ents Ds, C.nh' - C.nh, (X.ps.map (·.1)).zip ob.1, ob.2⟩)

theorem callE_ok (hw : WF n env) {f : FuncId} {C : Con} (hC : ConFn P f C) {x : Operand} {args : List Operand} {cs : List Cap} {ats : Array TypeId} {ss : List Sh} {X : Cf C}
    (hx : opA G x = some (.fn f cs)) (hcs : cs.all (Cap.ok n) = true) (hss : opds G args = some ss) (hX : C.find P n env O (ss ++ cs.map capSh) = some X) :
    AskOk (OpOk P E N (.call ⟨.value x, args.toArray, ats⟩) ty n env G O) (callE P C n env O X) := by
  intro r hr
  refine AskOk.of fun Ds hDs => AskOk.when fun hone => AskOk.of fun vs hvs => AskOk.of fun ob hob => ?_
  obtain ⟨ms, new⟩ := ob
  obtain ⟨M0, h1, h2⟩ := Option.bind_eq_some_iff.1 hX
  obtain ⟨M, h3, h4⟩ := Option.bind_eq_some_iff.1 h2
  obtain ⟨ps, h5, h6⟩ := Option.bind_eq_some_iff.1 h4
  cases hb : nodupN (ps.map (·.1)) && Nat.beq C.nh C.os.length with
  | false => rw [hb] at h6; cases h6
  | true =>
  rw [hb] at h6
  simp only [cond_true, Option.map_eq_some_iff] at h6
  obtain ⟨a, ha, rfl⟩ := h6
  simp only [Bool.and_eq_true] at hb
  have hnd := hb.1
  obtain ⟨l1, l2⟩ := leafs_get hDs
  have hsrc : ∀ e ∈ ents Ds, SrcOk env e := ents_src
  have hlen : (ents Ds).length = C.wl.length := by simp [ents, l1]
  refine ⟨hsrc, (fun h => by cases h), fun η => ?_⟩
  obtain ⟨m1, m2⟩ := mtVs_ok (c0 := cx0) h1
  obtain ⟨m3, m4⟩ := mtOs_ok (c0 := cx0) h3
  obtain ⟨m5, m6, m7⟩ := m4 h5
  have hsay := M.say ha η
  have hsay0 := hsay.le m3
  have hargs := argsOk (E := E) (N := N) (c := ⟨n, env, η⟩) (Ω := oma ⟨n, env, η⟩ O) hss hcs (m2 (cx0_ext _) hsay0).1
  have hat := m7 (cx0_ext _) hsay
  have hpsl : (ps.map (·.1)).length = C.os.length := by simp [m5]
  have hlt : ∀ j ∈ ps.map (·.1), j < (oma ⟨n, env, η⟩ O).length := fun j hj => by
    obtain ⟨p, hp, rfl⟩ := List.mem_map.1 hj
    simpa [oma] using (m6 p hp).1
  -- the objects that are handed on
  have hobjs : ∀ (ps : List (Nat × Nat)) (os : List KO), ps.length = os.length → nodupN (ps.map (·.1)) = true → (∀ (i : Nat) (p : Nat × Nat) (o : KO), ps[i]? = some p → os[i]? = some o → (oma ⟨n, env, η⟩ O)[p.1]? = some (o.ob cx0 (leaf P C.ins a) (M.hs η))) →
      ObjsAt (oma ⟨n, env, η⟩ O) (ps.map (·.1)) (os.map (KO.ob cx0 (leaf P C.ins a) (M.hs η))) := by
    intro ps
    induction ps with
    | nil => intro os hl _ _; cases os with
      | nil => trivial
      | cons _ _ => simp at hl
    | cons p ps ih =>
      intro os hl hn h
      cases os with
      | nil => simp at hl
      | cons o os =>
        simp only [List.map_cons, nodupN, Bool.and_eq_true, Bool.not_eq_true'] at hn
        exact ⟨h 0 p o rfl rfl, hn.1, ih os (by simpa using hl) hn.2 fun i p' o' hp' ho' => h (i + 1) p' o' (by simpa using hp') (by simpa using ho')⟩
  -- handles behind the call
  let ηx : (Nat → Hd) → Nat → Hd := fun hs' y => bif Nat.blt y (n + C.wl.length) then η y else hs' (C.nh + (y - (n + C.wl.length)))
  have hηx : ∀ hs' y, y < n → ηx hs' y = η y := fun hs' y hy => by
    have : Nat.blt y (n + C.wl.length) = true := by simp only [Nat.blt_eq]; omega
    simp only [ηx, this, cond_true]
  let R : OpR := ⟨sumRes vs, ents Ds, C.nh' - C.nh, (ps.map (·.1)).zip ms, new⟩
  have hext : ∀ hs', Ext ⟨n, env, η⟩ (R.cx' n env (ηx hs')) := fun hs' => OpOk.ext hw (r := R) hsrc ⟨ηx hs', hηx hs'⟩
  have hbk : ∀ x : Agr C.nh (M.hs η), BkSay (C.bk n O M) (leaf P C.outs r) x.1 cx0 (R.cx' n env (ηx x.1)) := fun x => by
    refine ⟨rfl, rfl, cx0_ext _, fun j q i hi => ?_, fun k y hy => ?_⟩
    · obtain ⟨_, h8⟩ := ixW_get hi
      rw [Nat.sub_zero] at h8
      obtain ⟨D, h9, h10⟩ := l2 h8
      refine ⟨D, ?_, h10, List.all_eq_true.1 hone D (List.mem_of_getElem? h9)⟩
      exact lkE_keyed (es := ents Ds) (by simp [ents, h9])
    · unfold Bk.hid at hy
      cases hk : Nat.blt k (C.bk n O M).nh with
      | true =>
        rw [hk] at hy
        simp only [cond_true] at hy
        split at hy
        · rename_i x0 o y' hl
          cases hyn : Nat.blt y' (C.bk n O M).n with
          | false => rw [hyn] at hy; cases hy
          | true =>
            rw [hyn] at hy
            simp only [cond_true, Option.some.injEq] at hy
            subst hy
            have hyn' : Nat.blt y' n = true := hyn
            have hkn : k < C.nh := by simpa [Nat.blt_eq] using (show Nat.blt k C.nh = true from hk)
            have hl' : lkM M.om k = some (o, y') := hl
            refine ⟨?_, blt_mono hyn' (by simp only [OpR.cx', OpR.n']; omega)⟩
            rw [x.2 k hkn]
            simp only [OpR.cx']
            rw [hηx _ _ (by simpa [Nat.blt_eq] using hyn')]
            simp only [Mt.hs, hl']
        · cases hy
      | false =>
        rw [hk] at hy
        simp only [cond_false] at hy
        cases hk2 : Nat.blt k (C.bk n O M).nh' with
        | false => rw [hk2] at hy; cases hy
        | true =>
          rw [hk2] at hy
          simp only [cond_true, Option.some.injEq] at hy
          have hy' : n + C.wl.length + (k - C.nh) = y := hy
          have e1 : ¬ k < C.nh := fun h => by
            have : Nat.blt k C.nh = true := by simpa [Nat.blt_eq] using h
            have hk' : Nat.blt k C.nh = false := hk
            rw [this] at hk'; cases hk'
          have e2 : k < C.nh' := by simpa [Nat.blt_eq] using (show Nat.blt k C.nh' = true from hk2)
          subst hy'
          refine ⟨?_, ?_⟩
          · have : Nat.blt (n + C.wl.length + (k - C.nh)) (n + C.wl.length) = false := by
              cases hh : Nat.blt (n + C.wl.length + (k - C.nh)) (n + C.wl.length) with
              | false => rfl
              | true => simp only [Nat.blt_eq] at hh; omega
            have e3 : C.nh + (n + C.wl.length + (k - C.nh) - (n + C.wl.length)) = k := by omega
            simp only [OpR.cx', ηx, this, cond_false]
            rw [e3]
          · show Nat.blt (n + C.wl.length + (k - C.nh)) (n + (ents Ds).length + (C.nh' - C.nh)) = true
            rw [hlen]; simp only [Nat.blt_eq]; omega
  -- the call
  have hfn := (hC.ok a r hr (M.hs η)).undead (Ω2 := fun x => C.Ω2 (P := P) a r (M.hs η) x.1) (fun x => ?dd1) (fun x => ?dd2)
  case dd1 => exact keepB_ow kafter_dead
  case dd2 => exact keepB_mem kafter_dead
  have hxf : lkO (gma ⟨n, env, η⟩ G) x = some (pv (.func (.func f) #[] (cs.map (Cap.val η)).toArray)) := by
    rw [opA_rp (c := ⟨n, env, η⟩) hx]
    simp only [At.rp]
    rw [hcs]; rfl
  have hln : ∀ x : Agr C.nh (M.hs η), (ps.map (·.1)).length = ((C.Ω2 (P := P) a r (M.hs η) x.1).take (ps.map (·.1)).length).length := fun x => by
    obtain ⟨k1, k2, _, _⟩ := Bk.objs_ok (Li := leaf P C.ins a) (hs0 := M.hs η) (hbk x) (os := C.os) hob hpsl
    have k1' : ms.length = (ps.map (·.1)).length := k1
    rw [List.length_take, Con.Ω2, k2]; omega
  have hobj := hobjs ps C.os m5 hnd hat
  have hst := s_callI (X := Agr C.nh (M.hs η)) (E := E) (N := N) (ty := ty) (ats := ats) (Γ := gma ⟨n, env, η⟩ G) (Ω := oma ⟨n, env, η⟩ O) (js := ps.map (·.1)) (os := fun x => (C.Ω2 (P := P) a r (M.hs η) x.1).take (ps.map (·.1)).length) (ex := fun x => (C.Ω2 (P := P) a r (M.hs η) x.1).drop (ps.map (·.1)).length)
    (caps := cs.map (Cap.val η)) (ψ := fun x => R.val.rp (R.cx' n env (ηx x.1))) hC.call hxf hfn hobj (fun x => (List.take_append_drop _ _).symm) hln hargs (fun x F w v hv => sumRes_ok ((hbk x).vals hvs) hv)
  have hjs : ∀ (x : Agr C.nh (M.hs η)), ((ps.map (·.1)).zip ms).map (·.1) = ps.map (·.1) := fun x => by
    obtain ⟨k1, _, _, _⟩ := Bk.objs_ok (Li := leaf P C.ins a) (hs0 := M.hs η) (hbk x) (os := C.os) hob hpsl
    have k1' : ms.length = (ps.map (·.1)).length := k1
    rw [List.map_fst_zip (by omega)]
  have hjs := hjs ⟨M.hs η, fun _ _ => rfl⟩
  show St P E N _ ty _ _ (((ps.map (·.1)).zip ms).map (·.1)) _ _
  rw [hjs]
  refine hst.to' fun x aa w hsat => ⟨⟨ηx x.1, hηx x.1⟩, ?_, rfl⟩
  obtain ⟨k1, k2, k3, k4⟩ := Bk.objs_ok (Li := leaf P C.ins a) (hs0 := M.hs η) (hbk x) (os := C.os) hob hpsl
  refine oma_setAll (hext x.1) hnd (fun j hj => by simpa [oma] using hlt j hj) k1.symm (hln x) (fun i m o hm ho => ?_) k4 hsat
  rcases k3 i m o hm ho with h | ⟨p, q, k, hp, hq, rfl, hk, rfl⟩
  · exact h
  · obtain ⟨pp, hpp, rfl⟩ : ∃ pp, ps[i]? = some pp ∧ pp.1 = p := by
      rw [List.getElem?_map] at hp
      obtain ⟨pp, h1, h2⟩ := Option.map_eq_some_iff.1 hp
      exact ⟨pp, h1, h2⟩
    have e1 := hat i pp k hpp hk
    have e2 : (oma ⟨n, env, η⟩ O)[pp.1]? = some (m.ob ⟨n, env, η⟩) := by simp [oma, hq]
    rw [e2] at e1
    have e3 : m.ob ⟨n, env, η⟩ = k.ob cx0 (leaf P C.ins a) (M.hs η) := Option.some.inj e1
    have hin := List.mem_of_getElem? (setAll_self (Ω := oma ⟨n, env, η⟩ O) hp ho (nodupN_drop hnd hp) (hlt _ (List.mem_of_getElem? hp)))
    have hin := List.mem_append_left ((C.Ω2 (P := P) a r (M.hs η) x.1).drop (ps.map (·.1)).length) hin
    rw [← e3] at hin ⊢
    exact MO.ob_eq (hext x.1) (hsat.ob _ hin)
end Go.Dc

/-! Shapes of states: at a loop's head, where ways meet, at a function's beginning and end. -/
namespace Go.Dc
variable [DrawMode] {P : Program} [PTab P] {E : Env} {N : Nat} {n : Nat} {env : List (Nat × Ent)} {G : List (Nat × Sh)} {O : List MO}

/-- a shape: components, slots, objects by place, handles that are fixed, and how many there are -/
structure Pat where
  ts : List Ty
  slots : List (Nat × (Bool × List KA))
  objs : List KO
  fixd : List (Nat × (Nat × Nat))
  nh : Nat
  nh' : Nat

def Pat.Γ (p : Pat) (c0 : Cx) (L : Nat → Nat → Option Dyn) (hs : Nat → Hd) : List (Nat × RP) := p.slots.map fun x => (x.1, kvrp c0 L hs x.2)
def Pat.Ω (p : Pat) (c0 : Cx) (L : Nat → Nat → Option Dyn) (hs : Nat → Hd) : List OB := p.objs.map (KO.ob c0 L hs)
/-- handles that are fixed -/
def FxOk (c0 : Cx) (p : Pat) (hs : Nat → Hd) : Prop := ∀ k o h, lkM p.fixd k = some (o, h) → Nat.blt h c0.n = true → hs k = c0.η h

/-! ### a state of a shape -/
def Pat.wl (p : Pat) : List (Nat × Nat) := p.slots.flatMap (fun x => x.2.2.flatMap KA.words) ++ p.objs.flatMap KO.words
def Pat.pos (p : Pat) (k : Nat) : Nat := match lkM p.fixd k with
  | some (o, _) => o
  | none => p.objs.findIdx fun o => match o.key with | some i => Nat.beq i k | none => false
def Pat.bk (p : Pat) (n : Nat) (env : List (Nat × Ent)) : Bk := ⟨n, env, n, p.wl, p.fixd, p.nh, p.nh', p.pos⟩

def Bk.slots (B : Bk) : List (Nat × (Bool × List KA)) → Option (List (Nat × Sh))
  | [] => some []
  | (t, (g, l)) :: r => (B.ats l).bind fun as_ => (B.slots r).map ((t, .vl g as_) :: ·)
def Bk.mobs (B : Bk) : List KO → Option (List MO)
  | [] => some []
  | o :: r => (B.obj o).bind fun m => (B.mobs r).map (m :: ·)

theorem BkSay.slots {B : Bk} {L : Nat → Nat → Option Dyn} {hs : Nat → Hd} {c0 c : Cx} (H : BkSay B L hs c0 c) : ∀ {l : List (Nat × (Bool × List KA))} {G : List (Nat × Sh)}, B.slots l = some G → gma c G = l.map fun x => (x.1, kvrp c0 L hs x.2)
  | [], _, h => by cases h; rfl
  | (t, (g, l)) :: r, G, h => by
    simp only [Bk.slots] at h
    obtain ⟨as_, h1, h2⟩ := Option.bind_eq_some_iff.1 h
    obtain ⟨G', h3, rfl⟩ := Option.map_eq_some_iff.1 h2
    have := H.slots h3
    unfold gma at this ⊢
    rw [List.map_cons, List.map_cons, this]
    simp only [Sh.rp, vrp, kvrp]
    rw [H.ats h1]
theorem BkSay.mobs {B : Bk} {L : Nat → Nat → Option Dyn} {hs : Nat → Hd} {c0 c : Cx} (H : BkSay B L hs c0 c) : ∀ {l : List KO} {O : List MO}, B.mobs l = some O → oma c O = l.map (KO.ob c0 L hs)
  | [], _, h => by cases h; rfl
  | o :: r, O, h => by
    simp only [Bk.mobs] at h
    obtain ⟨m, h1, h2⟩ := Option.bind_eq_some_iff.1 h
    obtain ⟨O', h3, rfl⟩ := Option.map_eq_some_iff.1 h2
    have := H.mobs h3
    unfold oma at this ⊢
    rw [List.map_cons, List.map_cons, this, H.obj h1]

/-- what the names of a shape say -/
def etaP (n wl nh : Nat) (η hs : Nat → Hd) : Nat → Hd := fun y => bif Nat.blt y (n + wl) then η y else hs (nh + (y - (n + wl)))
theorem etaP_lt {n wl nh : Nat} {η hs : Nat → Hd} {y : Nat} (h : y < n) : etaP n wl nh η hs y = η y := by
  have : Nat.blt y (n + wl) = true := by simp only [Nat.blt_eq]; omega
  simp only [etaP, this, cond_true]

theorem bk_say {p : Pat} {c0 : Cx} (hw : WF c0.n c0.env) {s : Tup p.ts} {Ds : List Dyn} (hDs : leafs P p.ts s p.wl = some Ds) (hone : (Ds.all fun D => D.t.one) = true) {hs : Nat → Hd} (hfx : FxOk c0 p hs) :
    BkSay (p.bk c0.n c0.env) (leaf P p.ts s) hs c0 ⟨c0.n + Ds.length + (p.nh' - p.nh), keyed c0.n (ents Ds) c0.env, etaP c0.n p.wl.length p.nh c0.η hs⟩ := by
  obtain ⟨l1, l2⟩ := leafs_get hDs
  obtain ⟨w1, w2⟩ := keyed_ok hw (es := ents Ds) ents_src
  refine ⟨rfl, rfl, ⟨by simp only; omega, w2, fun h hh => etaP_lt hh⟩, fun j q i hi => ?_, fun k y hy => ?_⟩
  · obtain ⟨_, h8⟩ := ixW_get hi
    rw [Nat.sub_zero] at h8
    obtain ⟨D, h9, h10⟩ := l2 h8
    exact ⟨D, lkE_keyed (es := ents Ds) (by simp [ents, h9]), h10, List.all_eq_true.1 hone D (List.mem_of_getElem? h9)⟩
  · unfold Bk.hid at hy
    cases hk : Nat.blt k (p.bk c0.n c0.env).nh with
    | true =>
      rw [hk] at hy
      simp only [cond_true] at hy
      split at hy
      · rename_i x0 o y' hl
        cases hyn : Nat.blt y' (p.bk c0.n c0.env).n with
        | false => rw [hyn] at hy; cases hy
        | true =>
          rw [hyn] at hy
          simp only [cond_true, Option.some.injEq] at hy
          subst hy
          have hyn' : Nat.blt y' c0.n = true := hyn
          have hl' : lkM p.fixd k = some (o, y') := hl
          refine ⟨?_, blt_mono hyn' (by simp only; omega)⟩
          simp only
          rw [etaP_lt (by simpa [Nat.blt_eq] using hyn'), hfx k o y' hl' hyn']
      · cases hy
    | false =>
      rw [hk] at hy
      simp only [cond_false] at hy
      cases hk2 : Nat.blt k (p.bk c0.n c0.env).nh' with
      | false => rw [hk2] at hy; cases hy
      | true =>
        rw [hk2] at hy
        simp only [cond_true, Option.some.injEq] at hy
        have hy' : c0.n + p.wl.length + (k - p.nh) = y := hy
        have e1 : ¬ k < p.nh := fun h => by
          have h1 : Nat.blt k p.nh = true := by simpa [Nat.blt_eq] using h
          have hk' : Nat.blt k p.nh = false := hk
          rw [h1] at hk'; cases hk'
        have e2 : k < p.nh' := by simpa [Nat.blt_eq] using (show Nat.blt k p.nh' = true from hk2)
        subst hy'
        refine ⟨?_, ?_⟩
        · have h1 : Nat.blt (c0.n + p.wl.length + (k - p.nh)) (c0.n + p.wl.length) = false := by
            cases hh : Nat.blt (c0.n + p.wl.length + (k - p.nh)) (c0.n + p.wl.length) with
            | false => rfl
            | true => simp only [Nat.blt_eq] at hh; omega
          have e3 : p.nh + (c0.n + p.wl.length + (k - p.nh) - (c0.n + p.wl.length)) = k := by omega
          simp only [etaP, h1, cond_false]
          rw [e3]
        · show Nat.blt (c0.n + p.wl.length + (k - p.nh)) (c0.n + Ds.length + (p.nh' - p.nh)) = true
          rw [l1]; simp only [Nat.blt_eq]; omega

/-- the state of a shape -/
def Pat.inst (P : Program) [PTab P] (p : Pat) (n : Nat) (env : List (Nat × Ent)) (s : Tup p.ts) : Option MSt :=
  (leafs P p.ts s p.wl).bind fun Ds => bif Ds.all fun D => D.t.one then ((p.bk n env).slots p.slots).bind fun G => ((p.bk n env).mobs p.objs).map fun O =>
    ⟨n + Ds.length + (p.nh' - p.nh), keyed n (ents Ds) env, G, O⟩ else none

theorem Pat.inst_ok {p : Pat} {c0 : Cx} (hw : WF c0.n c0.env) {s : Tup p.ts} {st : MSt} (h : p.inst P c0.n c0.env s = some st) {hs : Nat → Hd} (hfx : FxOk c0 p hs) :
    ∃ η, gma ⟨st.n, st.env, η⟩ st.G = p.Γ c0 (leaf P p.ts s) hs ∧ oma ⟨st.n, st.env, η⟩ st.O = p.Ω c0 (leaf P p.ts s) hs ∧ WF st.n st.env ∧ Ext c0 ⟨st.n, st.env, η⟩ := by
  obtain ⟨Ds, h1, h2⟩ := Option.bind_eq_some_iff.1 h
  cases hb : Ds.all fun D => D.t.one with
  | false => rw [hb] at h2; cases h2
  | true =>
    rw [hb] at h2
    obtain ⟨G, h3, h4⟩ := Option.bind_eq_some_iff.1 h2
    obtain ⟨O, h5, rfl⟩ := Option.map_eq_some_iff.1 h4
    have hsay := bk_say hw h1 hb hfx
    exact ⟨_, hsay.slots h3, hsay.mobs h5, ((keyed_ok hw ents_src).1.le (by simp [ents])), hsay.x⟩

theorem Pat.inst_okH {p : Pat} {c0 : Cx} (hw : WF c0.n c0.env) {s : Tup p.ts} {st : MSt} (h : p.inst P c0.n c0.env s = some st) {hs : Nat → Hd} (hfx : FxOk c0 p hs) :
    ∃ η, gma ⟨st.n, st.env, η⟩ st.G = p.Γ c0 (leaf P p.ts s) hs ∧ oma ⟨st.n, st.env, η⟩ st.O = p.Ω c0 (leaf P p.ts s) hs ∧ WF st.n st.env ∧ Ext c0 ⟨st.n, st.env, η⟩ ∧
      ∀ k, k < p.nh' - p.nh → η (c0.n + p.wl.length + k) = hs (p.nh + k) ∧ c0.n + p.wl.length + k < st.n := by
  obtain ⟨Ds, h1, h2⟩ := Option.bind_eq_some_iff.1 h
  cases hb : Ds.all fun D => D.t.one with
  | false => rw [hb] at h2; cases h2
  | true =>
    rw [hb] at h2
    obtain ⟨G, h3, h4⟩ := Option.bind_eq_some_iff.1 h2
    obtain ⟨O, h5, rfl⟩ := Option.map_eq_some_iff.1 h4
    have hsay := bk_say hw h1 hb hfx
    refine ⟨_, hsay.slots h3, hsay.mobs h5, ((keyed_ok hw ents_src).1.le (by simp [ents])), hsay.x, fun k hk => ⟨?_, ?_⟩⟩
    · have e1 : Nat.blt (c0.n + p.wl.length + k) (c0.n + p.wl.length) = false := by
        cases hh : Nat.blt (c0.n + p.wl.length + k) (c0.n + p.wl.length) with
        | false => rfl
        | true => simp only [Nat.blt_eq] at hh; omega
      have e2 : c0.n + p.wl.length + k - (c0.n + p.wl.length) = k := by omega
      simp only [etaP, e1, cond_false, e2]
    · have := (leafs_get h1).1
      simp only; omega

/-! ### a state that is of a shape -/
def mtSlots (P : Program) [PTab P] (ts : List Ty) (n0 : Nat) (env0 : List (Nat × Ent)) (n : Nat) (env : List (Nat × Ent)) (G : List (Nat × Sh)) : Mt → List (Nat × (Bool × List KA)) → Option Mt
  | M, [] => some M
  | M, (t, k) :: r => (lkG G t).bind fun s => (mtV P ts true n0 env0 n env M k s).bind fun M => mtSlots P ts n0 env0 n env G M r
theorem mtSlots_ok {c0 : Cx} {ts : List Ty} : ∀ {l : List (Nat × (Bool × List KA))} {M M' : Mt}, mtSlots P ts c0.n c0.env n env G M l = some M' →
    Mt.Le M M' ∧ ∀ {L : Nat → Nat → Option Dyn} {hs η : Nat → Hd}, Ext c0 ⟨n, env, η⟩ → MtSay L hs η M' → SubΓ (gma ⟨n, env, η⟩ G) (l.map fun x => (x.1, kvrp c0 L hs x.2))
  | [], M, M', h => by cases h; exact ⟨.refl _, fun _ _ => trivial⟩
  | (t, k) :: r, M, M', h => by
    simp only [mtSlots] at h
    obtain ⟨s, h0, h⟩ := Option.bind_eq_some_iff.1 h
    obtain ⟨M1, h1, h2⟩ := Option.bind_eq_some_iff.1 h
    obtain ⟨h3, h4⟩ := mtV_ok h1
    obtain ⟨h5, h6⟩ := mtSlots_ok h2
    refine ⟨h3.trans h5, fun hx hs => ⟨?_, h6 hx hs⟩⟩
    rw [lk_gma, h0]
    show some _ = some _
    rw [(h4 hx (hs.le h5)).2 rfl]

def mtObjs (P : Program) [PTab P] (ts : List Ty) (n0 : Nat) (env0 : List (Nat × Ent)) (n : Nat) (env : List (Nat × Ent)) (O : List MO) : Mt → List KO → Option Mt
  | M, [] => some M
  | M, .dead :: os => mtObjs P ts n0 env0 n env O M os
  | M, o :: os => (mtO P ts n0 env0 n env O M o).bind fun M => mtObjs P ts n0 env0 n env O M os
/-- places of the objects, the end for dead ones -/
def posObjs (M : Mt) (len : Nat) : List KO → Option (List Nat)
  | [] => some []
  | .dead :: os => (posObjs M len os).map (len :: ·)
  | o :: os => (o.key.bind (lkM M.om)).bind fun x => (posObjs M len os).map (x.1 :: ·)
def livePos (len : Nat) (l : List Nat) : List Nat := l.filter fun i => !Nat.beq i len

theorem mtObjs_ok {c0 : Cx} {ts : List Ty} : ∀ {os : List KO} {M M' : Mt}, mtObjs P ts c0.n c0.env n env O M os = some M' →
    Mt.Le M M' ∧ ∀ {is : List Nat}, posObjs M' O.length os = some is → is.length = os.length ∧ ∀ {L : Nat → Nat → Option Dyn} {hs η : Nat → Hd}, Ext c0 ⟨n, env, η⟩ → MtSay L hs η M' →
      ∀ (i : Nat) (p : Nat) (o : KO), is[i]? = some p → os[i]? = some o → (oma ⟨n, env, η⟩ O ++ [Dc.dead])[p]? = some (o.ob c0 L hs) ∧ (p = O.length → o = .dead)
  | [], M, M', h => by cases h; exact ⟨.refl _, fun hp => by cases hp; exact ⟨rfl, fun _ _ i p o h => by simp at h⟩⟩
  | o :: os, M, M', h => by
    by_cases ho : o = .dead
    · subst ho
      simp only [mtObjs] at h
      obtain ⟨h5, h6⟩ := mtObjs_ok h
      refine ⟨h5, fun {is} hp => ?_⟩
      simp only [posObjs] at hp
      obtain ⟨is', hp', rfl⟩ := Option.map_eq_some_iff.1 hp
      obtain ⟨h7, h9⟩ := h6 hp'
      refine ⟨by simp [h7], fun hx hsay i q o' hq ho' => ?_⟩
      cases i with
      | zero =>
        simp only [List.getElem?_cons_zero, Option.some.injEq] at hq ho'
        subst hq; subst ho'
        refine ⟨?_, fun _ => rfl⟩
        rw [List.getElem?_append_right (by simp [oma])]
        simp [oma, KO.ob]
      | succ i => exact h9 hx hsay i q o' (by simpa using hq) (by simpa using ho')
    · have h : (mtO P ts c0.n c0.env n env O M o).bind (fun M => mtObjs P ts c0.n c0.env n env O M os) = some M' := by
        cases o <;> first | exact h | exact (ho rfl).elim
      obtain ⟨M1, h1, h2⟩ := Option.bind_eq_some_iff.1 h
      obtain ⟨h3, k, p, x, hk, hm, hlt, hb, hat⟩ := mtO_ok h1
      obtain ⟨h5, h6⟩ := mtObjs_ok h2
      refine ⟨h3.trans h5, fun {is} hp => ?_⟩
      have hp : (o.key.bind (lkM M'.om)).bind (fun x => (posObjs M' O.length os).map (x.1 :: ·)) = some is := by
        cases o <;> first | exact hp | exact (ho rfl).elim
      simp only [hk, Option.bind_some, h5.o _ _ (h3.o _ _ hm)] at hp
      obtain ⟨is', hp', rfl⟩ := Option.map_eq_some_iff.1 hp
      obtain ⟨h7, h9⟩ := h6 hp'
      refine ⟨by simp [h7], fun hx hsay i q o' hq ho' => ?_⟩
      cases i with
      | zero =>
        simp only [List.getElem?_cons_zero, Option.some.injEq] at hq ho'
        subst hq; subst ho'
        refine ⟨?_, fun e => by omega⟩
        rw [List.getElem?_append_left (by simpa [oma] using hlt)]
        exact hat hx (hsay.le h5)
      | succ i => exact h9 hx hsay i q o' (by simpa using hq) (by simpa using ho')

theorem picks_of : ∀ {is : List Nat} {os Ω : List OB} {len : Nat}, is.length = os.length → nodupN (livePos len is) = true → (∀ (i p : Nat) (o : OB), is[i]? = some p → os[i]? = some o → Ω[p]? = some o ∧ (p = len → o = Dc.dead)) → Picks Ω is os
  | [], [], _, _, _, _, _ => trivial
  | [], _ :: _, _, _, h, _, _ => by simp at h
  | _ :: _, [], _, _, h, _, _ => by simp at h
  | p :: is, o :: os, Ω, len, hl, hn, h => by
    obtain ⟨h1, h2⟩ := h 0 p o rfl rfl
    refine ⟨h1, ?_⟩
    by_cases e : p = len
    · subst e
      have hd := h2 rfl
      subst hd
      have hs : Ω.set p Dc.dead = Ω := set_same h1
      rw [hs]
      refine picks_of (len := p) (by simpa using hl) ?_ fun i q o' hq ho' => h (i + 1) q o' (by simpa using hq) (by simpa using ho')
      simpa [livePos] using hn
    · have hlp : livePos len (p :: is) = p :: livePos len is := by simp [livePos, beq_ne e]
      rw [hlp] at hn
      simp only [nodupN, Bool.and_eq_true, Bool.not_eq_true'] at hn
      refine picks_of (len := len) (by simpa using hl) hn.2 fun i q o' hq ho' => ?_
      obtain ⟨h3, h4⟩ := h (i + 1) q o' (by simpa using hq) (by simpa using ho')
      refine ⟨?_, h4⟩
      by_cases e2 : p = q
      · exfalso
        subst e2
        have : p ∈ livePos len is := List.mem_filter.2 ⟨List.mem_of_getElem? hq, by simp [beq_ne e]⟩
        rw [hasN_iff.2 this] at hn; cases hn.1
      · rw [List.getElem?_set_ne e2]; exact h3

/-- the components of a state of this shape -/
def Pat.read (P : Program) [PTab P] (p : Pat) (n0 : Nat) (env0 : List (Nat × Ent)) (st : MSt) : Option (Tup p.ts) :=
  (mtSlots P p.ts n0 env0 st.n st.env st.G ⟨[], p.fixd⟩ p.slots).bind fun M0 => (mtObjs P p.ts n0 env0 st.n st.env st.O M0 p.objs).bind fun M =>
    (posObjs M st.O.length p.objs).bind fun is => bif nodupN (livePos st.O.length is) && (p.fixd.all fun x => Nat.blt x.2.2 n0) then M.tup P p.ts else none

theorem Pat.read_ok {p : Pat} {c0 : Cx} {st : MSt} {s : Tup p.ts} (h : p.read P c0.n c0.env st = some s) {η : Nat → Hd} (hx : Ext c0 ⟨st.n, st.env, η⟩) :
    ∃ hs, FxOk c0 p hs ∧ ∀ a w, Sat E N (gma ⟨st.n, st.env, η⟩ st.G) (oma ⟨st.n, st.env, η⟩ st.O) a w → Sat E N (p.Γ c0 (leaf P p.ts s) hs) (p.Ω c0 (leaf P p.ts s) hs) a w := by
  obtain ⟨M0, h1, h⟩ := Option.bind_eq_some_iff.1 h
  obtain ⟨M, h3, h⟩ := Option.bind_eq_some_iff.1 h
  obtain ⟨is, h5, h⟩ := Option.bind_eq_some_iff.1 h
  cases hb : nodupN (livePos st.O.length is) && (p.fixd.all fun x => Nat.blt x.2.2 c0.n) with
  | false => rw [hb] at h; cases h
  | true =>
    rw [hb] at h
    simp only [Bool.and_eq_true] at hb
    obtain ⟨m1, m2⟩ := mtSlots_ok h1
    obtain ⟨m3, m4⟩ := mtObjs_ok h3
    obtain ⟨m5, m6⟩ := m4 h5
    have hsay := M.say h η
    refine ⟨M.hs η, fun k o x hk hlt => ?_, fun a w hs => ?_⟩
    · have h7 := m3.o _ _ (m1.o _ _ hk)
      simp only [Mt.hs, h7]
      exact hx.η x (by simpa [Nat.blt_eq] using hlt)
    · have hΓ := m2 hx (hsay.le m3)
      refine (weak is hΓ (picks_of (len := st.O.length) ?_ hb.1 fun i q o hq ho => ?_)) a w (hs.room 1)
      · simp [m5, Pat.Ω]
      · simp only [Pat.Ω, List.getElem?_map] at ho
        obtain ⟨o', ho', rfl⟩ := Option.map_eq_some_iff.1 ho
        obtain ⟨h8, h9⟩ := m6 hx hsay i q o' hq ho'
        exact ⟨h8, fun e => by rw [h9 e]; rfl⟩
end Go.Dc

/-! Slices of ours are given up; nil slices become slices. -/
namespace Go.Dc
section
variable [SRep] [DrawMode] {E : Env} {N : Nat} {a : Act} {w : World}

theorem Sat.rel {c c' : Cx} {G G' : List (Nat × Sh)} {Ω Ω' : List OB} (hs : Sat E N (gma c G) Ω a w)
    (hG : ∀ t s', lkG G' t = some s' → ∃ s, lkG G t = some s ∧ ∀ v, (s.rp c).h (fr E Ω) w v → (s'.rp c').h (fr E Ω') w v) (hO : ∀ o ∈ Ω', o.h (fr E Ω') w) (hnd : (ow Ω').Nodup) (hsub : ∀ b ∈ ow Ω', b ∈ ow Ω) :
    Sat E N (gma c' G') Ω' a w :=
  ⟨hs.sz, hs.df, fun t φ ht => by
    rw [lk_gma] at ht
    obtain ⟨s', h1, rfl⟩ := Option.map_eq_some_iff.1 ht
    obtain ⟨s, h2, h3⟩ := hG t s' h1
    exact h3 _ (hs.sl t (s.rp c) (by rw [lk_gma, h2]; rfl)), hO, hnd, fun b hb => hs.bd b (hsub b hb), hs.kp, hs.fs⟩

/-- atoms that are changed throughout -/
def Sh.map (f : At → At) : Sh → Sh
  | .undef => .undef
  | .vl g l => .vl g (l.map f)
  | .tup l => .tup (l.map fun x => (x.1, x.2.map f))
def MO.map (f : At → At) : MO → MO
  | .oc h l => .oc h (l.map f)
  | o => o
def mapG (f : At → At) (G : List (Nat × Sh)) : List (Nat × Sh) := G.map fun x => (x.1, x.2.map f)
def mapO (f : At → At) (O : List MO) : List MO := O.map (MO.map f)

theorem lk_mapG {f : At → At} {G : List (Nat × Sh)} {t : Nat} : lkG (mapG f G) t = (lkG G t).map (Sh.map f) := by
  induction G with
  | nil => rfl
  | cons x r ih =>
    simp only [mapG, List.map_cons, lkG]
    cases Nat.beq x.1 t with
    | true => rfl
    | false => exact ih

section
variable {c : Cx} {f : At → At} {F F' : FP} (hf : ∀ x v, (x.rp c).h F w v → ((f x).rp c).h F' w v)
include hf
theorem map_ats : ∀ {l : List At} {vs : List Value}, AllP F w (l.map (At.rp c)) vs → AllP F' w ((l.map f).map (At.rp c)) vs
  | [], [], _ => trivial
  | x :: l, v :: vs, ⟨h1, h2⟩ => ⟨hf x v h1, map_ats h2⟩
  | [], _ :: _, h => h.elim
  | _ :: _, [], h => h.elim
theorem map_vrp {g : Bool} {l : List At} {v : Value} (h : (vrp c g l).h F w v) : (vrp c g (l.map f)).h F' w v := by
  unfold vrp at h ⊢
  cases g with
  | true => obtain ⟨cs, e, h⟩ := h; exact ⟨cs, e, map_ats hf h⟩
  | false =>
    cases l with
    | nil => exact h.elim
    | cons x l => exact hf x v h
theorem map_tup : ∀ {l : List (Bool × List At)} {vs : List Value}, AllP F w (l.map (fun x => vrp c x.1 x.2)) vs → AllP F' w ((l.map fun x => (x.1, x.2.map f)).map (fun x => vrp c x.1 x.2)) vs
  | [], [], _ => trivial
  | x :: l, v :: vs, ⟨h1, h2⟩ => ⟨map_vrp hf h1, map_tup h2⟩
  | [], _ :: _, h => h.elim
  | _ :: _, [], h => h.elim
theorem map_sh {s : Sh} {v : Value} (h : (s.rp c).h F w v) : ((s.map f).rp c).h F' w v := by
  cases s with
  | undef => exact h
  | vl g l => exact map_vrp hf h
  | tup l => obtain ⟨cs, e, h⟩ := h; exact ⟨cs, e, map_tup hf h⟩
theorem map_oc {h : Nat} {l : List At} (hh : ((MO.oc h l).ob c).h F w) : ((MO.oc h (l.map f)).ob c).h F' w := by
  simp only [MO.ob] at hh ⊢
  cases hb : Nat.blt h c.n with
  | false => rw [hb] at hh; exact hh
  | true =>
    rw [hb] at hh
    obtain ⟨cells, ty, h1, h2⟩ := hh
    exact ⟨cells, ty, h1, map_ats hf h2⟩
end

theorem map_S {c : Cx} {f : At → At} {o : MO} : ((o.map f).ob c).S = (o.ob c).S := by
  cases o with
  | oc h l => simp only [MO.map, MO.ob]; cases Nat.blt h c.n <;> rfl
  | _ => rfl
theorem ow_mapO {c : Cx} {f : At → At} {O : List MO} : ow (oma c (mapO f O)) = ow (oma c O) := by
  unfold ow oma mapO
  induction O with
  | nil => rfl
  | cons o O ih => simp only [List.map_cons, List.flatMap_cons, map_S, ih]

/-- the slice with handle h is given up; from now on it is entry i -/
def frzA (h i : Nat) : At → At
  | .own o k => bif Nat.beq k h then .vr i else .own o k
  | x => x
def frzSt (st : MSt) (o : Nat) : Option MSt := match st.O[o]? with
  | some (.oa h i) => bif Nat.blt h st.n && ((lkE st.env i).bind Ent.asSl).isSome then some ⟨st.n, st.env, mapG (frzA h i) st.G, (mapO (frzA h i) st.O).set o .dead⟩ else none
  | _ => none

theorem oma_setD {c : Cx} {O : List MO} {j : Nat} : oma c (O.set j .dead) = (oma c O).set j Dc.dead := by
  unfold oma; rw [List.map_set]; rfl

theorem frz_ok {st st' : MSt} {o : Nat} (h : frzSt st o = some st') {η : Nat → Hd} (hs : Sat E N (gma ⟨st.n, st.env, η⟩ st.G) (oma ⟨st.n, st.env, η⟩ st.O) a w) :
    st'.n = st.n ∧ st'.env = st.env ∧ Sat E N (gma ⟨st.n, st.env, η⟩ st'.G) (oma ⟨st.n, st.env, η⟩ st'.O) a w := by
  unfold frzSt at h
  split at h
  · rename_i k i ho
    cases hb : Nat.blt k st.n && ((lkE st.env i).bind Ent.asSl).isSome with
    | false => rw [hb] at h; cases h
    | true =>
      rw [hb] at h; cases h
      refine ⟨rfl, rfl, ?_⟩
      simp only [Bool.and_eq_true] at hb
      obtain ⟨⟨t, d⟩, hp⟩ := Option.isSome_iff_exists.1 hb.2
      obtain ⟨e, he, hes⟩ := Option.bind_eq_some_iff.1 hp
      obtain ⟨s, rfl⟩ := asSl_eq hes
      have hj : (oma ⟨st.n, st.env, η⟩ st.O)[o]? = some (oa t.rep (η k).hv (η k).S d) := by
        simp only [oma, List.getElem?_map, ho, Option.map_some, MO.ob, he, Option.bind_some, Dyn.ob, Ent.asSl, hb.1, cond_true]
      have hfz := hs.freeze hj
      have hχ := frz_chi hj hs fun b hb => hs.mine (Sat.notin hj hb)
      have hlt : o < (oma ⟨st.n, st.env, η⟩ st.O).length := (List.getElem?_eq_some_iff.1 hj).1
      have hfr : fr E (oma ⟨st.n, st.env, η⟩ ((mapO (frzA k i) st.O).set o .dead)) = fr E ((oma ⟨st.n, st.env, η⟩ st.O).set o Dc.dead) := by
        have : ow (oma ⟨st.n, st.env, η⟩ ((mapO (frzA k i) st.O).set o .dead)) = ow ((oma ⟨st.n, st.env, η⟩ st.O).set o Dc.dead) := by
          rw [← oma_setD]
          have e1 : (mapO (frzA k i) st.O).set o .dead = mapO (frzA k i) (st.O.set o .dead) := by unfold mapO; rw [List.map_set]; rfl
          rw [e1, ow_mapO]
        unfold fr; rw [this]
      have hf : ∀ x v, (x.rp ⟨st.n, st.env, η⟩).h (fr E ((oma ⟨st.n, st.env, η⟩ st.O).set o Dc.dead)) w v → ((frzA k i x).rp ⟨st.n, st.env, η⟩).h (fr E ((oma ⟨st.n, st.env, η⟩ st.O).set o Dc.dead)) w v := by
        intro x v hv
        cases x with
        | own o' k' =>
          simp only [frzA]
          cases hk : Nat.beq k' k with
          | false => exact hv
          | true =>
            obtain rfl := Nat.eq_of_beq_eq_true hk
            simp only [cond_true, At.rp, he, Ty.one]
            rw [own_rp hb.1] at hv
            rw [show v = _ from hv]
            exact hχ
        | _ => exact hv
      refine hfz.rel (fun t' s' ht => ?_) (fun q hq => ?_) ?_ ?_
      · rw [lk_mapG] at ht
        obtain ⟨s0, h1, rfl⟩ := Option.map_eq_some_iff.1 ht
        exact ⟨s0, h1, fun v hv => by rw [hfr]; exact map_sh hf hv⟩
      · rw [hfr]
        have e1 : (mapO (frzA k i) st.O).set o .dead = mapO (frzA k i) (st.O.set o .dead) := by unfold mapO; rw [List.map_set]; rfl
        rw [e1] at hq
        obtain ⟨m, hm, rfl⟩ := List.mem_map.1 hq
        obtain ⟨m0, hm0, rfl⟩ := List.mem_map.1 hm
        have h2 := hfz.ob (m0.ob ⟨st.n, st.env, η⟩) (by rw [← oma_setD]; exact List.mem_map_of_mem hm0)
        cases m0 with
        | oc h l => exact map_oc hf h2
        | dead => exact h2
        | oa h i => exact h2
      · have e1 : (mapO (frzA k i) st.O).set o .dead = mapO (frzA k i) (st.O.set o .dead) := by unfold mapO; rw [List.map_set]; rfl
        rw [e1, ow_mapO, oma_setD]; exact hfz.nd
      · intro b hb'
        have e1 : (mapO (frzA k i) st.O).set o .dead = mapO (frzA k i) (st.O.set o .dead) := by unfold mapO; rw [List.map_set]; rfl
        rw [e1, ow_mapO, oma_setD] at hb'; exact hb'
  · cases h
/-- a change of the state that keeps what it says -/
def Keeps (st st' : MSt) : Prop := st'.n = st.n ∧ st'.env = st.env ∧ ∀ {E : Env} {N : Nat} (η : Nat → Hd) a w, Sat E N (gma ⟨st.n, st.env, η⟩ st.G) (oma ⟨st.n, st.env, η⟩ st.O) a w → Sat E N (gma ⟨st.n, st.env, η⟩ st'.G) (oma ⟨st.n, st.env, η⟩ st'.O) a w
theorem Keeps.refl (st : MSt) : Keeps st st := ⟨rfl, rfl, fun _ _ _ h => h⟩
theorem Keeps.trans {a b c : MSt} (h : Keeps a b) (k : Keeps b c) : Keeps a c :=
  ⟨k.1.trans h.1, k.2.1.trans h.2.1, fun η x w hs => by have := k.2.2 η x w (by rw [h.1, h.2.1]; exact h.2.2 η x w hs); rwa [h.1, h.2.1] at this⟩
theorem frz_keeps' {st st' : MSt} {o : Nat} (h : frzSt st o = some st') : Keeps st st' := by
  have hh : st'.n = st.n ∧ st'.env = st.env := by
    unfold frzSt at h
    split at h
    · rename_i k i ho
      cases hb : Nat.blt k st.n && ((lkE st.env i).bind Ent.asSl).isSome with
      | false => rw [hb] at h; cases h
      | true => rw [hb] at h; cases h; exact ⟨rfl, rfl⟩
    · cases h
  exact ⟨hh.1, hh.2, fun η a w hs => (frz_ok h hs).2.2⟩
def frzAll : List Nat → MSt → Option MSt
  | [], st => some st
  | o :: os, st => match st.O[o]? with
    | some .dead => frzAll os st
    | _ => (frzSt st o).bind (frzAll os)
theorem frzAll_ok : ∀ {os : List Nat} {st st' : MSt}, frzAll os st = some st' → Keeps st st'
  | [], st, st', h => by cases h; exact .refl _
  | o :: os, st, st', h => by
    unfold frzAll at h
    split at h
    · exact frzAll_ok h
    · obtain ⟨s1, h1, h2⟩ := Option.bind_eq_some_iff.1 h
      exact (frz_keeps' h1).trans (frzAll_ok h2)
end
end Go.Dc
