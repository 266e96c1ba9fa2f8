/- Part M.Ctr2 of a proof: lemmas. -/
import Derived.Test.YtcopohboenimpaaGreatDoorDcSub
import Derived.Test.YtcopohboenimpaaGreatDoorDcEqS
set_option linter.unusedSectionVars false
set_option linter.unusedVariables false
/-! Types of a program, structs, and data in cells. -/
namespace Go.Dc

class PTab (P : Program) extends SRep where
  code : TypeId → Option Nat
  split : (n : Nat) → SDen.den n → List Dyn
  split_ok : ∀ n x, (SRep.rep n).cp x = (split n x).map Dyn.rp
  split_one : ∀ n x, ∀ D ∈ split n x, D.t.one = true
  join : (n : Nat) → List Dyn → Option (SDen.den n)
  join_ok' : ∀ n l x, join n l = some x → split n x = l
  fts : Nat → List Ty
  fld : (n f : Nat) → SDen.den n → Option (Nat × Dyn)
  fld_ok : ∀ n f x off D, fld n f x = some (off, D) → (((SRep.rep n).cp x).drop off).take D.t.rep.size = D.t.rep.cp D.d ∧ off + D.t.rep.size ≤ (SRep.rep n).size
  deq : (n : Nat) → DecidableEq (SDen.den n)
  eqs : TypeId → Nat → Bool
  eqs_ok : ∀ t n, eqs t n = true → letI := deq n; EqT P t (SRep.rep n)

theorem PTab.join_ok {P : Program} [PTab P] (n : Nat) (l : List Dyn) (x : SDen.den n) (h : PTab.join (P := P) n l = some x) : (SRep.rep n).cp x = l.map Dyn.rp := by
  rw [PTab.split_ok (P := P) n x, PTab.join_ok' n l x h]

variable [DrawMode] {R : Type} {P : Program} [PTab P] {E : Env} {N : Nat} {K : KT R} {m : Option R} {op : Op} {ty : TypeId} {n : Nat} {env : List (Nat × Ent)} {G : List (Nat × Sh)} {O : List MO}

/-! ### types -/
def aggT (P : Program) (t : TypeId) : Option Bool := match P.underlying t with
  | some (.struct _) => some true
  | some (.array _ _) => some true
  | some _ => some false
  | none => none
theorem aggT_ok {t : TypeId} {b : Bool} (h : aggT P t = some b) (w : World) : (isAgg t).run P w = .ok b w := by
  unfold aggT at h
  split at h
  · rename_i d hu; cases h; simp [isAgg, run_underlying hu]
  · rename_i d hu; cases h; simp [isAgg, run_underlying hu]
  · rename_i d h1 h2 hu
    cases h
    simp only [isAgg, Sem.run_bind, run_underlying hu]
    cases d <;> first | rfl | (exact absurd rfl (h1 _)) | (exact absurd rfl (h2 _ _))
  · cases h

def sizeT (P : Program) (t : TypeId) : Option Nat := (P.info? t).map (·.size)
theorem sizeT_ok {t : TypeId} {k : Nat} (h : sizeT P t = some k) (w : World) : (Go.sizeOf t).run P w = .ok k w := by
  unfold sizeT at h
  cases hi : P.info? t with
  | none => rw [hi] at h; cases h
  | some i => rw [hi] at h; cases h; simp [Go.sizeOf, typeInfo, hi]

def codeN (P : Program) [PTab P] : Nat → TypeId → Option Ty
  | 0, _ => none
  | k + 1, t => match P.underlying t with
    | some (.int kd) => some (.int kd)
    | some .bool => some .bool
    | some .string => some .str
    | some (.slice e) => (codeN P k e).map .sl
    | some (.pointer e) => (codeN P k e).map .op
    | some (.struct _) => (PTab.code P t).map .st
    | some (.array _ _) => (PTab.code P t).map .st
    | _ => none
def codeT (P : Program) [PTab P] (t : TypeId) : Option Ty := codeN P 5 t

/-- elements of type t: their code and how many bytes they take -/
def elT (P : Program) [PTab P] (e : TypeId) : Option (Ty × Nat) :=
  match codeT P e, P.info? e, aggT P e with
  | some c, some i, some g => match i.zero with
    | some z => bif Nat.beq i.size c.rep.size && Nat.beq z.cells.size c.rep.size && (g == c.rep.agg) && Nat.blt 0 c.rep.size && Nat.blt 0 i.bytes then some (c, i.bytes) else none
    | none => none
  | _, _, _ => none
theorem elT_ok {e : TypeId} {c : Ty} {b : Nat} (h : elT P e = some (c, b)) : ElT P e c.rep b := by
  unfold elT at h
  split at h
  · rename_i c' i g hc hi hg
    split at h
    · rename_i z hz
      generalize hb : (Nat.beq i.size c'.rep.size && Nat.beq z.cells.size c'.rep.size && (g == c'.rep.agg) && Nat.blt 0 c'.rep.size && Nat.blt 0 i.bytes) = q at h
      cases q with
      | false => cases h
      | true =>
        simp only [cond_true, Option.some.injEq, Prod.mk.injEq] at h
        obtain ⟨rfl, rfl⟩ := h
        simp only [Bool.and_eq_true, Nat.blt_eq, beq_iff_eq] at hb
        obtain ⟨⟨⟨⟨h1, h2⟩, h3⟩, h4⟩, h5⟩ := hb
        exact ⟨⟨i, hi, Nat.eq_of_beq_eq_true h1, rfl, z, hz, Nat.eq_of_beq_eq_true h2⟩, fun w => by rw [← h3]; exact aggT_ok hg w, h4, h5⟩
    · cases h
  · cases h

/-! ### data as values -/
theorem lkE_keyed_lt : ∀ {es : List Ent} {k i : Nat} {env : List (Nat × Ent)}, i < k → lkE (keyed k es env) i = lkE env i
  | [], _, _, _, _ => rfl
  | e :: es, k, i, env, h => by
    show lkE (keyed (k + 1) es ((k, e) :: env)) i = _
    rw [lkE_keyed_lt (by omega), lkE_cons, if_neg (by omega)]
theorem lkE_keyed {es : List Ent} : ∀ {k i : Nat} {env : List (Nat × Ent)} {e : Ent}, es[i]? = some e → lkE (keyed k es env) (k + i) = some e := by
  induction es with
  | nil => intro k i env e h; simp at h
  | cons x es ih =>
    intro k i env e h
    show lkE (keyed (k + 1) es ((k, x) :: env)) (k + i) = _
    cases i with
    | zero =>
      simp only [List.getElem?_cons_zero, Option.some.injEq] at h
      subst h
      rw [lkE_keyed_lt (by omega), lkE_cons, if_pos (by omega)]
    | succ i =>
      simp only [List.getElem?_cons_succ] at h
      rw [show k + (i + 1) = k + 1 + i from by omega]
      exact ih h

def vrs : Nat → List Dyn → List At
  | _, [] => []
  | n, _ :: l => .vr n :: vrs (n + 1) l
def ents (l : List Dyn) : List Ent := l.map fun D => ⟨D.t, D.d, none⟩

theorem vrs_rp {η : Nat → Hd} {n' : Nat} {es' : List (Nat × Ent)} : ∀ {l : List Dyn} {k : Nat}, (∀ D ∈ l, D.t.one = true) → (∀ i D, l[i]? = some D → lkE es' (k + i) = some (⟨D.t, D.d, none⟩ : Ent)) → (vrs k l).map (At.rp ⟨n', es', η⟩) = l.map Dyn.rp
  | [], _, _, _ => rfl
  | D :: l, k, h1, h2 => by
    simp only [vrs, List.map_cons]
    have h3 := h2 0 D rfl
    rw [Nat.add_zero] at h3
    have e1 : At.rp ⟨n', es', η⟩ (.vr k) = D.rp := by simp only [At.rp, h3, h1 D (by simp), cond_true, Dyn.rp]
    rw [e1, vrs_rp (l := l) (k := k + 1) (fun D hD => h1 D (by simp [hD])) (fun i D hD => by rw [show k + 1 + i = k + (i + 1) from by omega]; exact h2 (i + 1) D hD)]

/-- data as a value, with new entries -/
def valD (P : Program) [PTab P] (n : Nat) (D : Dyn) : Sh × List Ent := match D with
  | ⟨.st k, d⟩ => (.vl true (vrs n (PTab.split (P := P) k d)), ents (PTab.split (P := P) k d))
  | ⟨t, d⟩ => (.vl false [.vr n], [⟨t, d, none⟩])

theorem ents_src {l : List Dyn} : ∀ e ∈ ents l, SrcOk env e := fun e he => by
  obtain ⟨D, _, rfl⟩ := List.mem_map.1 he
  exact .none rfl

theorem valD_rp {D : Dyn} {v : Sh} {add : List Ent} (h : valD P n D = (v, add)) {η : Nat → Hd} {n' : Nat} : v.rp ⟨n', keyed n add env, η⟩ = D.rp ∧ ∀ e ∈ add, SrcOk env e := by
  obtain ⟨t, d⟩ := D
  cases t with
  | st k =>
    cases h
    refine ⟨?_, ents_src⟩
    have h1 := vrs_rp (es' := keyed n (ents (PTab.split (P := P) k d)) env) (η := η) (n' := n') (l := PTab.split (P := P) k d) (k := n) (PTab.split_one k d) (fun i D hD => lkE_keyed (by simp [ents, hD]))
    simp only [Sh.rp, vrp, cond_true]
    rw [h1]
    have h2 : (SRep.rep k).cp d = (PTab.split (P := P) k d).map Dyn.rp := PTab.split_ok k d
    show _ = sh (SRep.rep k) d
    unfold sh
    rw [SRep.agg, h2]; rfl
  | _ => cases h; exact ⟨vr_rp rfl, fun e he => by rw [List.mem_singleton.1 he]; exact .none rfl⟩

theorem OpOk.val (hw : WF n env) {D : Dyn} (h : ∀ η, Rd P E N op ty (gma ⟨n, env, η⟩ G) (oma ⟨n, env, η⟩ O) [] D.rp) :
    OpOk P E N op ty n env G O ⟨(valD P n D).1, (valD P n D).2, 0, [], []⟩ :=
  OpOk.rd' hw (valD_rp (η := fun _ => ⟨.bool true, [], 0, rfl⟩) (n' := 0) rfl).2 fun η => by
    rw [(valD_rp (v := (valD P n D).1) (add := (valD P n D).2) rfl).1]; exact h η

/-! ### cells as data -/
theorem RP.no_at : RP.no.At := fun h => h.elim
theorem Dyn.rp_at {D : Dyn} (ho : D.t.one = true) : D.rp.At := by
  have h1 := Ty.one_agg ho
  have e : D.rp = (D.t.rep.cp D.d).headD (pv Go.undef) := by unfold Dyn.rp sh; rw [h1]; rfl
  have hl := D.t.rep.len D.d
  rw [D.t.rep.one h1] at hl
  obtain ⟨φ, hφ⟩ := List.length_eq_one_iff.1 hl
  rw [e, hφ]
  exact (D.t.rep.at_ D.d φ (by rw [hφ]; simp) : φ.At)
theorem bif_at {b : Bool} {φ ψ : RP} (h1 : φ.At) (h2 : ψ.At) : (bif b then φ else ψ).At := by cases b; exact h2; exact h1
theorem elA_one {hv : Value} {s : Nat} {i : Int} : (elA hv s i).oneCell' = true := by unfold elA; split <;> rfl
theorem elF_one {hv : Value} {s : Nat} {i : Int} {fo : Nat} : (elF hv s i fo).oneCell' = true := by unfold elF; split <;> rfl
theorem ea_at {α : Type} {ρ : Rep α} {x : α} : (Dc.ea ρ x).At := fun ⟨_, _, _, _, _, _, e, _⟩ => by rw [e]; rfl
theorem At.rp_at {c : Cx} (a : At) : (a.rp c).At := by
  cases a with
  | vr i =>
    simp only [At.rp]
    split
    · rename_i e he
      cases ho : e.t.one with
      | false => exact RP.no_at
      | true => exact Dyn.rp_at (D := ⟨e.t, e.d⟩) ho
    · exact RP.no_at
  | ci k n => exact iv_at
  | cb b => exact bv_at
  | ck s => exact sv_at
  | nl => exact pv_at rfl
  | own o h => exact bif_at (pv_at (c.η h).one) RP.no_at
  | ptr o h off => exact bif_at (pv_at rfl) RP.no_at
  | mp o h => exact bif_at (pv_at rfl) RP.no_at
  | fn f l => exact bif_at (pv_at rfl) RP.no_at
  | nilf => exact pv_at rfl
  | nilp => exact pv_at rfl
  | ea i =>
    simp only [At.rp]
    split
    · exact ea_at
    · exact RP.no_at
  | fu i =>
    simp only [At.rp]
    split
    · exact fun h => by obtain ⟨a, e, _⟩ := h; rw [e]; rfl
    · exact RP.no_at
  | oea o h y =>
    simp only [At.rp]
    split
    · exact bif_at (pv_at elA_one) RP.no_at
    · exact bif_at (pv_at rfl) RP.no_at
    · exact RP.no_at
  | oef o h z =>
    simp only [At.rp]
    split
    · split
      · exact bif_at (pv_at elF_one) RP.no_at
      · exact RP.no_at
    · exact RP.no_at
  | junk => exact anyc_at

/-- an operand's cells -/
def opC (G : List (Nat × Sh)) (x : Operand) : Option (List At) := match opd G x with
  | some (.vl true l) => some l
  | some (.vl false [a]) => some [a]
  | _ => none
theorem opC_part {c : Cx} {Ω : List OB} {x : Operand} {l : List At} (h : opC G x = some l) : PartOk E N (gma c G) Ω x (l.map (At.rp c)) := by
  unfold opC at h
  split at h
  · rename_i h1; cases h
    exact part_ag (opd_rp h1) fun φ hφ => by obtain ⟨a, _, rfl⟩ := List.mem_map.1 hφ; exact At.rp_at a
  · rename_i a h1; cases h
    exact part_at (opd_rp (c := c) h1) (At.rp_at a)
  · cases h

theorem PartOk.imp {Γ : List (Nat × RP)} {Ω : List OB} {x : Operand} {φs ψs : List RP} (h : PartOk E N Γ Ω x φs) (hi : ImpAll φs ψs) : PartOk E N Γ Ω x ψs := fun a w hs =>
  let ⟨h1, h2⟩ := h a w hs; ⟨hi.all h1, h2⟩

/-- an atom as data of type t -/
def atD (env : List (Nat × Ent)) (t : Ty) (a : At) : Option Dyn := match a, t with
  | .nl, .sl t => some ⟨.sl t, []⟩
  | a, _ => rdD env a
theorem atD_imp {c : Cx} {t : Ty} {a : At} {D : Dyn} (h : atD c.env t a = some D) {F : FP} {w : World} {v : Value} (hv : (a.rp c).h F w v) : D.rp.h F w v := by
  unfold atD at h
  split at h
  · cases h; exact nil_sl hv
  · rw [← (rdD_rp h).1]; exact hv
def atsD (env : List (Nat × Ent)) : List Ty → List At → Option (List Dyn)
  | [], [] => some []
  | t :: ts, a :: l => (atD env t a).bind fun D => (atsD env ts l).map (D :: ·)
  | _, _ => none
theorem atsD_imp {c : Cx} : ∀ {ts : List Ty} {l : List At} {Ds : List Dyn}, atsD c.env ts l = some Ds → ImpAll (l.map (At.rp c)) (Ds.map Dyn.rp)
  | [], [], _, h => by cases h; trivial
  | t :: ts, a :: l, Ds, h => by
    simp only [atsD] at h
    obtain ⟨D, h1, h2⟩ := Option.bind_eq_some_iff.1 h
    obtain ⟨Ds', h3, rfl⟩ := Option.map_eq_some_iff.1 h2
    exact ⟨fun hv => atD_imp h1 hv, atsD_imp h3⟩
  | [], _ :: _, _, h => by cases h
  | _ :: _, [], _, h => by cases h

/-- one cell as data of type t -/
def celD1 (env : List (Nat × Ent)) (t : Ty) : List At → Option t.den
  | [a] => (atD env t a).bind fun D => if h : D.t = t then some (h ▸ D.d) else none
  | _ => none
/-- cells as data of type t -/
def celD (P : Program) [PTab P] (env : List (Nat × Ent)) (t : Ty) (l : List At) : Option t.den := match t with
  | .st k => (atsD env (PTab.fts P k) l).bind (PTab.join (P := P) k)
  | t => celD1 env t l
theorem celD1_imp {c : Cx} {t : Ty} (ht : t.one = true) {l : List At} {d : t.den} (h : celD1 c.env t l = some d) : ImpAll (l.map (At.rp c)) (t.rep.cp d) := by
  unfold celD1 at h
  split at h
  · rename_i x
    obtain ⟨D, h1, h2⟩ := Option.bind_eq_some_iff.1 h
    split at h2
    · rename_i e
      subst e
      cases h2
      have hl := D.t.rep.len D.d
      rw [D.t.rep.one (Ty.one_agg ht)] at hl
      obtain ⟨φ, hφ⟩ := List.length_eq_one_iff.1 hl
      have e2 : D.rp = φ := by
        have e3 : D.rp = (D.t.rep.cp D.d).headD (pv Go.undef) := by unfold Dyn.rp sh; rw [Ty.one_agg ht]; rfl
        rw [e3, hφ]; rfl
      show ImpAll [x.rp c] (D.t.rep.cp D.d)
      rw [hφ]
      exact ⟨fun hv => by rw [← e2]; exact atD_imp h1 hv, trivial⟩
    · cases h2
  · cases h
theorem celD_imp {c : Cx} {t : Ty} {l : List At} {d : t.den} (h : celD P c.env t l = some d) : ImpAll (l.map (At.rp c)) (t.rep.cp d) := by
  cases t with
  | st k =>
    simp only [celD] at h
    obtain ⟨Ds, h1, h2⟩ := Option.bind_eq_some_iff.1 h
    have h3 : (SRep.rep k).cp d = Ds.map Dyn.rp := PTab.join_ok k Ds d h2
    show ImpAll _ ((SRep.rep k).cp d)
    rw [h3]
    exact atsD_imp h1
  | int k => exact celD1_imp rfl h
  | bool => exact celD1_imp rfl h
  | str => exact celD1_imp rfl h
  | sl t => exact celD1_imp rfl h
  | op t => exact celD1_imp rfl h
  | mp k v => exact celD1_imp rfl h
  | vec k => exact celD1_imp rfl h

def opT (P : Program) [PTab P] (env : List (Nat × Ent)) (G : List (Nat × Sh)) (t : Ty) (x : Operand) : Option t.den := (opC G x).bind (celD P env t)
theorem opT_part {η : Nat → Hd} {Ω : List OB} {x : Operand} {t : Ty} {d : t.den} (h : opT P env G t x = some d) : PartOk E N (gma ⟨n, env, η⟩ G) Ω x (t.rep.cp d) := by
  obtain ⟨l, h1, h2⟩ := Option.bind_eq_some_iff.1 h
  exact (opC_part h1).imp (celD_imp (c := ⟨n, env, η⟩) h2)
end Go.Dc

set_option linter.unusedSectionVars false
set_option linter.unusedVariables false
/-! More operations that only look. -/
namespace Go.Dc
variable [DrawMode] {R : Type} {P : Program} [PTab P] {E : Env} {N : Nat} {K : KT R} {m : Option R} {op : Op} {ty : TypeId} {n : Nat} {env : List (Nat × Ent)} {G : List (Nat × Sh)} {O : List MO}

/-- a value that is there -/
def resS (v : Sh) : OpR := ⟨v, [], 0, [], []⟩

def moveE (G : List (Nat × Sh)) (x : Operand) : Ask OpR := Ask.of (opd G x) fun v => .ret (resS v)
theorem moveE_ok (hw : WF n env) {x : Operand} : AskOk (OpOk P E N (.move x) ty n env G O) (moveE G x) :=
  AskOk.of fun v h => OpOk.same hw fun η => (r_move (opd_rp (c := ⟨n, env, η⟩) h))
theorem assignE_ok (hw : WF n env) {x : Operand} : AskOk (OpOk P E N (.assign x) ty n env G O) (moveE G x) :=
  AskOk.of fun v h => OpOk.same hw fun η => (r_assign (opd_rp (c := ⟨n, env, η⟩) h))

def pickE (env : List (Nat × Ent)) (G : List (Nat × Sh)) (c x y : Operand) : Ask OpR := Ask.of (opA G c) fun a => match a with
  | .cb true => Ask.of (opd G x) fun v => .ret (resS v)
  | .cb false => Ask.of (opd G y) fun v => .ret (resS v)
  | _ => .fail
theorem pickE_ok (hw : WF n env) {c x y : Operand} : AskOk (OpOk P E N (.pick c x y) ty n env G O) (pickE env G c x y) :=
  AskOk.of fun a h => by
    have hc := fun η => opA_rp (c := ⟨n, env, η⟩) h
    split
    · exact AskOk.of fun v h => OpOk.same hw fun η => (r_pickT (hc η) (opd_rp h))
    · exact AskOk.of fun v h => OpOk.same hw fun η => (r_pickF (hc η) (opd_rp h))
    · trivial

def extractE (G : List (Nat × Sh)) (x : Operand) (i : Nat) : Ask OpR := Ask.of (opd G x) fun v => match v with
  | .tup l => Ask.of l[i]? fun p => .ret (resS (.vl p.1 p.2))
  | _ => .fail
theorem extractE_ok (hw : WF n env) {x : Operand} {i : Nat} : AskOk (OpOk P E N (.extract x i) ty n env G O) (extractE G x i) :=
  AskOk.of fun v h => by
    split
    · rename_i l
      exact AskOk.of fun p hp => OpOk.same hw fun η => (r_extract (opd_rp (c := ⟨n, env, η⟩) h) (by rw [List.getElem?_map, hp]; rfl))
    · trivial

def fieldE (P : Program) (G : List (Nat × Sh)) (t : TypeId) (x : Operand) (f : Nat) : Ask OpR :=
  Ask.of (match P.underlying t with | some (.struct fs) => fs[f]? | _ => none) fun fd =>
  Ask.of (aggT P fd.type) fun g => Ask.of (sizeT P fd.type) fun k => Ask.of (opd G x) fun v => match v with
    | .vl true l => bif g then .ret (resS (.vl true ((l.drop fd.offset).take k))) else Ask.of l[fd.offset]? fun a => .ret (resS (.vl false [a]))
    | _ => .fail
theorem fieldE_ok (hw : WF n env) {t : TypeId} {x : Operand} {f : Nat} : AskOk (OpOk P E N (.field t x f) ty n env G O) (fieldE P G t x f) :=
  AskOk.of fun fd hf => AskOk.of fun g hg => AskOk.of fun k hk => AskOk.of fun v h => by
    obtain ⟨fs, hu, hf⟩ : ∃ fs, P.underlying t = some (.struct fs) ∧ fs[f]? = some fd := by
      split at hf
      · rename_i fs hu; exact ⟨fs, hu, hf⟩
      · cases hf
    split
    · rename_i l
      cases g with
      | true => exact OpOk.same hw fun η => (r_field hu hf rfl (aggT_ok hg) (sizeT_ok hk) (opd_rp (c := ⟨n, env, η⟩) h) (by simp only [List.map_drop, List.map_take]))
      | false => exact AskOk.of fun a ha => OpOk.same hw fun η => (r_field1 hu hf rfl (aggT_ok hg) (opd_rp (c := ⟨n, env, η⟩) h) (by rw [List.getElem?_map, ha]; rfl))
    · trivial

/-! ### comparisons and arithmetic -/
def isShift : BinOp → Bool
  | .shl => true
  | .shr => true
  | _ => false
def intE (n : Nat) (env : List (Nat × Ent)) (G : List (Nat × Sh)) (b : BinOp) (x y : Operand) : Ask OpR :=
  Ask.of (opI env G x) fun u => Ask.of (opI env G y) fun v => if v.1 = u.1 ∨ isShift b = true then binI n b u.1 u.2 v.2 (opLit G y) else .fail
theorem intE_ok (hw : WF n env) {b : BinOp} {t yt : TypeId} {x y : Operand} : AskOk (OpOk P E N (.binOp b t x y yt) ty n env G O) (intE n env G b x y) :=
  AskOk.of fun u hu => AskOk.of fun v hv => by
    split
    · rename_i h
      refine binI_ok hw (k' := v.1) hu hv (h.imp id fun h => ?_)
      cases b <;> first | exact .inl rfl | exact .inr rfl | cases h
    · trivial

def boolE (P : Program) (n : Nat) (env : List (Nat × Ent)) (G : List (Nat × Sh)) (b : BinOp) (t : TypeId) (x y : Operand) : Ask OpR :=
  Ask.of (opB env G x) fun u => Ask.of (opB env G y) fun v => match P.underlying t, b with
    | some .bool, .eql => .ret (resD n .bool (u == v : Bool))
    | some .bool, .neq => .ret (resD n .bool (!(u == v) : Bool))
    | _, _ => .fail
theorem boolE_ok (hw : WF n env) {b : BinOp} {t yt : TypeId} {x y : Operand} : AskOk (OpOk P E N (.binOp b t x y yt) ty n env G O) (boolE P n env G b t x y) :=
  AskOk.of fun u hu => AskOk.of fun v hv => by
    have hx := fun η => opB_rp (n := n) (η := η) hu
    have hy := fun η => opB_rp (n := n) (η := η) hv
    split
    · rename_i h; exact OpOk.dat hw rfl fun η => (r_beql h (hx η) (hy η))
    · rename_i h; exact OpOk.dat hw rfl fun η => (r_bneq h (hx η) (hy η))
    · trivial

def strE (n : Nat) (env : List (Nat × Ent)) (G : List (Nat × Sh)) (b : BinOp) (x y : Operand) : Ask OpR :=
  Ask.of (opS env G x) fun u => Ask.of (opS env G y) fun v => match b with
    | .eql => .ret (resD n .bool (u.toList == v.toList : Bool))
    | .neq => .ret (resD n .bool (!(u.toList == v.toList) : Bool))
    | .lss => .ret (resD n .bool (Go.Op.bytesLess u.toList v.toList))
    | .geq => .ret (resD n .bool (!Go.Op.bytesLess u.toList v.toList : Bool))
    | .gtr => .ret (resD n .bool (!(Go.Op.bytesLess u.toList v.toList || u.toList == v.toList) : Bool))
    | .add => .bind (sconM u v) fun r => .ret (resD n .str r)
    | _ => .fail
theorem strE_ok (hw : WF n env) {b : BinOp} {t yt : TypeId} {x y : Operand} : AskOk (OpOk P E N (.binOp b t x y yt) ty n env G O) (strE n env G b x y) :=
  AskOk.of fun u hu => AskOk.of fun v hv => by
    have hx := fun η => opS_rp (n := n) (η := η) hu
    have hy := fun η => opS_rp (n := n) (η := η) hv
    split
    · exact OpOk.dat hw rfl fun η => (r_seql (hx η) (hy η))
    · exact OpOk.dat hw rfl fun η => (r_sneq (hx η) (hy η))
    · exact OpOk.dat hw rfl fun η => (r_slss (hx η) (hy η))
    · exact OpOk.dat hw rfl fun η => (r_sgeq (hx η) (hy η))
    · exact OpOk.dat hw rfl fun η => (r_sgtr (hx η) (hy η))
    · exact fun r hr => OpOk.dat hw rfl fun η => (r_sadd hr (hx η) (hy η))
    · trivial

/-- cells as data, word by word -/
def rdAll (env : List (Nat × Ent)) : List At → Option (List Dyn)
  | [] => some []
  | a :: l => (rdD env a).bind fun D => (rdAll env l).map (D :: ·)
theorem rdAll_rp {c : Cx} : ∀ {l : List At} {Ds : List Dyn}, rdAll c.env l = some Ds → l.map (At.rp c) = Ds.map Dyn.rp
  | [], _, h => by cases h; rfl
  | a :: l, Ds, h => by
    simp only [rdAll] at h
    obtain ⟨D, h1, h2⟩ := Option.bind_eq_some_iff.1 h
    obtain ⟨Ds', h3, rfl⟩ := Option.map_eq_some_iff.1 h2
    rw [List.map_cons, List.map_cons, (rdD_rp h1).1, rdAll_rp h3]
def opG (P : Program) [PTab P] (env : List (Nat × Ent)) (G : List (Nat × Sh)) (k : Nat) (x : Operand) : Option (SDen.den k) := match opd G x with
  | some (.vl true l) => (rdAll env l).bind (PTab.join (P := P) k)
  | _ => none
theorem opG_rp {η : Nat → Hd} {k : Nat} {x : Operand} {d : SDen.den k} (h : opG P env G k x = some d) : lkO (gma ⟨n, env, η⟩ G) x = some (ag ((SRep.rep k).cp d)) := by
  unfold opG at h
  split at h
  · rename_i l h1
    obtain ⟨Ds, h2, h3⟩ := Option.bind_eq_some_iff.1 h
    rw [opd_rp h1, PTab.join_ok k Ds d h3, ← rdAll_rp (c := ⟨n, env, η⟩) h2]; rfl
  · cases h

def strctE (P : Program) [PTab P] (n : Nat) (env : List (Nat × Ent)) (G : List (Nat × Sh)) (b : BinOp) (t : TypeId) (x y : Operand) : Ask OpR :=
  Ask.of (PTab.code P t) fun k => Ask.when (PTab.eqs P t k) (Ask.of (opG P env G k x) fun u => Ask.of (opG P env G k y) fun v => letI := PTab.deq (P := P) k; match b with
    | .eql => .ret (resD n .bool (decide (u = v)))
    | .neq => .ret (resD n .bool (!decide (u = v) : Bool))
    | _ => .fail)
theorem strctE_ok (hw : WF n env) {b : BinOp} {t yt : TypeId} {x y : Operand} : AskOk (OpOk P E N (.binOp b t x y yt) ty n env G O) (strctE P n env G b t x y) :=
  AskOk.of fun k _ => AskOk.when fun he => AskOk.of fun u hu => AskOk.of fun v hv => by
    letI := PTab.deq (P := P) k
    have heq : EqT P t (SRep.rep k) := PTab.eqs_ok t k he
    split
    · exact OpOk.dat hw rfl fun η => (r_steql heq (opG_rp hu) (opG_rp hv) rfl rfl)
    · exact OpOk.dat hw rfl fun η => (r_stneq heq (opG_rp hu) (opG_rp hv) rfl rfl)
    · trivial

/-- pointers to shared data against nil -/
def optE (P : Program) (n : Nat) (env : List (Nat × Ent)) (G : List (Nat × Sh)) (b : BinOp) (t : TypeId) (x y : Operand) : Ask OpR :=
  match b, P.underlying t, opA G y with
  | .neq, some (.pointer _), some .nilp => Ask.of (opA G x) fun a => match a with
    | .nilp => .ret (resD n .bool false)
    | .vr i => Ask.of (rdD env (.vr i)) fun D => match D with
      | ⟨.op t, d⟩ => .ret (resD n .bool d.isSome)
      | _ => .fail
    | _ => .fail
  | _, _, _ => .fail
theorem optE_ok (hw : WF n env) {b : BinOp} {t yt : TypeId} {x y : Operand} : AskOk (OpOk P E N (.binOp b t x y yt) ty n env G O) (optE P n env G b t x y) := by
  unfold optE
  split
  · rename_i e hu hy
    refine AskOk.of fun a ha => ?_
    have hy' := fun η => opA_rp (c := ⟨n, env, η⟩) hy
    split
    · exact OpOk.dat hw rfl fun η => (r_optneq (ρ := rB) (o := none) hu (opA_rp (c := ⟨n, env, η⟩) ha) (hy' η))
    · refine AskOk.of fun D hD => ?_
      split
      · rename_i t' d
        refine OpOk.dat hw rfl fun η => (r_optneq (ρ := t'.rep) (o := d) hu ?_ (hy' η))
        rw [opA_rp (c := ⟨n, env, η⟩) ha, (rdD_rp (c := ⟨n, env, η⟩) hD).1]; rfl
      · trivial
    · trivial
  · trivial

def binE (P : Program) [PTab P] (n : Nat) (env : List (Nat × Ent)) (G : List (Nat × Sh)) (b : BinOp) (t : TypeId) (x y : Operand) : Ask OpR :=
  match opd G x with
  | some (.vl true _) => strctE P n env G b t x y
  | _ => match (opD env G x).map (fun D => D.t) with
    | some (Ty.int _) => intE n env G b x y
    | some Ty.bool => boolE P n env G b t x y
    | some Ty.str => strE n env G b x y
    | _ => optE P n env G b t x y
theorem binE_ok (hw : WF n env) {b : BinOp} {t yt : TypeId} {x y : Operand} : AskOk (OpOk P E N (.binOp b t x y yt) ty n env G O) (binE P n env G b t x y) := by
  unfold binE
  split
  · exact strctE_ok hw
  · split
    · exact intE_ok hw
    · exact boolE_ok hw
    · exact strE_ok hw
    · exact optE_ok hw

def unE (n : Nat) (env : List (Nat × Ent)) (G : List (Nat × Sh)) (b : UnOp) (x : Operand) : Ask OpR := match b with
  | .not => Ask.of (opB env G x) fun u => .ret (resD n .bool (!u : Bool))
  | .neg => Ask.of (opI env G x) fun u => .ret (resD n (.int u.1) (ineg u.1 u.2))
  | .xor => Ask.of (opI env G x) fun u => .ret (resD n (.int u.1) (icom u.1 u.2))
  | _ => .fail
theorem unE_ok (hw : WF n env) {b : UnOp} {t : TypeId} {x : Operand} : AskOk (OpOk P E N (.unOp b t x) ty n env G O) (unE n env G b x) := by
  cases b with
  | not => exact AskOk.of fun u hu => OpOk.dat hw rfl fun η => (r_not (opB_rp hu))
  | neg => exact AskOk.of fun u hu => OpOk.dat hw rfl fun η => (r_neg (opI_rp hu))
  | xor => exact AskOk.of fun u hu => OpOk.dat hw rfl fun η => (r_com (opI_rp hu))
  | plus => trivial

def convE (P : Program) (n : Nat) (env : List (Nat × Ent)) (G : List (Nat × Sh)) (s d : TypeId) (x : Operand) : Ask OpR := match P.underlying s, P.underlying d with
  | some (.int _), some (.int k') => Ask.of (opI env G x) fun u => .ret (resD n (.int k') (k'.wrap u.2))
  | some (.slice e), some .string => match P.underlying e with
    | some (.int .u8) => Ask.of (opL env G x) fun l => match l with
      | ⟨.int .u8, l⟩ => .ret (resD n .str (bstr l))
      | _ => .fail
    | _ => .fail
  | _, _ => .fail
theorem convE_ok (hw : WF n env) {s d : TypeId} {x : Operand} : AskOk (OpOk P E N (.convert s d x) ty n env G O) (convE P n env G s d x) := by
  unfold convE
  split
  · rename_i h1 h2
    exact AskOk.of fun u hu => OpOk.dat hw rfl fun η => (r_conv h2 (by rw [h1]; rfl) (opI_rp hu))
  · rename_i e h1 h2
    split
    · rename_i h3
      refine AskOk.of fun l hl => ?_
      split
      · exact OpOk.dat hw rfl fun η => (r_b2s h1 h2 h3 (opL_rp hl))
      · trivial
    · trivial
  · trivial

def nilcE (G : List (Nat × Sh)) (x : Operand) : Ask OpR := Ask.of (opA G x) fun a => match a with
  | .ptr o h off => .ret (resS (.vl false [.ptr o h off]))
  | _ => .fail
theorem nilcE_ok (hw : WF n env) {x : Operand} : AskOk (OpOk P E N (.nilCheck x) ty n env G O) (nilcE G x) :=
  AskOk.of fun a ha => by
    split
    · rename_i o h off
      refine OpOk.same hw fun η => ?_
      have h1 := opA_rp (c := ⟨n, env, η⟩) ha
      cases hb : Nat.blt h n with
      | true =>
        have e : (At.ptr o h off).rp ⟨n, env, η⟩ = pv (ptr (η h).b off) := by simp only [At.rp, hb, cond_true]
        show Rd _ _ _ _ _ _ _ _ ((At.ptr o h off).rp ⟨n, env, η⟩)
        rw [e] at h1 ⊢
        exact r_nilc h1
      | false =>
        have e : (At.ptr o h off).rp ⟨n, env, η⟩ = RP.no := by simp only [At.rp, hb, cond_false]
        rw [e] at h1
        exact fun a w hs => (hs.op h1).elim
    · trivial
end Go.Dc

set_option linter.unusedSectionVars false
set_option linter.unusedVariables false
/-! Operations on memory. -/
namespace Go.Dc
variable [DrawMode] {R : Type} {P : Program} [PTab P] {E : Env} {N : Nat} {K : KT R} {m : Option R} {op : Op} {ty : TypeId} {n : Nat} {env : List (Nat × Ent)} {G : List (Nat × Sh)} {O : List MO}

def updH (η : Nat → Hd) (k : Nat) (d : Hd) : Nat → Hd := fun i => bif Nat.beq i k then d else η i
theorem updH_at {η : Nat → Hd} {k : Nat} {d : Hd} : updH η k d k = d := by simp [updH]
theorem updH_lt {η : Nat → Hd} {k h : Nat} {d : Hd} (hh : h < k) : updH η k d h = η h := by simp only [updH]; rw [beq_ne (by omega)]; rfl

theorem oa_one {α : Type} {ρ : Rep α} {hv : Value} {S : List Nat} {d : List α} {F : FP} {w : World} (h : (oa ρ hv S d).h F w) : hv.oneCell' = true := by
  obtain ⟨a, c, e, _⟩ := h; rw [e]; rfl

theorem Sat.mem_ob {Γ : List (Nat × RP)} {Ω : List OB} {a : Act} {w : World} (hs : Sat E N Γ Ω a w) {o : OB} (ho : o ∈ Ω) : o.h (fr E Ω) w := hs.ob o ho

/-- a new slice of ours -/
theorem OpOk.newA (hw : WF n env) {t : Ty} {d : List t.den} (h : ∀ η, St P E N op ty (gma ⟨n, env, η⟩ G) (oma ⟨n, env, η⟩ O) [] (fun X : Value × List Nat => pv X.1) (fun X => oma ⟨n, env, η⟩ O ++ [oa t.rep X.1 X.2 d])) :
    OpOk P E N op ty n env G O ⟨.vl false [.own O.length (n + 1)], [⟨.sl t, d, none⟩], 1, [], [.oa (n + 1) n]⟩ := by
  have hsrc : ∀ e ∈ [(⟨.sl t, d, none⟩ : Ent)], SrcOk env e := fun e he => by rw [List.mem_singleton.1 he]; exact .none rfl
  refine ⟨hsrc, (fun _ _ h => by cases h), fun η => ?_⟩
  have h := h η
  refine h.to' fun X a w hs => ?_
  have h1 := oa_one (hs.mem_ob (o := oa t.rep X.1 X.2 d) (by simp))
  refine ⟨⟨updH η (n + 1) ⟨X.1, X.2, 0, h1⟩, fun k hk => updH_lt (by omega)⟩, ?_, ?_⟩
  · simp only [OpR.O', updO]
    refine oma_add (OpOk.ext hw (r := ⟨.vl false [.own O.length (n + 1)], [⟨.sl t, d, none⟩], 1, [], [.oa (n + 1) n]⟩) hsrc ⟨updH η (n + 1) ⟨X.1, X.2, 0, h1⟩, fun k hk => updH_lt (by omega)⟩) ?_ hs
    simp only [MO.ob, OpR.cx', OpR.env', OpR.n', keyed, lkE_cons, if_true, Option.bind_some, Dyn.ob, Ent.asSl, updH_at]
    rw [show Nat.blt (n + 1) (n + [(⟨.sl t, d, none⟩ : Ent)].length + 1) = true from by simp [Nat.blt_eq]]
    rfl
  · simp only [Sh.rp, vrp, cond_false, List.map_cons, List.headD_cons, At.rp, OpR.cx', OpR.n', updH_at]
    rw [show Nat.blt (n + 1) (n + [(⟨.sl t, d, none⟩ : Ent)].length + 1) = true from by simp [Nat.blt_eq]]
    rfl

/-- a slice of ours changes, its handle too -/
theorem OpOk.chgA (hw : WF n env) {t : Ty} {d : List t.den} {j : Nat} (h : ∀ η, St P E N op ty (gma ⟨n, env, η⟩ G) (oma ⟨n, env, η⟩ O) [j] (fun X : Value × List Nat => pv X.1) (fun X => (oma ⟨n, env, η⟩ O).set j (oa t.rep X.1 X.2 d))) (hj : j < O.length) :
    OpOk P E N op ty n env G O ⟨.vl false [.own j (n + 1)], [⟨.sl t, d, none⟩], 1, [(j, .oa (n + 1) n)], []⟩ := by
  have hsrc : ∀ e ∈ [(⟨.sl t, d, none⟩ : Ent)], SrcOk env e := fun e he => by rw [List.mem_singleton.1 he]; exact .none rfl
  refine ⟨hsrc, (fun _ h => by cases h), fun η => ?_⟩
  have h := h η
  refine h.to' fun X a w hs => ?_
  have h1 := oa_one (hs.mem_ob (o := oa t.rep X.1 X.2 d) (List.mem_iff_getElem?.2 ⟨j, by rw [List.getElem?_set_self (by simpa [oma] using hj)]⟩))
  refine ⟨⟨updH η (n + 1) ⟨X.1, X.2, 0, h1⟩, fun k hk => updH_lt (by omega)⟩, ?_, ?_⟩
  · simp only [OpR.O', updO, List.append_nil]
    refine oma_set (OpOk.ext hw (r := ⟨.vl false [.own j (n + 1)], [⟨.sl t, d, none⟩], 1, [(j, .oa (n + 1) n)], []⟩) hsrc ⟨updH η (n + 1) ⟨X.1, X.2, 0, h1⟩, fun k hk => updH_lt (by omega)⟩) ?_ hs
    simp only [MO.ob, OpR.cx', OpR.env', OpR.n', keyed, lkE_cons, if_true, Option.bind_some, Dyn.ob, Ent.asSl, updH_at]
    rw [show Nat.blt (n + 1) (n + [(⟨.sl t, d, none⟩ : Ent)].length + 1) = true from by simp [Nat.blt_eq]]
    rfl
  · simp only [Sh.rp, vrp, cond_false, List.map_cons, List.headD_cons, At.rp, OpR.cx', OpR.n', updH_at]
    rw [show Nat.blt (n + 1) (n + [(⟨.sl t, d, none⟩ : Ent)].length + 1) = true from by simp [Nat.blt_eq]]
    rfl

/-- a new variable -/
theorem OpOk.newC (hw : WF n env) {l : List At} (h : ∀ η, St P E N op ty (gma ⟨n, env, η⟩ G) (oma ⟨n, env, η⟩ O) [] (fun b : Nat => pv (ptr b 0)) (fun b => oma ⟨n, env, η⟩ O ++ [oc b (l.map (At.rp ⟨n, env, η⟩))])) :
    OpOk P E N op ty n env G O ⟨.vl false [.ptr O.length n 0], [], 1, [], [.oc n l]⟩ := by
  have hsrc : ∀ e ∈ ([] : List Ent), SrcOk env e := fun e he => by simp at he
  refine ⟨hsrc, (fun _ _ h => by cases h), fun η => ?_⟩
  have h := h η
  refine h.to' fun b a w hs => ?_
  have hx := OpOk.ext hw (r := ⟨.vl false [.ptr O.length n 0], [], 1, [], [.oc n l]⟩) hsrc ⟨updH η n ⟨.bool true, [], b, rfl⟩, fun k hk => updH_lt (by omega)⟩
  refine ⟨⟨updH η n ⟨.bool true, [], b, rfl⟩, fun k hk => updH_lt (by omega)⟩, ?_, ?_⟩
  · simp only [OpR.O', updO]
    refine oma_add hx ?_ hs
    obtain ⟨cells, ty', _, hl⟩ := hs.mem_ob (o := oc b (l.map (At.rp ⟨n, env, η⟩))) (by simp)
    simp only [MO.ob]
    rw [atl_eq hx hl]
    simp only [OpR.cx', OpR.n', updH_at]
    rw [show Nat.blt n (n + ([] : List Ent).length + 1) = true from by simp [Nat.blt_eq]]
    rfl
  · simp only [Sh.rp, vrp, cond_false, List.map_cons, List.headD_cons, At.rp, OpR.cx', OpR.n', updH_at]
    rw [show Nat.blt n (n + ([] : List Ent).length + 1) = true from by simp [Nat.blt_eq]]
    rfl

/-- a variable is written -/
theorem OpOk.setC (hw : WF n env) {l : List At} {j k : Nat} {X : Type} [Inhabited X] (hj : j < O.length) (hk : Nat.blt k n = true)
    (h : ∀ η, St P E N op ty (gma ⟨n, env, η⟩ G) (oma ⟨n, env, η⟩ O) [j] (fun _ : X => pv Go.undef) (fun _ => (oma ⟨n, env, η⟩ O).set j (oc (η k).b (l.map (At.rp ⟨n, env, η⟩))))) :
    OpOk P E N op ty n env G O ⟨.undef, [], 0, [(j, .oc k l)], []⟩ := by
  have hsrc : ∀ e ∈ ([] : List Ent), SrcOk env e := fun e he => by simp at he
  refine ⟨hsrc, (fun _ h => by cases h), fun η => ?_⟩
  have h := h η
  refine h.to' fun x a w hs => ?_
  refine ⟨⟨η, fun _ _ => rfl⟩, ?_, rfl⟩
  simp only [OpR.O', updO, List.append_nil]
  refine oma_set (OpOk.ext hw (r := ⟨.undef, [], 0, [(j, .oc k l)], []⟩) hsrc ⟨η, fun _ _ => rfl⟩) ?_ hs
  simp only [MO.ob, OpR.cx', OpR.n', OpR.env', keyed]
  rw [show Nat.blt k (n + ([] : List Ent).length + 0) = true from by simpa using hk]
  rfl

/-- the data of a slice of ours change -/
theorem OpOk.setD (hw : WF n env) {t : Ty} {d : List t.den} {j k : Nat} {X : Type} [Inhabited X] (hk : Nat.blt k n = true)
    (h : ∀ η, St P E N op ty (gma ⟨n, env, η⟩ G) (oma ⟨n, env, η⟩ O) [j] (fun _ : X => pv Go.undef) (fun _ => (oma ⟨n, env, η⟩ O).set j (oa t.rep (η k).hv (η k).S d))) :
    OpOk P E N op ty n env G O ⟨.undef, [⟨.sl t, d, none⟩], 0, [(j, .oa k n)], []⟩ := by
  have hsrc : ∀ e ∈ [(⟨.sl t, d, none⟩ : Ent)], SrcOk env e := fun e he => by rw [List.mem_singleton.1 he]; exact .none rfl
  refine ⟨hsrc, (fun _ h => by cases h), fun η => ?_⟩
  have h := h η
  refine h.to' fun x a w hs => ?_
  refine ⟨⟨η, fun _ _ => rfl⟩, ?_, rfl⟩
  simp only [OpR.O', updO, List.append_nil]
  refine oma_set (OpOk.ext hw (r := ⟨.undef, [⟨.sl t, d, none⟩], 0, [(j, .oa k n)], []⟩) hsrc ⟨η, fun _ _ => rfl⟩) ?_ hs
  simp only [MO.ob, OpR.cx', OpR.n', OpR.env', keyed, lkE_cons, if_true, Option.bind_some, Dyn.ob, Ent.asSl]
  rw [blt_mono hk (show n ≤ n + [(⟨.sl t, d, none⟩ : Ent)].length + 0 from by omega)]
  rfl

/-- a new array of numbers -/
theorem OpOk.newV (hw : WF n env) {k : IntKind} {d : List Int} (h : ∀ η, St P E N op ty (gma ⟨n, env, η⟩ G) (oma ⟨n, env, η⟩ O) [] (fun b : Nat => pv (Dc.ptr b 0)) (fun b => oma ⟨n, env, η⟩ O ++ [oc b (d.map (iv k))])) :
    OpOk P E N op ty n env G O ⟨.vl false [.ptr O.length (n + 1) 0], [⟨.vec k, d, none⟩], 1, [], [.oa (n + 1) n]⟩ := by
  have hsrc : ∀ e ∈ [(⟨.vec k, d, none⟩ : Ent)], SrcOk env e := fun e he => by rw [List.mem_singleton.1 he]; exact .none rfl
  refine ⟨hsrc, (fun _ _ h => by cases h), fun η => ?_⟩
  have h := h η
  refine h.to' fun b a w hs => ?_
  refine ⟨⟨updH η (n + 1) ⟨.bool true, [], b, rfl⟩, fun k hk => updH_lt (by omega)⟩, ?_, ?_⟩
  · simp only [OpR.O', updO]
    refine oma_add (OpOk.ext hw (r := ⟨.vl false [.ptr O.length (n + 1) 0], [⟨.vec k, d, none⟩], 1, [], [.oa (n + 1) n]⟩) hsrc ⟨updH η (n + 1) ⟨.bool true, [], b, rfl⟩, fun k hk => updH_lt (by omega)⟩) ?_ hs
    simp only [MO.ob, OpR.cx', OpR.env', OpR.n', keyed, lkE_cons, if_true, Dyn.ob, updH_at]
    rw [show Nat.blt (n + 1) (n + [(⟨.vec k, d, none⟩ : Ent)].length + 1) = true from by simp [Nat.blt_eq]]
    rfl
  · simp only [Sh.rp, vrp, cond_false, List.map_cons, List.headD_cons, At.rp, OpR.cx', OpR.n', updH_at]
    rw [show Nat.blt (n + 1) (n + [(⟨.vec k, d, none⟩ : Ent)].length + 1) = true from by simp [Nat.blt_eq]]
    rfl
/-- its numbers change -/
theorem OpOk.setV (hw : WF n env) {kd : IntKind} {d : List Int} {j k : Nat} {X : Type} [Inhabited X] (hk : Nat.blt k n = true)
    (h : ∀ η, St P E N op ty (gma ⟨n, env, η⟩ G) (oma ⟨n, env, η⟩ O) [j] (fun _ : X => pv Go.undef) (fun _ => (oma ⟨n, env, η⟩ O).set j (oc (η k).b (d.map (iv kd))))) :
    OpOk P E N op ty n env G O ⟨.undef, [⟨.vec kd, d, none⟩], 0, [(j, .oa k n)], []⟩ := by
  have hsrc : ∀ e ∈ [(⟨.vec kd, d, none⟩ : Ent)], SrcOk env e := fun e he => by rw [List.mem_singleton.1 he]; exact .none rfl
  refine ⟨hsrc, (fun _ h => by cases h), fun η => ?_⟩
  have h := h η
  refine h.to' fun x a w hs => ?_
  refine ⟨⟨η, fun _ _ => rfl⟩, ?_, rfl⟩
  simp only [OpR.O', updO, List.append_nil]
  refine oma_set (OpOk.ext hw (r := ⟨.undef, [⟨.vec kd, d, none⟩], 0, [(j, .oa k n)], []⟩) hsrc ⟨η, fun _ _ => rfl⟩) ?_ hs
  simp only [MO.ob, OpR.cx', OpR.n', OpR.env', keyed, lkE_cons, if_true, Dyn.ob]
  rw [blt_mono hk (show n ≤ n + [(⟨.vec kd, d, none⟩ : Ent)].length + 0 from by omega)]
  rfl

/-- data that the operation makes -/
theorem OpOk.newD (hw : WF n env) (hq : isQuiet op = false) {t : Ty} (ht : t.one = true) {d : t.den} {X : Type} (h : ∀ η, St P E N op ty (gma ⟨n, env, η⟩ G) (oma ⟨n, env, η⟩ O) [] (fun _ : X => sh t.rep d) (fun _ => oma ⟨n, env, η⟩ O)) :
    OpOk P E N op ty n env G O (resD n t d) := by
  have hsrc : ∀ e ∈ [(⟨t, d, none⟩ : Ent)], SrcOk env e := fun e he => by rw [List.mem_singleton.1 he]; exact .none rfl
  refine ⟨hsrc, (fun h => by rw [hq] at h; cases h), fun η => ?_⟩
  have h := h η
  refine h.to' fun x a w hs => ?_
  refine ⟨⟨η, fun _ _ => rfl⟩, ?_, ?_⟩
  · show oma _ (O ++ []) = _
    rw [List.append_nil]
    exact oma_good (OpOk.ext hw (r := resD n t d) hsrc ⟨η, fun _ _ => rfl⟩) hs
  · exact vr_rp ht

/-! ### facts about atoms -/
/-- slices of ours: where they stand, their data -/
def ownA (n : Nat) (env : List (Nat × Ent)) (O : List MO) (o h : Nat) : Option (Nat × (t : Ty) × List t.den) := match O[o]? with
  | some (.oa h' i) => bif Nat.beq h' h && Nat.blt h n then ((lkE env i).bind Ent.asSl).map fun p => (i, p) else none
  | _ => none
theorem ownA_ok {o h i : Nat} {t : Ty} {d : List t.den} (hh : ownA n env O o h = some (i, ⟨t, d⟩)) :
    Nat.blt h n = true ∧ o < O.length ∧ (∃ s, lkE env i = some ⟨.sl t, d, s⟩) ∧ ∀ η, (oma ⟨n, env, η⟩ O)[o]? = some (oa t.rep (η h).hv (η h).S d) := by
  unfold ownA at hh
  split at hh
  · rename_i h' i' ho
    cases hb : Nat.beq h' h && Nat.blt h n with
    | false => rw [hb] at hh; cases hh
    | true =>
      rw [hb] at hh
      simp only [cond_true, Option.map_eq_some_iff, Prod.mk.injEq] at hh
      obtain ⟨p, hp, rfl, rfl⟩ := hh
      obtain ⟨e, he, hs⟩ := Option.bind_eq_some_iff.1 hp
      obtain ⟨s, rfl⟩ := asSl_eq hs
      simp only [Bool.and_eq_true] at hb
      obtain ⟨h1, h2⟩ := hb
      obtain rfl := Nat.eq_of_beq_eq_true h1
      refine ⟨h2, (List.getElem?_eq_some_iff.1 ho).1, ⟨s, he⟩, fun η => ?_⟩
      simp only [oma, List.getElem?_map, ho, Option.map_some, MO.ob, he, Option.bind_some, Dyn.ob, Ent.asSl, h2, cond_true]
  · cases hh

/-- slices of ours and maps -/
def anyA (n : Nat) (env : List (Nat × Ent)) (O : List MO) (o h : Nat) : Option (Nat × Dyn) := match O[o]? with
  | some (.oa h' i) => bif Nat.beq h' h && Nat.blt h n then (lkE env i).map fun e => (i, ⟨e.t, e.d⟩) else none
  | _ => none
theorem anyA_ok {o h i : Nat} {D : Dyn} (hh : anyA n env O o h = some (i, D)) :
    Nat.blt h n = true ∧ o < O.length ∧ (∃ s, lkE env i = some ⟨D.t, D.d, s⟩) ∧ ∀ η, (oma ⟨n, env, η⟩ O)[o]? = some (D.ob (η h)) := by
  unfold anyA at hh
  split at hh
  · rename_i h' i' ho
    cases hb : Nat.beq h' h && Nat.blt h n with
    | false => rw [hb] at hh; cases hh
    | true =>
      rw [hb] at hh
      obtain ⟨e, he, hs⟩ := Option.map_eq_some_iff.1 hh
      cases hs
      simp only [Bool.and_eq_true] at hb
      obtain ⟨h1, h2⟩ := hb
      obtain rfl := Nat.eq_of_beq_eq_true h1
      refine ⟨h2, (List.getElem?_eq_some_iff.1 ho).1, ⟨e.src, he⟩, fun η => ?_⟩
      simp only [oma, List.getElem?_map, ho, Option.map_some, MO.ob, he, h2, cond_true]
  · cases hh

/-- variables: their cells -/
def varC (n : Nat) (O : List MO) (o h : Nat) : Option (List At) := match O[o]? with
  | some (.oc h' l) => bif Nat.beq h' h && Nat.blt h n then some l else none
  | _ => none
theorem varC_ok {o h : Nat} {l : List At} (hh : varC n O o h = some l) : Nat.blt h n = true ∧ o < O.length ∧ ∀ η, (oma ⟨n, env, η⟩ O)[o]? = some (oc (η h).b (l.map (At.rp ⟨n, env, η⟩))) := by
  unfold varC at hh
  split at hh
  · rename_i h' l' ho
    cases hb : Nat.beq h' h && Nat.blt h n with
    | false => rw [hb] at hh; cases hh
    | true =>
      rw [hb] at hh
      cases hh
      simp only [Bool.and_eq_true] at hb
      obtain ⟨h1, h2⟩ := hb
      obtain rfl := Nat.eq_of_beq_eq_true h1
      refine ⟨h2, (List.getElem?_eq_some_iff.1 ho).1, fun η => ?_⟩
      simp only [oma, List.getElem?_map, ho, Option.map_some]
      rw [oc_ob h2]
  · cases hh
end Go.Dc

set_option linter.unusedSectionVars false
set_option linter.unusedVariables false
/-! Loads, stores, addresses, new memory. -/
namespace Go.Dc
variable [DrawMode] {R : Type} {P : Program} [PTab P] {E : Env} {N : Nat} {K : KT R} {m : Option R} {op : Op} {ty : TypeId} {n : Nat} {env : List (Nat × Ent)} {G : List (Nat × Sh)} {O : List MO}

/-! ### addresses of fields -/
def strctF (P : Program) (t : TypeId) (f : Nat) : Option Go.Field := match P.underlying t with
  | some (.struct fs) => fs[f]?
  | _ => none
theorem strctF_ok {t : TypeId} {f : Nat} {fd : Go.Field} (h : strctF P t f = some fd) : ∃ fs, P.underlying t = some (.struct fs) ∧ fs[f]? = some fd := by
  unfold strctF at h
  split at h
  · rename_i fs hu; exact ⟨fs, hu, h⟩
  · cases h

/-- the part of an entry that a field is -/
def fldE (P : Program) [PTab P] (e : Ent) (f : Nat) : Option (Nat × Dyn) := match e with
  | ⟨.st k, d, _⟩ => PTab.fld (P := P) k f d
  | _ => none
theorem fldE_ok {e : Ent} {f fo : Nat} {D : Dyn} (h : fldE P e f = some (fo, D)) : ((e.t.rep.cp e.d).drop fo).take D.t.rep.size = D.t.rep.cp D.d ∧ fo + D.t.rep.size ≤ e.t.rep.size := by
  unfold fldE at h
  split at h
  · rename_i k d s; exact PTab.fld_ok k f d fo D h
  · cases h

def ownE (n : Nat) (env : List (Nat × Ent)) (O : List MO) (o h y : Nat) : Option (Ent × Int × (t : Ty) × List t.den) := match lkE env y with
  | some ⟨t, d, some (.el ds ix)⟩ => (ownA n env O o h).bind fun p => bif Nat.beq p.1 ds then some (⟨t, d, some (.el ds ix)⟩, ix, p.2) else none
  | _ => none
/-- an element of a slice of ours -/
theorem ownE_ok (hw : WF n env) {o h y : Nat} {e : Ent} {ix : Int} {p : (t : Ty) × List t.den} (hh : ownE n env O o h y = some (e, ix, p)) :
    lkE env y = some e ∧ (∃ ds, e.src = some (.el ds ix)) ∧ ∃ l : List e.t.den, p = ⟨e.t, l⟩ ∧ idxM l ix = some e.d ∧ Nat.blt h n = true ∧ o < O.length ∧ ∀ η, (oma ⟨n, env, η⟩ O)[o]? = some (oa e.t.rep (η h).hv (η h).S l) := by
  unfold ownE at hh
  split at hh
  · rename_i t d ds ix' he
    obtain ⟨q, hq, h2⟩ := Option.bind_eq_some_iff.1 hh
    cases hb : Nat.beq q.1 ds with
    | false => rw [hb] at h2; cases h2
    | true =>
      rw [hb] at h2
      simp only [cond_true, Option.some.injEq, Prod.mk.injEq] at h2
      obtain ⟨rfl, rfl, rfl⟩ := h2
      obtain ⟨i, t', l⟩ := q
      obtain ⟨h3, h4, ⟨s, h5⟩, h6⟩ := ownA_ok hq
      obtain rfl := Nat.eq_of_beq_eq_true hb
      have h7 := hw.src y _ he
      unfold SrcOk at h7
      obtain ⟨l', s', h8, h9⟩ := h7
      dsimp only at h8
      rw [h5] at h8
      cases h8
      exact ⟨he, ⟨_, rfl⟩, l, rfl, h9, h3, h4, h6⟩
  · cases hh

/-! ### arrays of numbers as variables -/
def vecA (n : Nat) (env : List (Nat × Ent)) (O : List MO) (o h : Nat) : Option (Nat × IntKind × List Int) := match anyA n env O o h with
  | some (i, ⟨.vec k, d⟩) => some (i, k, d)
  | _ => none
theorem vecA_ok {o h i : Nat} {k : IntKind} {d : List Int} (hh : vecA n env O o h = some (i, k, d)) :
    Nat.blt h n = true ∧ o < O.length ∧ (∃ s, lkE env i = some ⟨.vec k, d, s⟩) ∧ ∀ η, (oma ⟨n, env, η⟩ O)[o]? = some (oc (η h).b (d.map (iv k))) := by
  unfold vecA at hh
  split at hh
  · rename_i i' k' d' h1
    cases hh
    obtain ⟨h2, h3, h4, h5⟩ := anyA_ok h1
    exact ⟨h2, h3, h4, h5⟩
  · cases hh
/-- an element of such an array: where it stands, its number -/
def vecE (n : Nat) (env : List (Nat × Ent)) (O : List MO) (o h y : Nat) : Option (IntKind × Int × Int × List Int) := match lkE env y with
  | some ⟨.int k, z, some (.ve ds ix)⟩ => (vecA n env O o h).bind fun p => bif Nat.beq p.1 ds && (p.2.1 == k) then some (k, z, ix, p.2.2) else none
  | _ => none
theorem vecE_ok (hw : WF n env) {o h y : Nat} {k : IntKind} {z ix : Int} {d : List Int} (hh : vecE n env O o h y = some (k, z, ix, d)) :
    (∃ ds, lkE env y = some ⟨.int k, z, some (.ve ds ix)⟩) ∧ idxM d ix = some z ∧ Nat.blt h n = true ∧ o < O.length ∧ ∀ η, (oma ⟨n, env, η⟩ O)[o]? = some (oc (η h).b (d.map (iv k))) := by
  unfold vecE at hh
  split at hh
  · rename_i k' z' ds ix' he
    obtain ⟨⟨i, k2, d'⟩, hq, h2⟩ := Option.bind_eq_some_iff.1 hh
    cases hb : Nat.beq i ds && (k2 == k') with
    | false => rw [hb] at h2; cases h2
    | true =>
      rw [hb] at h2
      simp only [cond_true, Option.some.injEq, Prod.mk.injEq] at h2
      obtain ⟨rfl, rfl, rfl, rfl⟩ := h2
      simp only [Bool.and_eq_true] at hb
      obtain ⟨hb1, hb2⟩ := hb
      obtain rfl := Nat.eq_of_beq_eq_true hb1
      obtain rfl := eq_of_beq hb2
      obtain ⟨h3, h4, ⟨s, h5⟩, h6⟩ := vecA_ok hq
      have h7 := hw.src y _ he
      obtain ⟨k3, l3, s3, y3, h8, h9, h10⟩ := h7
      rw [h5] at h8
      cases h8
      cases h10
      exact ⟨⟨_, he⟩, h9, h3, h4, h6⟩
  · cases hh

def faddrE (P : Program) [PTab P] (n : Nat) (env : List (Nat × Ent)) (G : List (Nat × Sh)) (O : List MO) (t : TypeId) (x : Operand) (f : Nat) : Ask OpR :=
  Ask.of (strctF P t f) fun fd => Ask.of (sizeT P fd.type) fun k => Ask.when (Nat.blt 0 k) (Ask.of (opA G x) fun a => match a with
    | .ptr o h off => Ask.when (Nat.blt h n) (.ret (resS (.vl false [.ptr o h (off + fd.offset)])))
    | .ea i => Ask.of (lkE env i) fun e => Ask.of (fldE P e f) fun p => Ask.when (Nat.beq fd.offset p.1) (.ret ⟨.vl false [.ea n], [⟨p.2.t, p.2.d, none⟩], 0, [], []⟩)
    | .oea o h y => Ask.of (ownE n env O o h y) fun q => Ask.of (fldE P q.1 f) fun p => Ask.when (Nat.beq fd.offset p.1) (.ret ⟨.vl false [.oef o h n], [⟨p.2.t, p.2.d, some (.fl y p.1)⟩], 0, [], []⟩)
    | _ => .fail)
theorem faddrE_ok (hw : WF n env) {t : TypeId} {x : Operand} {f : Nat} : AskOk (OpOk P E N (.fieldAddr t x f) ty n env G O) (faddrE P n env G O t x f) :=
  AskOk.of fun fd hfd => AskOk.of fun k hk => AskOk.when fun hk0 => AskOk.of fun a ha => by
    obtain ⟨fs, hu, hf⟩ := strctF_ok hfd
    obtain ⟨k, rfl⟩ : ∃ k', k = k' + 1 := ⟨k - 1, by simp only [Nat.blt_eq] at hk0; omega⟩
    have hx := fun η => opA_rp (c := ⟨n, env, η⟩) ha
    split
    · rename_i o h off
      refine AskOk.when fun hb => OpOk.same hw fun η => ?_
      have h1 := hx η
      rw [ptr_rp (c := ⟨n, env, η⟩) hb] at h1
      have h2 := r_faddr (E := E) (N := N) (Ω := oma ⟨n, env, η⟩ O) (ty := ty) hu hf rfl (sizeT_ok hk) h1
      show Rd _ _ _ _ _ _ _ _ ((At.ptr o h (off + fd.offset)).rp ⟨n, env, η⟩)
      rw [ptr_rp (c := ⟨n, env, η⟩) hb]
      exact h2
    · rename_i i
      refine AskOk.of fun e he => AskOk.of fun p hp => AskOk.when fun hb => ?_
      obtain ⟨h1, h2⟩ := fldE_ok hp
      have hb := Nat.eq_of_beq_eq_true hb
      refine OpOk.rd' hw (fun e he => by rw [List.mem_singleton.1 he]; exact .none rfl) fun η => ?_
      have h3 := hx η
      simp only [At.rp, he] at h3
      have h4 := r_fea (E := E) (N := N) (Ω := oma ⟨n, env, η⟩ O) (ty := ty) (ρ' := p.2.t.rep) (z := p.2.d) hu hf hb (sizeT_ok hk) h3 h1 (Nat.ble_eq_true_of_le h2)
      simp only [Sh.rp, vrp, cond_false, List.map_cons, List.headD_cons, At.rp, keyed, lkE_cons, if_true]
      exact h4
    · rename_i o h y
      refine AskOk.of fun q hq => AskOk.of fun p hp => AskOk.when fun hb => ?_
      obtain ⟨e, ix, pl⟩ := q
      obtain ⟨he, ⟨ds, hsrc⟩, l, rfl, hi, hbl, hlt, hj⟩ := ownE_ok hw hq
      obtain ⟨h1, h2⟩ := fldE_ok hp
      have hb := Nat.eq_of_beq_eq_true hb
      have hy : y ≠ n := fun h => by have := hw.lt y e he; omega
      refine OpOk.rd' hw (fun e' he' => ?_) fun η => ?_
      · rw [List.mem_singleton.1 he']; exact ⟨e, he, h1, h2⟩
      · have h3 := hx η
        obtain ⟨t', d', s'⟩ := e
        simp only at hsrc
        subst hsrc
        simp only [At.rp, he, hbl, cond_true] at h3
        have h4 := r_foea (E := E) (N := N) (Ω := oma ⟨n, env, η⟩ O) (ty := ty) (ρ := t'.rep) (fo := p.1) hi hu hf hb (sizeT_ok hk) h3 (hj η)
        simp only [Sh.rp, vrp, cond_false, List.map_cons, List.headD_cons, At.rp, keyed, lkE_cons, if_true, if_neg hy, he]
        rw [blt_mono hbl (show n ≤ n + [(⟨p.2.t, p.2.d, some (.fl y p.1)⟩ : Ent)].length from by omega)]
        exact h4
    · trivial

/-! ### loads -/
def resE (P : Program) [PTab P] (n i : Nat) (e : Ent) : OpR := bif e.t.one then resS (.vl false [.vr i]) else ⟨(valD P n ⟨e.t, e.d⟩).1, (valD P n ⟨e.t, e.d⟩).2, 0, [], []⟩
theorem resE_ok (hw : WF n env) {i : Nat} {e : Ent} (he : lkE env i = some e) {J : List Nat} (hJ : ∀ j ∈ J, j ∈ readO G op) (h : ∀ η, Rd P E N op ty (gma ⟨n, env, η⟩ G) (oma ⟨n, env, η⟩ O) J (sh e.t.rep e.d)) : OpOk P E N op ty n env G O (resE P n i e) := by
  unfold resE
  cases ho : e.t.one with
  | true =>
    refine OpOk.rdJ hw (fun e he => by simp at he) hJ fun η => ?_
    show Rd _ _ _ _ _ _ _ _ ((At.vr i).rp ⟨n, env, η⟩)
    simp only [At.rp, he, ho, cond_true]
    exact h η
  | false =>
    refine OpOk.rdJ hw (valD_rp (D := ⟨e.t, e.d⟩) (η := fun _ => ⟨.bool true, [], 0, rfl⟩) (n' := 0) rfl).2 hJ fun η => ?_
    rw [(valD_rp (D := ⟨e.t, e.d⟩) (v := (valD P n ⟨e.t, e.d⟩).1) (add := (valD P n ⟨e.t, e.d⟩).2) rfl).1]; exact h η

theorem cst_no {v : Value} {a : At} {o : Nat} (hc : cst v = some (.vl false [a])) (h : (∃ h off, a = .ptr o h off) ∨ (∃ h y, a = .oea o h y) ∨ (∃ h z, a = .oef o h z)) : False := by
  unfold cst at hc
  split at hc <;> first
    | (cases hc; rcases h with ⟨_, _, e⟩ | ⟨_, _, e⟩ | ⟨_, _, e⟩ <;> cases e; done)
    | (cases hc; done)
theorem readO_load {G : List (Nat × Sh)} {t : TypeId} {x : Operand} {a : At} {o : Nat} (ha : opA G x = some a) (h : (∃ h off, a = .ptr o h off) ∨ (∃ h y, a = .oea o h y) ∨ (∃ h z, a = .oef o h z)) : ∀ j ∈ [o], j ∈ readO G (.load t x) := by
  intro j hj
  rw [List.mem_singleton.1 hj]
  cases x with
  | tmp s =>
    have h1 : lkG G s = some (.vl false [a]) := by
      unfold opA opd at ha
      split at ha
      · rename_i b hb; cases ha; exact hb
      · cases ha
    simp only [readO, h1]
    rcases h with ⟨_, _, rfl⟩ | ⟨_, _, rfl⟩ | ⟨_, _, rfl⟩ <;> simp [addrO]
  | const v =>
    unfold opA at ha
    split at ha
    · rename_i b hb
      cases ha
      exact (cst_no (show cst v = _ from hb) h).elim
    · cases ha
  | func f =>
    unfold opA opd at ha
    cases ha
    rcases h with ⟨_, _, h⟩ | ⟨_, _, h⟩ | ⟨_, _, h⟩ <;> cases h
  | global g => unfold opA opd at ha; cases ha

def loadE (P : Program) [PTab P] (n : Nat) (env : List (Nat × Ent)) (G : List (Nat × Sh)) (O : List MO) (t : TypeId) (x : Operand) : Ask OpR :=
  Ask.of (opA G x) fun a => match a with
    | .ptr o h off => Ask.of (varC n O o h) fun l => Ask.of (aggT P t) fun g => bif g
        then Ask.of (sizeT P t) fun k => Ask.when (Nat.beq ((l.drop off).take k).length k) (.ret (resS (.vl true ((l.drop off).take k))))
        else Ask.of l[off]? fun a => .ret (resS (.vl false [a]))
    | .ea i => Ask.of (lkE env i) fun e => Ask.of (elT P t) fun c => if c.1 = e.t then .ret (resE P n i e) else .fail
    | .oea o h y => match vecE n env O o h y with
      | some v => Ask.of (aggT P t) fun g => Ask.when (!g) (.ret (resS (.vl false [.vr y])))
      | none => Ask.of (ownE n env O o h y) fun q => Ask.of (elT P t) fun c => if c.1 = q.1.t then .ret (resE P n y q.1) else .fail
    | .oef o h z => Ask.of (lkE env z) fun ez => match ez.src with
      | some (.fl y fo) => Ask.of (ownE n env O o h y) fun q => Ask.of (elT P t) fun c => if c.1 = ez.t then .ret (resE P n z ez) else .fail
      | _ => .fail
    | _ => .fail
theorem loadE_ok (hw : WF n env) {t : TypeId} {x : Operand} : AskOk (OpOk P E N (.load t x) ty n env G O) (loadE P n env G O t x) :=
  AskOk.of fun a ha => by
    have hx := fun η => opA_rp (c := ⟨n, env, η⟩) ha
    split
    · rename_i o h off
      refine AskOk.of fun l hl => AskOk.of fun g hg => ?_
      obtain ⟨hb, hlt, hj⟩ := varC_ok (env := env) hl
      cases g with
      | true =>
        refine AskOk.of fun k hk => AskOk.when fun hkl => OpOk.rdJ hw (fun e he => by simp at he) (readO_load ha (.inl ⟨_, _, rfl⟩)) fun η => ?_
        have h1 := hx η
        rw [ptr_rp (c := ⟨n, env, η⟩) hb] at h1
        have h2 := r_cloadS (E := E) (N := N) (ty := ty) (aggT_ok hg) (sizeT_ok hk) h1 (hj η) rfl (by simpa using hkl)
        simp only [Sh.rp, vrp, cond_true]
        rw [List.map_take, List.map_drop]
        exact h2
      | false =>
        refine AskOk.of fun b hb' => OpOk.rdJ hw (fun e he => by simp at he) (readO_load ha (.inl ⟨_, _, rfl⟩)) fun η => ?_
        have h1 := hx η
        rw [ptr_rp (c := ⟨n, env, η⟩) hb] at h1
        exact r_cload (E := E) (N := N) (ty := ty) (aggT_ok hg) h1 (hj η) (by rw [List.getElem?_map, hb']; rfl)
    · rename_i i
      refine AskOk.of fun e he => AskOk.of fun c hc => ?_
      split
      · rename_i h
        obtain ⟨c1, c2⟩ := c
        simp only at h
        subst h
        refine resE_ok hw he (J := []) (fun j hj => by simp at hj) fun η => (r_load (elT_ok hc) ?_)
        have h1 := hx η
        simp only [At.rp, he] at h1
        exact h1
      · trivial
    · rename_i o h y
      split
      · rename_i v hv
        obtain ⟨k, z, ix, d⟩ := v
        obtain ⟨⟨ds, he⟩, hi, hbl, hlt, hj⟩ := vecE_ok hw hv
        refine AskOk.of fun g hg => AskOk.when fun hgg => OpOk.rdJ hw (fun e he => by simp at he) (readO_load ha (.inr (.inl ⟨_, _, rfl⟩))) fun η => ?_
        have hg0 : g = false := by simpa using hgg
        subst hg0
        have h1 := hx η
        simp only [At.rp, he, hbl, cond_true] at h1
        simp only [Sh.rp, vrp, cond_false, List.map_cons, List.headD_cons, At.rp, keyed, he]
        exact r_vload (E := E) (N := N) (ty := ty) hi (aggT_ok hg) h1 (hj η)
      refine AskOk.of fun q hq => AskOk.of fun c hc => ?_
      split
      · rename_i h0
        obtain ⟨e, ix, pl⟩ := q
        obtain ⟨he, ⟨ds, hsrc⟩, l, rfl, hi, hbl, hlt, hj⟩ := ownE_ok hw hq
        obtain ⟨c1, c2⟩ := c
        simp only at h0
        subst h0
        refine resE_ok hw he (readO_load ha (.inr (.inl ⟨_, _, rfl⟩))) fun η => (r_oload hi (elT_ok hc) ?_ (hj η))
        have h1 := hx η
        obtain ⟨t', d', s'⟩ := e
        simp only at hsrc
        subst hsrc
        simp only [At.rp, he, hbl, cond_true] at h1
        exact h1
      · trivial
    · rename_i o h z
      refine AskOk.of fun ez hez => ?_
      split
      · rename_i y fo hsz
        refine AskOk.of fun q hq => AskOk.of fun c hc => ?_
        split
        · rename_i h0
          obtain ⟨e, ix, pl⟩ := q
          obtain ⟨he, ⟨ds, hsrc⟩, l, rfl, hi, hbl, hlt, hj⟩ := ownE_ok hw hq
          obtain ⟨c1, c2⟩ := c
          simp only at h0
          subst h0
          have h7 := hw.src z _ hez
          unfold SrcOk at h7
          rw [hsz] at h7
          obtain ⟨ey, h8, h9, h10⟩ := h7
          rw [he] at h8
          cases h8
          refine resE_ok hw hez (readO_load ha (.inr (.inr ⟨_, _, rfl⟩))) fun η => (r_foload hi (elT_ok hc) ?_ (hj η) h9 (Nat.ble_eq_true_of_le h10))
          have h1 := hx η
          obtain ⟨t', d', s'⟩ := e
          simp only at hsrc
          subst hsrc
          obtain ⟨tz, dz, sz⟩ := ez
          simp only at hsz
          subst hsz
          simp only [At.rp, hez, he, hbl, cond_true] at h1
          exact h1
        · trivial
      · trivial
    · trivial
end Go.Dc

set_option linter.unusedSectionVars false
set_option linter.unusedVariables false
/-! Indices, stores, new variables, struct and slice literals. -/
namespace Go.Dc
variable [DrawMode] {R : Type} {P : Program} [PTab P] {E : Env} {N : Nat} {K : KT R} {m : Option R} {op : Op} {ty : TypeId} {n : Nat} {env : List (Nat × Ent)} {G : List (Nat × Sh)} {O : List MO}

/-! ### indices -/
/-- a slice that all share: its data, and where they stand -/
def slI (env : List (Nat × Ent)) (G : List (Nat × Sh)) (x : Operand) : Option ((t : Ty) × List t.den) := opL env G x

/-- an index that is one of i, i + 1 .. -/
def askIx {α : Type} (ix : Int) (k : Nat → Ask α) : Nat → Nat → Ask α
  | _, 0 => .fail
  | i, m + 1 => .cond (ix == (i : Int)) (k i) (askIx ix k (i + 1) m)
theorem askIx_ok {α : Type} {Q : α → Prop} {ix : Int} {k : Nat → Ask α} {len : Nat} (h : ∀ i, i < len → ix = (i : Int) → AskOk Q (k i)) : ∀ {m i : Nat}, i + m = len → AskOk Q (askIx ix k i m)
  | 0, _, _ => trivial
  | m + 1, i, e => ⟨fun hb => h i (by omega) (eq_of_beq hb), fun _ => askIx_ok h (m := m) (by omega)⟩

def idxE (P : Program) [PTab P] (n : Nat) (env : List (Nat × Ent)) (G : List (Nat × Sh)) (O : List MO) (t : TypeId) (x i : Operand) : Ask OpR :=
  Ask.of (opI env G i) fun ix => match P.underlying t with
  | some (.slice e) => Ask.of (elT P e) fun c => Ask.of (opA G x) fun a => match a with
    | .own o h => Ask.of (ownA n env O o h) fun q => if hc : c.1 = q.2.1 then .bind (idxM q.2.2 ix.2) fun y => .ret ⟨.vl false [.oea o h n], [⟨q.2.1, y, some (.el q.1 ix.2)⟩], 0, [], []⟩ else .fail
    | _ => Ask.of (opL env G x) fun l => if hc : c.1 = l.1 then .bind (idxM l.2 ix.2) fun y => .ret ⟨.vl false [.ea n], [⟨l.1, y, none⟩], 0, [], []⟩ else .fail
  | some (.array len e) => Ask.of (sizeT P e) fun sz => Ask.of (opA G x) fun a => match a with
    | .ptr o h off => match vecA n env O o h with
      | some v => Ask.when (Nat.beq off 0 && Nat.beq sz 1) (.bind (vidxM len v.2.2 ix.2) fun y => .ret ⟨.vl false [.oea o h n], [⟨.int v.2.1, y, some (.ve v.1 ix.2)⟩], 0, [], []⟩)
      | none => Ask.when (Nat.blt h n) (bif opLit G i then (if 0 ≤ ix.2 ∧ ix.2 < len then .ret (resS (.vl false [.ptr o h (off + ix.2.toNat * sz)])) else .fail)
      else Ask.when (Nat.ble len 8) (askIx ix.2 (fun j => .ret (resS (.vl false [.ptr o h (off + j * sz)]))) 0 len))
    | _ => .fail
  | _ => .fail
theorem idxE_ok (hw : WF n env) {t : TypeId} {x i : Operand} : AskOk (OpOk P E N (.indexAddr t x i) ty n env G O) (idxE P n env G O t x i) :=
  AskOk.of fun ix hix => by
    have hi := fun η => opI_rp (n := n) (η := η) hix
    split
    · rename_i e hu
      refine AskOk.of fun c hc => AskOk.of fun a ha => ?_
      have hx := fun η => opA_rp (c := ⟨n, env, η⟩) ha
      split
      · rename_i o h
        refine AskOk.of fun q hq => ?_
        split
        · rename_i hct
          obtain ⟨i0, t', l⟩ := q
          obtain ⟨c1, c2⟩ := c
          simp only at hct
          subst hct
          obtain ⟨hb, hlt, ⟨s, he⟩, hj⟩ := ownA_ok hq
          intro y hy
          refine OpOk.rd' hw (fun e' he' => ?_) fun η => ?_
          · rw [List.mem_singleton.1 he']; exact ⟨l, s, he, hy⟩
          · have h1 := hx η
            rw [own_rp (c := ⟨n, env, η⟩) hb] at h1
            have h2 := r_oindex (E := E) (N := N) (ty := ty) hy hu (elT_ok hc) h1 (hj η) (hi η)
            simp only [Sh.rp, vrp, cond_false, List.map_cons, List.headD_cons, At.rp, keyed, lkE_cons, if_true]
            rw [blt_mono hb (show n ≤ n + [(⟨c1, y, some (.el i0 ix.2)⟩ : Ent)].length from by omega)]
            exact h2
        · trivial
      · refine AskOk.of fun l hl => ?_
        split
        · rename_i hct
          obtain ⟨t', l⟩ := l
          obtain ⟨c1, c2⟩ := c
          simp only at hct
          subst hct
          intro y hy
          refine OpOk.rd' hw (fun e' he' => by rw [List.mem_singleton.1 he']; exact .none rfl) fun η => ?_
          have h2 := r_index (E := E) (N := N) (Ω := oma ⟨n, env, η⟩ O) (ty := ty) hy hu (elT_ok hc) (opL_rp (n := n) (η := η) hl) (hi η)
          simp only [Sh.rp, vrp, cond_false, List.map_cons, List.headD_cons, At.rp, keyed, lkE_cons, if_true]
          exact h2
        · trivial
    · rename_i len e hu
      refine AskOk.of fun sz hsz => AskOk.of fun a ha => ?_
      have hx := fun η => opA_rp (c := ⟨n, env, η⟩) ha
      split
      · rename_i o h off
        split
        · rename_i v hv
          obtain ⟨di, k, d⟩ := v
          obtain ⟨hb, hlt, ⟨s, he⟩, hj⟩ := vecA_ok hv
          refine AskOk.when fun h0 => ?_
          simp only [Bool.and_eq_true] at h0
          obtain rfl := Nat.eq_of_beq_eq_true h0.1
          obtain rfl := Nat.eq_of_beq_eq_true h0.2
          intro y hy
          have hid := vidx_idx hy
          have hdl := vidx_len hy
          obtain ⟨q1, q2, _, _⟩ := idxM_some hid
          refine OpOk.rd' hw (fun e' he' => ?_) fun η => ?_
          · rw [List.mem_singleton.1 he']; exact ⟨k, d, s, y, he, hid, rfl⟩
          · have h1 := hx η
            rw [ptr_rp (c := ⟨n, env, η⟩) hb] at h1
            have h2 := r_aaddr (E := E) (N := N) (Ω := oma ⟨n, env, η⟩ O) (ty := ty) (show 0 ≤ ix.2 ∧ ix.2 < (len : Int) by omega) hu (sizeT_ok hsz) h1 (hi η)
            simp only [Sh.rp, vrp, cond_false, List.map_cons, List.headD_cons, At.rp, keyed, lkE_cons, if_true]
            rw [blt_mono hb (show n ≤ n + [(⟨.int k, y, some (.ve di ix.2)⟩ : Ent)].length from by omega)]
            rw [Nat.mul_one] at h2
            exact h2
        refine AskOk.when fun hb => ?_
        cases hlit : opLit G i with
        | true =>
          simp only [cond_true]
          split
          · rename_i hr
            refine OpOk.same hw fun η => ?_
            have h1 := hx η
            rw [ptr_rp (c := ⟨n, env, η⟩) hb] at h1
            have h2 := r_aaddr (E := E) (N := N) (Ω := oma ⟨n, env, η⟩ O) (ty := ty) hr hu (sizeT_ok hsz) h1 (hi η)
            show Rd _ _ _ _ _ _ _ _ ((At.ptr o h (off + ix.2.toNat * sz)).rp ⟨n, env, η⟩)
            rw [ptr_rp (c := ⟨n, env, η⟩) hb]
            exact h2
          · trivial
        | false =>
          simp only [cond_false]
          refine AskOk.when fun _ => askIx_ok (len := len) (fun j hj hij => ?_) (by omega)
          refine OpOk.same hw fun η => ?_
          have h1 := hx η
          rw [ptr_rp (c := ⟨n, env, η⟩) hb] at h1
          have h2 := r_aaddr (E := E) (N := N) (Ω := oma ⟨n, env, η⟩ O) (ty := ty) (show 0 ≤ ix.2 ∧ ix.2 < (len : Int) by omega) hu (sizeT_ok hsz) h1 (hi η)
          show Rd _ _ _ _ _ _ _ _ ((At.ptr o h (off + j * sz)).rp ⟨n, env, η⟩)
          rw [ptr_rp (c := ⟨n, env, η⟩) hb]
          have e : ix.2.toNat = j := by omega
          rw [e] at h2
          exact h2
      · trivial
    · trivial

/-! ### stores -/
/-- the cells from fo on are written anew -/
def putD (P : Program) [PTab P] (k : Nat) (d : SDen.den k) (fo : Nat) (Ds : List Dyn) : Option (SDen.den k) :=
  PTab.join (P := P) k ((PTab.split (P := P) k d).take fo ++ Ds ++ (PTab.split (P := P) k d).drop (fo + Ds.length))

def storeE (P : Program) [PTab P] (n : Nat) (env : List (Nat × Ent)) (G : List (Nat × Sh)) (O : List MO) (t : TypeId) (x y : Operand) : Ask OpR :=
  Ask.of (sizeT P t) fun k => Ask.of (opA G x) fun a => match a with
    | .ptr o h off => Ask.of (varC n O o h) fun l => Ask.of (opC G y) fun cs => Ask.when (Nat.beq cs.length k && Nat.ble (off + k) l.length)
        (.ret ⟨.undef, [], 0, [(o, .oc h (l.take off ++ cs ++ l.drop (off + k)))], []⟩)
    | .oea o h z => match vecE n env O o h z with
      | some v => Ask.when (Nat.beq k 1) (Ask.of (opT P env G (.int v.1) y) fun u => .ret ⟨.undef, [⟨.vec v.1, List.set v.2.2.2 v.2.2.1.toNat u, none⟩], 0, [(o, .oa h n)], []⟩)
      | none => Ask.of (ownE n env O o h z) fun q => Ask.of (elT P t) fun c => if c.1 = q.1.t ∧ q.2.2.1 = q.1.t then
        Ask.of (opT P env G q.2.2.1 y) fun u => .ret ⟨.undef, [⟨.sl q.2.2.1, q.2.2.2.set q.2.1.toNat u, none⟩], 0, [(o, .oa h n)], []⟩ else .fail
    | .oef o h z => Ask.of (lkE env z) fun ez => match ez.src with
      | some (.fl ye fo) => Ask.of (ownE n env O o h ye) fun q => Ask.of (opC G y) fun cs => match q with
        | ⟨⟨.st k', d, s⟩, ix, ⟨.st k2, l⟩⟩ => if hk : k2 = k' then
          Ask.of (atsD env (((PTab.split (P := P) k' d).drop fo).map (·.t) |>.take cs.length) cs) fun Ds => Ask.when (Nat.beq Ds.length k && Nat.ble (fo + Ds.length) (SRep.rep k').size)
            (Ask.of (putD P k' d fo Ds) fun u => .ret ⟨.undef, [⟨.sl (.st k2), l.set ix.toNat (hk ▸ u), none⟩], 0, [(o, .oa h n)], []⟩) else .fail
        | _ => .fail
      | _ => .fail
    | _ => .fail
theorem storeE_ok (hw : WF n env) {t : TypeId} {x y : Operand} : AskOk (OpOk P E N (.store t x y) ty n env G O) (storeE P n env G O t x y) :=
  AskOk.of fun k hk => AskOk.of fun a ha => by
    have hx := fun η => opA_rp (c := ⟨n, env, η⟩) ha
    split
    · rename_i o h off
      refine AskOk.of fun l hl => AskOk.of fun cs hcs => AskOk.when fun hb => ?_
      obtain ⟨hbl, hlt, hj⟩ := varC_ok (env := env) hl
      simp only [Bool.and_eq_true] at hb
      refine OpOk.setC hw (X := Unit) hlt hbl fun η => ?_
      have h1 := hx η
      rw [ptr_rp (c := ⟨n, env, η⟩) hbl] at h1
      exact s_cstore (E := E) (N := N) (ty := ty) (sizeT_ok hk) h1 (hj η) (opC_part hcs) (by simpa using hb.1) (by simpa using hb.2) (by simp)
    · rename_i o h z
      split
      · rename_i v hv
        obtain ⟨ki, zz, ix, d⟩ := v
        obtain ⟨⟨ds, he⟩, hi, hbl, hlt, hj⟩ := vecE_ok hw hv
        refine AskOk.when fun hk1 => AskOk.of fun u hu => ?_
        obtain rfl := Nat.eq_of_beq_eq_true hk1
        refine OpOk.setV hw (X := Unit) hbl fun η => ?_
        have h1 := hx η
        simp only [At.rp, he, hbl, cond_true] at h1
        exact s_vstore (E := E) (N := N) (ty := ty) hi (sizeT_ok hk) h1 (hj η) (opT_part hu)
      refine AskOk.of fun q hq => AskOk.of fun c hc => ?_
      split
      · rename_i hct
        refine AskOk.of fun u hu => ?_
        obtain ⟨e, ix, pl⟩ := q
        obtain ⟨he, ⟨ds, hsrc⟩, l, rfl, hi, hbl, hlt, hj⟩ := ownE_ok hw hq
        obtain ⟨c1, c2⟩ := c
        simp only at hct
        obtain ⟨rfl, _⟩ := hct
        refine OpOk.setD hw (X := Unit) hbl fun η => ?_
        have h1 := hx η
        obtain ⟨t', d', s'⟩ := e
        simp only at hsrc
        subst hsrc
        simp only [At.rp, he, hbl, cond_true] at h1
        exact s_ostore (E := E) (N := N) (ty := ty) hi (elT_ok hc) h1 (hj η) (opT_part hu)
      · trivial
    · rename_i o h z
      refine AskOk.of fun ez hez => ?_
      split
      · rename_i ye fo hsz
        refine AskOk.of fun q hq => AskOk.of fun cs hcs => ?_
        split
        · rename_i k' d s ix k2 l
          split
          · rename_i hkk
            subst hkk
            refine AskOk.of fun Ds hDs => AskOk.when fun hb => AskOk.of fun u hu => ?_
            obtain ⟨he, ⟨ds, hsrc⟩, l', hl', hi, hbl, hlt, hj⟩ := ownE_ok hw hq
            cases hl'
            simp only [Bool.and_eq_true] at hb
            have hDl : Ds.length = k := Nat.eq_of_beq_eq_true hb.1
            refine OpOk.setD hw (X := Unit) hbl fun η => ?_
            have h1 := hx η
            obtain ⟨tz, dz, sz⟩ := ez
            simp only at hsz hsrc
            subst hsz; subst hsrc
            simp only [At.rp, hez, he, hbl, cond_true] at h1
            have hsp : (SRep.rep k2).cp d = (PTab.split (P := P) k2 d).map Dyn.rp := PTab.split_ok k2 d
            have hju : (SRep.rep k2).cp u = ((PTab.split (P := P) k2 d).take fo ++ Ds ++ (PTab.split (P := P) k2 d).drop (fo + Ds.length)).map Dyn.rp := PTab.join_ok k2 _ u hu
            exact s_fostore (E := E) (N := N) (ty := ty) (ρ := (Ty.st k2).rep) (u := u) (φs := Ds.map Dyn.rp) hi (by rw [List.length_map, hDl]; exact sizeT_ok hk) h1 (hj η)
              ((opC_part hcs).imp (atsD_imp (c := ⟨n, env, η⟩) hDs))
              (by show (SRep.rep k2).cp u = List.take fo ((SRep.rep k2).cp d) ++ _ ++ List.drop _ ((SRep.rep k2).cp d)
                  rw [hju, hsp]; simp [List.map_take, List.map_drop])
              (by rw [List.length_map]; exact hb.2)
          · trivial
        · trivial
      · trivial
    · trivial
end Go.Dc

set_option linter.unusedSectionVars false
set_option linter.unusedVariables false
/-! New variables, struct and slice literals. -/
namespace Go.Dc
variable [DrawMode] {R : Type} {P : Program} [PTab P] {E : Env} {N : Nat} {K : KT R} {m : Option R} {op : Op} {ty : TypeId} {n : Nat} {env : List (Nat × Ent)} {G : List (Nat × Sh)} {O : List MO}

/-! ### zero values -/
def zAt : Value → Option At
  | .int k n => some (.ci k n)
  | .bool b => some (.cb b)
  | .string s => some (.ck s)
  | .slice none 0 0 => some .nl
  | .pointer none => some .nilp
  | .nilFunc => some .nilf
  | .map none => some .junk
  | _ => none
theorem zAt_rp {v : Value} {a : At} (h : zAt v = some a) {c : Cx} {F : FP} {w : World} : (a.rp c).h F w v := by
  unfold zAt at h
  split at h <;> first | (cases h; rfl) | cases h
def zAts : List Value → Option (List At)
  | [] => some []
  | v :: vs => (zAt v).bind fun a => (zAts vs).map (a :: ·)
theorem zAts_rp {c : Cx} {F : FP} {w : World} : ∀ {vs : List Value} {l : List At}, zAts vs = some l → AllP F w (l.map (At.rp c)) vs
  | [], _, h => by cases h; trivial
  | v :: vs, l, h => by
    simp only [zAts] at h
    obtain ⟨a, h1, h2⟩ := Option.bind_eq_some_iff.1 h
    obtain ⟨l', h3, rfl⟩ := Option.map_eq_some_iff.1 h2
    exact ⟨zAt_rp h1, zAts_rp h3⟩
/-- the cells of a type's zero value -/
def zeroT (P : Program) (t : TypeId) : Option (List At) := (P.info? t).bind fun i => i.zero.bind fun z => zAts z.cells.toList
theorem zeroT_ok {t : TypeId} {l : List At} (h : zeroT P t = some l) : ∃ i z, P.info? t = some i ∧ i.zero = some z ∧ ∀ c F w, AllP F w (l.map (At.rp c)) z.cells.toList := by
  obtain ⟨i, hi, h⟩ := Option.bind_eq_some_iff.1 h
  obtain ⟨z, hz, h⟩ := Option.bind_eq_some_iff.1 h
  exact ⟨i, z, hi, hz, fun c F w => zAts_rp h⟩

/-- arrays of more numbers than eight are data -/
def vecT (P : Program) (t : TypeId) : Option IntKind := match P.underlying t with
  | some (.array len e) => bif Nat.blt 8 len then (match P.underlying e with
    | some (.int k) => some k
    | _ => none) else none
  | _ => none
def zerA (k : IntKind) : At → Bool
  | .ci k' x => k' == k && x == 0
  | _ => false
theorem zerA_ok {k : IntKind} {c : Cx} : ∀ {l : List At}, l.all (zerA k) = true → l.map (At.rp c) = (List.replicate l.length (0 : Int)).map (iv k)
  | [], _ => rfl
  | a :: l, h => by
    simp only [List.all_cons, Bool.and_eq_true] at h
    rw [List.map_cons, zerA_ok h.2, List.length_cons, List.replicate_succ, List.map_cons]
    congr 1
    have h1 := h.1
    unfold zerA at h1
    split at h1
    · rename_i k' x
      simp only [Bool.and_eq_true] at h1
      obtain rfl := eq_of_beq h1.1
      have := h1.2
      obtain rfl : x = 0 := by simpa using this
      rfl
    · cases h1
def allocE (P : Program) (n : Nat) (O : List MO) (t : TypeId) : Ask OpR := Ask.of (zeroT P t) fun l => match vecT P t with
  | some k => Ask.when (l.all (zerA k)) (.ret ⟨.vl false [.ptr O.length (n + 1) 0], [⟨.vec k, List.replicate l.length (0 : Int), none⟩], 1, [], [.oa (n + 1) n]⟩)
  | none => .ret ⟨.vl false [.ptr O.length n 0], [], 1, [], [.oc n l]⟩
theorem allocE_ok (hw : WF n env) {t : TypeId} : AskOk (OpOk P E N (.alloc t) ty n env G O) (allocE P n O t) :=
  AskOk.of fun l hl => by
    obtain ⟨i, z, hi, hz, h⟩ := zeroT_ok hl
    split
    · rename_i k hk
      refine AskOk.when fun hz0 => OpOk.newV hw fun η => ?_
      rw [← zerA_ok (c := ⟨n, env, η⟩) hz0]
      exact s_alloc ⟨i, z, hi, hz, fun F w => h _ F w⟩
    · exact OpOk.newC hw fun η => s_alloc ⟨i, z, hi, hz, fun F w => h _ F w⟩

def boxE (n : Nat) (G : List (Nat × Sh)) (O : List MO) (x : Operand) : Ask OpR := Ask.of (opC G x) fun l => .ret ⟨.vl false [.ptr O.length n 0], [], 1, [], [.oc n l]⟩
theorem boxE_ok (hw : WF n env) {t : TypeId} {x : Operand} : AskOk (OpOk P E N (.box t x) ty n env G O) (boxE n G O x) :=
  AskOk.of fun l hl => OpOk.newC hw fun η => (s_box (opC_part hl))

/-! ### struct literals -/
def placesT (P : Program) (fs : List Go.Field) : Option (List (Nat × Nat)) := match fs with
  | [] => some []
  | f :: fs => (sizeT P f.type).bind fun k => (placesT P fs).map ((f.offset, k) :: ·)
theorem placesT_ok : ∀ {fs : List Go.Field} {l : List (Nat × Nat)}, placesT P fs = some l → ∀ w, (fs.mapM (fun (f : Go.Field) => do pure (f.offset, ← Go.sizeOf f.type)) : Sem (List (Nat × Nat))).run P w = .ok l w
  | [], _, h, w => by cases h; rfl
  | f :: fs, l, h, w => by
    simp only [placesT] at h
    obtain ⟨k, h1, h2⟩ := Option.bind_eq_some_iff.1 h
    obtain ⟨l', h3, rfl⟩ := Option.map_eq_some_iff.1 h2
    have h4 := placesT_ok h3 w
    rw [List.mapM_cons]
    simp [sizeT_ok h1] at h4 ⊢
    rw [h4]; rfl

def fillA (places : List (Nat × Nat)) (l : List At) : List (Nat × List At) → Option (List At)
  | [] => some l
  | (i, cs) :: r => match places[i]? with
    | some (off, size) => bif Nat.beq cs.length size && Nat.ble (off + size) l.length then fillA places (l.take off ++ cs ++ l.drop (off + size)) r else none
    | none => none
theorem fillA_ok {f : At → RP} {places : List (Nat × Nat)} : ∀ {rs : List (Nat × List At)} {l out : List At}, fillA places l rs = some out →
    fitRP (fun i => places[i]?) l.length (rs.map fun p => (p.1, p.2.map f)) = true ∧ fillRP (fun i => places[i]?) (l.map f) (rs.map fun p => (p.1, p.2.map f)) = out.map f
  | [], l, out, h => by cases h; exact ⟨rfl, rfl⟩
  | (i, cs) :: r, l, out, h => by
    simp only [fillA] at h
    split at h
    · rename_i off size hp
      cases hb : Nat.beq cs.length size && Nat.ble (off + size) l.length with
      | false => rw [hb] at h; cases h
      | true =>
        rw [hb] at h
        obtain ⟨h1, h2⟩ := fillA_ok (f := f) h
        simp only [Bool.and_eq_true] at hb
        have hs := Nat.eq_of_beq_eq_true hb.1
        have hle : off + size ≤ l.length := Nat.le_of_ble_eq_true hb.2
        have hlen : (l.take off ++ cs ++ l.drop (off + size)).length = l.length := by simp; omega
        rw [hlen] at h1
        refine ⟨?_, ?_⟩
        · simp only [List.map_cons, fitRP, hp, List.length_map]
          rw [hb.1, hb.2, h1]; rfl
        · simp only [List.map_cons, fillRP, hp]
          rw [← h2]; simp [List.map_take, List.map_drop]
    · cases h

def partsC (G : List (Nat × Sh)) : List (Nat × Operand) → Option (List (Nat × List At))
  | [] => some []
  | (i, x) :: r => (opC G x).bind fun l => (partsC G r).map ((i, l) :: ·)
theorem partsC_ok {c : Cx} {Ω : List OB} : ∀ {ps : List (Nat × Operand)} {rs : List (Nat × List At)}, partsC G ps = some rs → PartsOk E N (gma c G) Ω ps (rs.map fun p => (p.1, p.2.map (At.rp c)))
  | [], _, h => by cases h; trivial
  | (i, x) :: r, rs, h => by
    simp only [partsC] at h
    obtain ⟨l, h1, h2⟩ := Option.bind_eq_some_iff.1 h
    obtain ⟨rs', h3, rfl⟩ := Option.map_eq_some_iff.1 h2
    exact ⟨rfl, opC_part h1, partsC_ok h3⟩

def buildE (P : Program) (G : List (Nat × Sh)) (t : TypeId) (ps : List (Nat × Operand)) : Ask OpR := match P.underlying t with
  | some (.struct fs) => Ask.of (zeroT P t) fun zs => Ask.of (placesT P fs.toList) fun pl => Ask.of (partsC G ps) fun rs => Ask.of (fillA pl zs rs) fun out => .ret (resS (.vl true out))
  | _ => .fail
theorem buildE_ok (hw : WF n env) {t : TypeId} {ps : List (Nat × Operand)} : AskOk (OpOk P E N (.build t ps.toArray) ty n env G O) (buildE P G t ps) := by
  unfold buildE
  split
  · rename_i fs hu
    refine AskOk.of fun zs hz => AskOk.of fun pl hpl => AskOk.of fun rs hrs => AskOk.of fun out hout => OpOk.same hw fun η => ?_
    obtain ⟨i, z, hi, hz', hall⟩ := zeroT_ok hz
    have hzl : z.cells.size = zs.length := by
      have := (hall ⟨0, [], fun _ => ⟨.bool true, [], 0, rfl⟩⟩ (fun _ => True) default).length
      simpa using this
    obtain ⟨h1, h2⟩ := fillA_ok (f := At.rp ⟨n, env, η⟩) hout
    refine r_build (E := E) (N := N) (Ω := oma ⟨n, env, η⟩ O) (ty := ty) (n := zs.length) (places := pl) (zs := zs.map (At.rp ⟨n, env, η⟩)) (rs := rs.map fun p => (p.1, p.2.map (At.rp ⟨n, env, η⟩))) ⟨fs, hu, ⟨i, z, hi, hz', hzl⟩, fun w => ?_⟩ (fun i' z' hi' hz'' F w => ?_) (partsC_ok hrs) (by rw [List.length_map]; exact h1) ?_
    · have := placesT_ok hpl w
      rw [Array.mapM_eq_mapM_toList]
      simp at this ⊢
      rw [this]; rfl
    · rw [hi] at hi'; cases hi'; rw [hz'] at hz''; cases hz''; exact hall _ F w
    · rw [h2]
  · trivial
end Go.Dc

set_option linter.unusedSectionVars false
set_option linter.unusedVariables false
/-! Slices: literals, make, parts, len, append. -/
namespace Go.Dc
variable [DrawMode] {R : Type} {P : Program} [PTab P] {E : Env} {N : Nat} {K : KT R} {m : Option R} {op : Op} {ty : TypeId} {n : Nat} {env : List (Nat × Ent)} {G : List (Nat × Sh)} {O : List MO}

def isEnum : Nat → List (Nat × Operand) → Bool
  | _, [] => true
  | k, (i, _) :: r => Nat.beq i k && isEnum (k + 1) r
theorem isEnum_ok : ∀ {k : Nat} {l : List (Nat × Operand)}, isEnum k l = true → l = enumP k (l.map (·.2))
  | _, [], _ => rfl
  | k, (i, x) :: r, h => by
    simp only [isEnum, Bool.and_eq_true] at h
    obtain rfl := Nat.eq_of_beq_eq_true h.1
    simp only [List.map_cons, enumP]
    rw [← isEnum_ok h.2]
def opTs (P : Program) [PTab P] (env : List (Nat × Ent)) (G : List (Nat × Sh)) (c : Ty) : List Operand → Option (List c.den)
  | [] => some []
  | x :: xs => (opT P env G c x).bind fun d => (opTs P env G c xs).map (d :: ·)
theorem opTs_ok {η : Nat → Hd} {Ω : List OB} {c : Ty} : ∀ {xs : List Operand} {ds : List c.den}, opTs P env G c xs = some ds → AllPart E N (gma ⟨n, env, η⟩ G) Ω c.rep xs ds
  | [], _, h => by cases h; trivial
  | x :: xs, ds, h => by
    simp only [opTs] at h
    obtain ⟨d, h1, h2⟩ := Option.bind_eq_some_iff.1 h
    obtain ⟨ds', h3, rfl⟩ := Option.map_eq_some_iff.1 h2
    exact ⟨opT_part h1, opTs_ok h3⟩

def bsliceE (P : Program) [PTab P] (n : Nat) (env : List (Nat × Ent)) (G : List (Nat × Sh)) (O : List MO) (own : Bool) (t : TypeId) (k : Nat) (ps : List (Nat × Operand)) : Ask OpR := match P.underlying t with
  | some (.slice e) => Ask.of (elT P e) fun c => Ask.when (isEnum 0 ps) (Ask.of (opTs P env G c.1 (ps.map (·.2))) fun ds =>
      Ask.when (Nat.beq k ds.length && Nat.ble (ds.length * c.1.rep.size) 16777216)
        (bif own then .ret ⟨.vl false [.own O.length (n + 1)], [⟨.sl c.1, ds, none⟩], 1, [], [.oa (n + 1) n]⟩ else .ret (resD n (.sl c.1) ds)))
  | _ => .fail
theorem bsliceE_ok (hw : WF n env) {own : Bool} {t : TypeId} {k : Nat} {ps : List (Nat × Operand)} : AskOk (OpOk P E N (.buildSlice t k ps.toArray) ty n env G O) (bsliceE P n env G O own t k ps) := by
  unfold bsliceE
  split
  · rename_i e hu
    refine AskOk.of fun c hc => AskOk.when fun hen => AskOk.of fun ds hds => AskOk.when fun hb => ?_
    simp only [Bool.and_eq_true] at hb
    have h1 := Nat.eq_of_beq_eq_true hb.1
    have h2 := Nat.le_of_ble_eq_true hb.2
    rw [isEnum_ok hen]
    cases own with
    | true => exact OpOk.newA hw fun η => (s_bsliceO hu (elT_ok hc) h1 h2 (opTs_ok hds))
    | false => exact OpOk.newD hw rfl (t := .sl c.1) rfl fun η => (s_bslice hu (elT_ok hc) h1 h2 (opTs_ok hds))
  · trivial

def sameAt : At → At → Bool
  | .vr i, .vr j => Nat.beq i j
  | .ci k a, .ci k' b => decide (k = k') && decide (a = b)
  | _, _ => false
theorem sameAt_ok {a b : At} (h : sameAt a b = true) : a = b := by
  unfold sameAt at h
  split at h
  · rw [Nat.eq_of_beq_eq_true h]
  · simp only [Bool.and_eq_true, decide_eq_true_eq] at h; rw [h.1, h.2]
  · cases h

def makeE (P : Program) [PTab P] (n : Nat) (env : List (Nat × Ent)) (G : List (Nat × Sh)) (O : List MO) (t : TypeId) (x y : Operand) : Ask OpR := match P.underlying t with
  | some (.slice e) => Ask.of (elT P e) fun c => Ask.of (opA G x) fun a => Ask.of (opA G y) fun b => Ask.when (sameAt a b) (Ask.of (opI env G x) fun l =>
      Ask.of ((zeroT P e).bind (celD P env c.1)) fun z => .bind (mkM c.2 z l.2) fun d => .ret ⟨.vl false [.own O.length (n + 1)], [⟨.sl c.1, d, none⟩], 1, [], [.oa (n + 1) n]⟩)
  | _ => .fail
theorem zeroD_ok {e : TypeId} {c : Ty} {z : c.den} (h : (zeroT P e).bind (celD P env c) = some z) : ZeroT P e c.rep z := by
  obtain ⟨l, h1, h2⟩ := Option.bind_eq_some_iff.1 h
  obtain ⟨i, zv, hi, hz, hall⟩ := zeroT_ok h1
  exact ⟨i, zv, hi, hz, fun F w => (celD_imp (c := ⟨0, env, fun _ => ⟨.bool true, [], 0, rfl⟩⟩) h2).all (hall _ F w)⟩
theorem makeE_ok (hw : WF n env) {t : TypeId} {x y : Operand} : AskOk (OpOk P E N (.makeSlice t x y) ty n env G O) (makeE P n env G O t x y) := by
  unfold makeE
  split
  · rename_i e hu
    refine AskOk.of fun c hc => AskOk.of fun a ha => AskOk.of fun b hb => AskOk.when fun hab => AskOk.of fun l hl => AskOk.of fun z hz => fun d hd => ?_
    have hs := sameAt_ok hab
    subst hs
    have hy : ∀ η, lkO (gma ⟨n, env, η⟩ G) y = some (iv l.1 l.2) := fun η => by rw [opA_rp hb, ← opA_rp (c := ⟨n, env, η⟩) ha]; exact opI_rp hl
    exact OpOk.newA hw fun η => (s_make hd hu (elT_ok hc) (zeroD_ok hz) (opI_rp hl) (hy η))
  · trivial

/-! ### parts -/
def bdE (env : List (Nat × Ent)) (G : List (Nat × Sh)) (d : Int) : Option Operand → Option Int
  | none => some d
  | some x => (opI env G x).map (·.2)
theorem bdE_ok {η : Nat → Hd} {d i : Int} {x : Option Operand} (h : bdE env G d x = some i) : BdOk (gma ⟨n, env, η⟩ G) d x i := by
  cases x with
  | none => cases h; exact .dft
  | some x =>
    simp only [bdE] at h
    obtain ⟨p, h1, rfl⟩ := Option.map_eq_some_iff.1 h
    exact .of (opI_rp h1)

def sliceE (P : Program) [PTab P] (n : Nat) (env : List (Nat × Ent)) (G : List (Nat × Sh)) (O : List MO) (t : TypeId) (x : Operand) (lo hi : Option Operand) : Ask OpR :=
  Ask.of (bdE env G 0 lo) fun l => match P.underlying t with
  | some .string => Ask.of (opS env G x) fun s => Ask.of (bdE env G s.size hi) fun h => .bind (ssubM s l h) fun r => .ret (resD n .str r)
  | some (.slice e) => Ask.of (elT P e) fun c => Ask.of (opA G x) fun a => match a with
    | .own o h => Ask.of (ownA n env O o h) fun q => if c.1 = q.2.1 then Ask.of (bdE env G q.2.2.length hi) fun m => .bind (slM q.2.2 l m) fun d =>
        .ret ⟨.vl false [.own o (n + 1)], [⟨.sl q.2.1, d, none⟩], 1, [(o, .oa (n + 1) n)], []⟩ else .fail
    | .nl => match lo, hi with
      | none, some y => Ask.of (opI env G y) fun p => if p.2 = 0 ∧ opLit G y = true then .ret (resS (.vl false [.nl])) else .fail
      | _, _ => .fail
    | _ => Ask.of (opL env G x) fun q => if c.1 = q.1 then Ask.of (bdE env G q.2.length hi) fun m => .bind (slM q.2 l m) fun d => .ret (resD n (.sl q.1) d) else .fail
  | _ => .fail
theorem sliceE_ok (hw : WF n env) {t : TypeId} {x : Operand} {lo hi : Option Operand} : AskOk (OpOk P E N (.slice t x lo hi none) ty n env G O) (sliceE P n env G O t x lo hi) :=
  AskOk.of fun l hl => by
    split
    · rename_i hu
      exact AskOk.of fun s hs => AskOk.of fun h hh => fun r hr => OpOk.dat hw rfl fun η => (r_ssub hr hu (opS_rp hs) (bdE_ok hl) (bdE_ok hh))
    · rename_i e hu
      refine AskOk.of fun c hc => AskOk.of fun a ha => ?_
      have hx := fun η => opA_rp (c := ⟨n, env, η⟩) ha
      split
      · rename_i o h
        refine AskOk.of fun q hq => ?_
        split
        · rename_i hct
          refine AskOk.of fun m hm => fun d hd => ?_
          obtain ⟨i0, t', l'⟩ := q
          obtain ⟨c1, c2⟩ := c
          simp only at hct
          subst hct
          obtain ⟨hb, hlt, ⟨s, he⟩, hj⟩ := ownA_ok hq
          refine OpOk.chgA hw (fun η => (s_oslice hd hu (elT_ok hc) ?_ (hj η) (bdE_ok hl) (bdE_ok hm))) hlt
          have h1 := hx η
          rw [own_rp (c := ⟨n, env, η⟩) hb] at h1
          exact h1
        · trivial
      · split
        · rename_i y
          refine AskOk.of fun p hp => ?_
          split
          · rename_i hp0
            refine OpOk.same hw fun η => (r_sliceN (k := p.1) hu (elT_ok hc) (hx η) ?_)
            rw [opI_rp (k := p.1) (i := p.2) hp, hp0.1]
          · trivial
        · trivial
      · refine AskOk.of fun q hq => ?_
        split
        · rename_i hct
          refine AskOk.of fun m hm => fun d hd => ?_
          obtain ⟨t', l'⟩ := q
          obtain ⟨c1, c2⟩ := c
          simp only at hct
          subst hct
          exact OpOk.dat hw (t := .sl c1) rfl fun η => (r_slice hd hu (elT_ok hc) (opL_rp hq) (bdE_ok hl) (bdE_ok hm))
        · trivial
    · trivial

/-! ### built-in functions -/
def lenE (P : Program) [PTab P] (n : Nat) (env : List (Nat × Ent)) (G : List (Nat × Sh)) (O : List MO) (t : TypeId) (x : Operand) : Ask OpR := match P.underlying t with
  | some .string => Ask.of (opS env G x) fun s => .ret (resD n (.int .i64) (s.size : Int))
  | some (.slice e) => Ask.of (opA G x) fun a => match a with
    | .nl => .ret (resS (.vl false [.ci .i64 0]))
    | .own o h => Ask.of (ownA n env O o h) fun q => .ret (resD n (.int .i64) (q.2.2.length : Int))
    | _ => Ask.of (opL env G x) fun q => .ret (resD n (.int .i64) (q.2.length : Int))
  | _ => .fail
theorem lenE_ok (hw : WF n env) {t : TypeId} {x : Operand} : AskOk (OpOk P E N (.call ⟨.builtin .len, #[x], #[t]⟩) ty n env G O) (lenE P n env G O t x) := by
  unfold lenE
  split
  · rename_i hu
    exact AskOk.of fun s hs => OpOk.dat hw rfl fun η => (r_slen hu (opS_rp hs))
  · rename_i e hu
    refine AskOk.of fun a ha => ?_
    have hx := fun η => opA_rp (c := ⟨n, env, η⟩) ha
    split
    · exact OpOk.same hw fun η => (r_lenN hu (hx η))
    · rename_i o h
      refine AskOk.of fun q hq => ?_
      obtain ⟨i0, t', l'⟩ := q
      obtain ⟨hb, hlt, ⟨s, he⟩, hj⟩ := ownA_ok hq
      refine OpOk.dat hw rfl fun η => (r_olen hu ?_ (hj η))
      have h1 := hx η
      rw [own_rp (c := ⟨n, env, η⟩) hb] at h1
      exact h1
    · exact AskOk.of fun q hq => OpOk.dat hw rfl fun η => (r_len hu (opL_rp hq))
  · trivial

def minE (n : Nat) (env : List (Nat × Ent)) (G : List (Nat × Sh)) (mx : Bool) (x y : Operand) : Ask OpR :=
  Ask.of (opI env G x) fun u => Ask.of (opI env G y) fun v => if v.1 = u.1 then .ret (resD n (.int u.1) (bif mx then imax u.2 v.2 else imin u.2 v.2)) else .fail
theorem minE_ok (hw : WF n env) {x y : Operand} {t1 t2 : TypeId} : AskOk (OpOk P E N (.call ⟨.builtin .min, #[x, y], #[t1, t2]⟩) ty n env G O) (minE n env G false x y) :=
  AskOk.of fun u hu => AskOk.of fun v hv => by
    split
    · rename_i h
      obtain ⟨k, i⟩ := u; obtain ⟨k', j⟩ := v
      simp only at h; subst h
      exact OpOk.dat hw rfl fun η => (r_min (opI_rp hu) (opI_rp hv))
    · trivial
theorem maxE_ok (hw : WF n env) {x y : Operand} {t1 t2 : TypeId} : AskOk (OpOk P E N (.call ⟨.builtin .max, #[x, y], #[t1, t2]⟩) ty n env G O) (minE n env G true x y) :=
  AskOk.of fun u hu => AskOk.of fun v hv => by
    split
    · rename_i h
      obtain ⟨k, i⟩ := u; obtain ⟨k', j⟩ := v
      simp only at h; subst h
      exact OpOk.dat hw rfl fun η => (r_max (opI_rp hu) (opI_rp hv))
    · trivial

/-- a slice up to its end, with no room behind it -/
def fullE (P : Program) [PTab P] (n : Nat) (env : List (Nat × Ent)) (G : List (Nat × Sh)) (t : TypeId) (x hi mx : Operand) : Ask OpR := match P.underlying t with
  | some (.slice e) => Ask.of (elT P e) fun c => Ask.of (opL env G x) fun q => Ask.of (opI env G hi) fun p => Ask.of (opI env G mx) fun m => if c.1 = q.1 then
      .cond ((p.2 == (q.2.length : Int)) && (m.2 == (q.2.length : Int))) (.ret ⟨.vl false [.fu n], [⟨.sl q.1, q.2, none⟩], 0, [], []⟩) .fail else .fail
  | _ => .fail
theorem fullE_ok (hw : WF n env) {t : TypeId} {x hi mx : Operand} : AskOk (OpOk P E N (.slice t x none (some hi) (some mx)) ty n env G O) (fullE P n env G t x hi mx) := by
  unfold fullE
  split
  · rename_i e hu
    refine AskOk.of fun c hc => AskOk.of fun q hq => AskOk.of fun p hp => AskOk.of fun m hm => ?_
    split
    · rename_i hct
      obtain ⟨t', l⟩ := q
      obtain ⟨c1, c2⟩ := c
      simp only at hct
      subst hct
      refine ⟨fun hb => ?_, fun _ => trivial⟩
      simp only [Bool.and_eq_true, beq_iff_eq] at hb
      obtain ⟨h1, h2⟩ := hb
      refine OpOk.rd' hw (fun e' he' => by rw [List.mem_singleton.1 he']; exact .none rfl) fun η => ?_
      simp only [Sh.rp, vrp, cond_false, List.map_cons, List.headD_cons, At.rp, keyed, lkE_cons, if_true]
      exact r_full (k1 := p.1) (k2 := m.1) hu (elT_ok hc) (opL_rp hq) (by rw [← h1]; exact opI_rp hp) (by rw [← h2]; exact opI_rp hm)
    · trivial
  · trivial

def appE (P : Program) [PTab P] (n : Nat) (env : List (Nat × Ent)) (G : List (Nat × Sh)) (O : List MO) (t : TypeId) (x y : Operand) : Ask OpR := match P.underlying t with
  | some (.slice e) => Ask.of (elT P e) fun c => Ask.of (opL env G y) fun l => if hl : l.1 = c.1 then Ask.of (opA G x) fun a => match a with
    | .nl => .bind (appM c.2 ([] : List l.1.den) l.2) fun d => .ret ⟨.vl false [.own O.length (n + 1)], [⟨.sl l.1, d, none⟩], 1, [], [.oa (n + 1) n]⟩
    | .own o h => Ask.of (ownA n env O o h) fun q => if hq : q.2.1 = l.1 then .bind (appM c.2 (hq ▸ q.2.2 : List l.1.den) l.2) fun d => .ret ⟨.vl false [.own o (n + 1)], [⟨.sl l.1, d, none⟩], 1, [(o, .oa (n + 1) n)], []⟩ else .fail
    | .fu i => Ask.of ((lkE env i).bind Ent.asSl) fun q => if hq : q.1 = l.1 then Ask.when (Nat.ble 1 l.2.length) (.bind (appM c.2 (hq ▸ q.2 : List l.1.den) l.2) fun d => .ret ⟨.vl false [.own O.length (n + 1)], [⟨.sl l.1, d, none⟩], 1, [], [.oa (n + 1) n]⟩) else .fail
    | _ => .fail else .fail
  | _ => .fail
theorem appE_ok (hw : WF n env) {t : TypeId} {x y : Operand} : AskOk (OpOk P E N (.call ⟨.builtin .append, #[x, y], #[t, t]⟩) ty n env G O) (appE P n env G O t x y) := by
  unfold appE
  split
  · rename_i e hu
    refine AskOk.of fun c hc => AskOk.of fun l hl => ?_
    split
    · rename_i hlc
      obtain ⟨t', l⟩ := l
      obtain ⟨c1, c2⟩ := c
      simp only at hlc
      subst hlc
      refine AskOk.of fun a ha => ?_
      have hx := fun η => opA_rp (c := ⟨n, env, η⟩) ha
      split
      · exact fun d hd => OpOk.newA hw fun η => (s_appendN hd hu (elT_ok hc) (hx η) (opL_rp hl))
      · rename_i o h
        refine AskOk.of fun q hq => ?_
        split
        · rename_i hqt
          obtain ⟨i0, t2, l2⟩ := q
          simp only at hqt
          subst hqt
          obtain ⟨hb, hlt, ⟨s, he⟩, hj⟩ := ownA_ok hq
          refine fun d hd => OpOk.chgA hw (fun η => (s_append hd hu (elT_ok hc) ?_ (hj η) (opL_rp hl))) hlt
          have h1 := hx η
          rw [own_rp (c := ⟨n, env, η⟩) hb] at h1
          exact h1
        · trivial
      · rename_i i
        refine AskOk.of fun q hq => ?_
        split
        · rename_i hqt
          obtain ⟨t2, l2⟩ := q
          simp only at hqt
          subst hqt
          refine AskOk.when fun hne => fun d hd => OpOk.newA hw fun η => ?_
          obtain ⟨en, he, hs⟩ := Option.bind_eq_some_iff.1 hq
          obtain ⟨s, rfl⟩ := asSl_eq hs
          have h1 := hx η
          simp only [At.rp, he] at h1
          exact s_appendF hd hne hu (elT_ok hc) h1 (opL_rp hl)
        · trivial
      · trivial
    · trivial
  · trivial
end Go.Dc

set_option linter.unusedSectionVars false
set_option linter.unusedVariables false
/-! Contracts of functions, in plain words. -/
namespace Go.Dc
variable [DrawMode]

def Tup [SDen] : List Ty → Type
  | [] => Unit
  | [t] => t.den
  | t :: u :: ts => t.den × Tup (u :: ts)

/-- component j of a tuple -/
def tupGet [SDen] : (ts : List Ty) → Tup ts → Nat → Option Dyn
  | [], _, _ => none
  | [t], a, 0 => some ⟨t, a⟩
  | [_], _, _ + 1 => none
  | t :: _ :: _, a, 0 => some ⟨t, a.1⟩
  | _ :: u :: ts, a, j + 1 => tupGet (u :: ts) a.2 j

/-- a tuple out of its components -/
def tupMk [SDen] : (ts : List Ty) → ((k : Nat) → (t : Ty) → Option t.den) → Nat → Option (Tup ts)
  | [], _, _ => some ()
  | [t], f, j => f j t
  | t :: u :: ts, f, j => (f j t).bind fun x => (tupMk (u :: ts) f (j + 1)).map fun y => (x, y)

theorem tupMk_get [SDen] {f : (k : Nat) → (t : Ty) → Option t.den} : ∀ {ts : List Ty} {j : Nat} {a : Tup ts}, tupMk ts f j = some a → ∀ {i : Nat} {D : Dyn}, tupGet ts a i = some D → f (j + i) D.t = some D.d
  | [], _, _, _, i, D, h => by cases h
  | [t], j, a, ha, 0, D, h => by cases h; exact ha
  | [t], j, a, ha, i + 1, D, h => by cases h
  | t :: u :: ts, j, a, ha, 0, D, h => by
    simp only [tupMk] at ha
    obtain ⟨x, h1, h2⟩ := Option.bind_eq_some_iff.1 ha
    obtain ⟨y, h3, rfl⟩ := Option.map_eq_some_iff.1 h2
    cases h; exact h1
  | t :: u :: ts, j, a, ha, i + 1, D, h => by
    simp only [tupMk] at ha
    obtain ⟨x, h1, h2⟩ := Option.bind_eq_some_iff.1 ha
    obtain ⟨y, h3, rfl⟩ := Option.map_eq_some_iff.1 h2
    have := tupMk_get h3 (i := i) (D := D) h
    rw [show j + (i + 1) = j + 1 + i from by omega]
    exact this

/-- the words of data -/
def leaves (P : Program) [PTab P] (D : Dyn) : List Dyn := match D with
  | ⟨.st k, d⟩ => PTab.split (P := P) k d
  | D => [D]
/-- word q of component j -/
def leaf (P : Program) [PTab P] (ts : List Ty) (a : Tup ts) (j q : Nat) : Option Dyn := (tupGet ts a j).bind fun D => (leaves P D)[q]?

section
variable [SRep]
/-- words of a contract -/
inductive KA where
  | d (j q : Nat)
  | own (k : Nat)
  | ptr (k : Nat)
  | mp (k : Nat)
  | fn (f : Nat) (cs : List (Option Nat))
  | nl
  | nilp
  | nilf
  | fx (a : At)
inductive KO where
  | dead
  | same
  | oa (k : Nat) (w : KA)
  | oc (k : Nat) (l : List KA)

/-- what a captured value is: a pointer to object k, or nil -/
def kcap (hs : Nat → Hd) : Option Nat → Value
  | some k => Dc.ptr (hs k).b 0
  | none => .pointer none

def KA.rp (c0 : Cx) (L : Nat → Nat → Option Dyn) (hs : Nat → Hd) : KA → RP
  | .fx a => a.rp c0
  | .d j q => match L j q with
    | some D => D.rp
    | none => RP.no
  | .own k => pv (hs k).hv
  | .ptr k => pv (Dc.ptr (hs k).b 0)
  | .mp k => pv (.map (some (hs k).b))
  | .fn f cs => pv (.func (.func f) #[] (cs.map (kcap hs)).toArray)
  | .nl => pv (.slice none 0 0)
  | .nilp => pv (.pointer none)
  | .nilf => pv .nilFunc
/-- data that a word stands for -/
def KA.sl (c0 : Cx) (L : Nat → Nat → Option Dyn) : KA → Option Dyn
  | .d j q => L j q
  | .fx (.vr i) => (lkE c0.env i).map fun e => ⟨e.t, e.d⟩
  | _ => none
def kvrp (c0 : Cx) (L : Nat → Nat → Option Dyn) (hs : Nat → Hd) (v : Bool × List KA) : RP := bif v.1 then ag (v.2.map (KA.rp c0 L hs)) else (v.2.map (KA.rp c0 L hs)).headD RP.no
def KO.ob (c0 : Cx) (L : Nat → Nat → Option Dyn) (hs : Nat → Hd) : KO → OB
  | .dead => Dc.dead
  | .same => OB.no
  | .oa k w => match w.sl c0 L with
    | some D => D.ob (hs k)
    | none => OB.no
  | .oc k l => Dc.oc (hs k).b (l.map (KA.rp c0 L hs))
/-- no entries, no handles -/
def cx0 : Cx := ⟨0, [], fun _ => ⟨.bool true, [], 0, rfl⟩⟩
theorem cx0_ext (c : Cx) : Ext cx0 c := ⟨Nat.zero_le _, fun i e h => (by cases h), fun h hh => absurd hh (Nat.not_lt_zero _)⟩
def KO.isDead : KO → Bool
  | .dead => true
  | _ => false

end

structure Con [SDen] where
  ins : List Ty
  outs : List Ty
  m : Tup ins → Option (Tup outs)
  ps : List (Bool × List KA)
  os : List KO
  rs : List (Bool × List KA)
  os' : List KO
  /-- handles: those that are given, and all of them -/
  nh : Nat
  nh' : Nat

variable {P : Program} [PTab P]
def Con.args (C : Con) (a : Tup C.ins) (hs : Nat → Hd) : List RP := C.ps.map (kvrp cx0 (leaf P C.ins a) hs)
def Con.Ω0 (C : Con) (a : Tup C.ins) (hs : Nat → Hd) : List OB := C.os.map (KO.ob cx0 (leaf P C.ins a) hs)
def Con.res (C : Con) (r : Tup C.outs) (hs : Nat → Hd) : List RP := C.rs.map (kvrp cx0 (leaf P C.outs r) hs)
/-- the objects behind a call, those that are used up as dead ones -/
def kafter (Li Lo : Nat → Nat → Option Dyn) (hs0 hs : Nat → Hd) : List KO → List KO → List OB
  | i :: is, .same :: os => i.ob cx0 Li hs0 :: kafter Li Lo hs0 hs is os
  | _ :: is, o :: os => o.ob cx0 Lo hs :: kafter Li Lo hs0 hs is os
  | [], o :: os => o.ob cx0 Lo hs :: kafter Li Lo hs0 hs [] os
  | _, [] => []
def kmask : List KO → List Bool := List.map fun o => !o.isDead
def Con.Ω2 (C : Con) (a : Tup C.ins) (r : Tup C.outs) (hs0 hs : Nat → Hd) : List OB := kafter (leaf P C.ins a) (leaf P C.outs r) hs0 hs C.os C.os'
def Con.Ω1 (C : Con) (a : Tup C.ins) (r : Tup C.outs) (hs0 hs : Nat → Hd) : List OB := keepB (kmask C.os') (C.Ω2 (P := P) a r hs0 hs)

def ConOk (P : Program) [PTab P] (f : FuncId) (C : Con) : Prop :=
  ∀ a r, C.m a = some r → ∀ hs, FnOk P f (C.args (P := P) a hs) (C.Ω0 (P := P) a hs) (fun x : Agr C.nh hs => C.res (P := P) r x.1) (fun x => C.Ω1 (P := P) a r hs x.1)

section
variable [SRep]
/-! ### words that are matched -/
/-- what has been found: words, and objects (their place and handle) -/
structure Mt where
  ws : List ((Nat × Nat) × Dyn)
  om : List (Nat × (Nat × Nat))

def lkW : List ((Nat × Nat) × Dyn) → Nat → Nat → Option Dyn
  | [], _, _ => none
  | ((j, q), D) :: r, i, p => bif Nat.beq j i && Nat.beq q p then some D else lkW r i p
def lkM : List (Nat × (Nat × Nat)) → Nat → Option (Nat × Nat)
  | [], _ => none
  | (k, x) :: r, i => bif Nat.beq k i then some x else lkM r i

/-- an object k at place o with handle h: known already, or new -/
def Mt.obj (M : Mt) (k o h : Nat) : Option Mt := match lkM M.om k with
  | some (o', h') => bif Nat.beq o o' && Nat.beq h h' then some M else none
  | none => some ⟨M.ws, (k, (o, h)) :: M.om⟩
def Mt.word (M : Mt) (j q : Nat) (D : Dyn) : Option Mt := match lkW M.ws j q with
  | some _ => none
  | none => some ⟨((j, q), D) :: M.ws, M.om⟩

structure Mt.Le (M M' : Mt) : Prop where
  w : ∀ j q D, lkW M.ws j q = some D → lkW M'.ws j q = some D
  o : ∀ k x, lkM M.om k = some x → lkM M'.om k = some x
theorem Mt.Le.refl (M : Mt) : Mt.Le M M := ⟨fun _ _ _ h => h, fun _ _ h => h⟩
theorem Mt.Le.trans {A B C : Mt} (h : Mt.Le A B) (k : Mt.Le B C) : Mt.Le A C := ⟨fun j q D e => k.w j q D (h.w j q D e), fun i x e => k.o i x (h.o i x e)⟩

theorem Mt.obj_ok {M M' : Mt} {k o h : Nat} (hm : M.obj k o h = some M') : Mt.Le M M' ∧ lkM M'.om k = some (o, h) := by
  unfold Mt.obj at hm
  split at hm
  · rename_i o' h' hl
    cases hb : Nat.beq o o' && Nat.beq h h' with
    | false => rw [hb] at hm; cases hm
    | true =>
      rw [hb] at hm; cases hm
      simp only [Bool.and_eq_true] at hb
      obtain rfl := Nat.eq_of_beq_eq_true hb.1
      obtain rfl := Nat.eq_of_beq_eq_true hb.2
      exact ⟨.refl _, hl⟩
  · rename_i hl
    cases hm
    refine ⟨⟨fun _ _ _ h => h, fun i x hi => ?_⟩, by simp [lkM]⟩
    simp only [lkM]
    by_cases e : k = i
    · subst e; rw [hl] at hi; cases hi
    · rw [beq_ne e]; exact hi
theorem Mt.word_ok {M M' : Mt} {j q : Nat} {D : Dyn} (hm : M.word j q D = some M') : Mt.Le M M' ∧ lkW M'.ws j q = some D := by
  unfold Mt.word at hm
  split at hm
  · cases hm
  · rename_i hl
    cases hm
    refine ⟨⟨fun i p x hi => ?_, fun _ _ h => h⟩, by simp [lkW]⟩
    simp only [lkW]
    cases hb : Nat.beq j i && Nat.beq q p with
    | false => exact hi
    | true =>
      simp only [Bool.and_eq_true] at hb
      obtain rfl := Nat.eq_of_beq_eq_true hb.1
      obtain rfl := Nat.eq_of_beq_eq_true hb.2
      rw [hl] at hi; cases hi

/-- atoms that are the same -/
def capEq : List Cap → List Cap → Bool
  | [], [] => true
  | .ptr o h :: r, .ptr o' h' :: r' => Nat.beq o o' && Nat.beq h h' && capEq r r'
  | .fn f :: r, .fn f' :: r' => Nat.beq f f' && capEq r r'
  | .nilp :: r, .nilp :: r' => capEq r r'
  | _, _ => false
theorem capEq_ok : ∀ {l l' : List Cap}, capEq l l' = true → l = l'
  | [], [], _ => rfl
  | .ptr o h :: r, .ptr o' h' :: r', e => by
    simp only [capEq, Bool.and_eq_true] at e
    rw [Nat.eq_of_beq_eq_true e.1.1, Nat.eq_of_beq_eq_true e.1.2, capEq_ok e.2]
  | .fn f :: r, .fn f' :: r', e => by
    simp only [capEq, Bool.and_eq_true] at e
    rw [Nat.eq_of_beq_eq_true e.1, capEq_ok e.2]
  | .nilp :: r, .nilp :: r', e => by rw [capEq_ok (l := r) (l' := r') e]
  | [], _ :: _, e => by cases e
  | _ :: _, [], e => by simp [capEq] at e
  | .ptr _ _ :: _, .fn _ :: _, e => by cases e
  | .ptr _ _ :: _, .nilp :: _, e => by cases e
  | .fn _ :: _, .ptr _ _ :: _, e => by cases e
  | .fn _ :: _, .nilp :: _, e => by cases e
  | .nilp :: _, .ptr _ _ :: _, e => by cases e
  | .nilp :: _, .fn _ :: _, e => by cases e
def atEq : At → At → Bool
  | .vr i, .vr j => Nat.beq i j
  | .ci k a, .ci k' b => decide (k = k') && decide (a = b)
  | .cb a, .cb b => a == b
  | .ck a, .ck b => decide (a.data = b.data)
  | .nl, .nl => true
  | .own o h, .own o' h' => Nat.beq o o' && Nat.beq h h'
  | .ptr o h f, .ptr o' h' f' => Nat.beq o o' && Nat.beq h h' && Nat.beq f f'
  | .mp o h, .mp o' h' => Nat.beq o o' && Nat.beq h h'
  | .fn f c, .fn f' c' => Nat.beq f f' && capEq c c'
  | .nilf, .nilf => true
  | .nilp, .nilp => true
  | .ea i, .ea j => Nat.beq i j
  | .fu i, .fu j => Nat.beq i j
  | _, _ => false
theorem atEq_ok {a b : At} (hh : atEq a b = true) : a = b := by
  cases a <;> cases b <;> first
    | rfl
    | (simp only [atEq] at hh; cases hh; done)
    | (simp only [atEq] at hh; rw [Nat.eq_of_beq_eq_true hh]; done)
    | (simp only [atEq, Bool.and_eq_true, decide_eq_true_eq] at hh; rw [hh.1, hh.2]; done)
    | (simp only [atEq, Bool.and_eq_true] at hh; rw [Nat.eq_of_beq_eq_true hh.1, Nat.eq_of_beq_eq_true hh.2]; done)
    | (simp only [atEq, Bool.and_eq_true] at hh; rw [Nat.eq_of_beq_eq_true hh.1.1, Nat.eq_of_beq_eq_true hh.1.2, Nat.eq_of_beq_eq_true hh.2]; done)
    | (simp only [atEq, Bool.and_eq_true] at hh; rw [Nat.eq_of_beq_eq_true hh.1, capEq_ok hh.2]; done)
    | (rename_i x y; simp only [atEq, decide_eq_true_eq] at hh; cases x; cases y; simp only at hh; rw [hh]; done)
    | (simp only [atEq, beq_iff_eq] at hh; rw [hh]; done)
theorem atsEq_ok : ∀ {l l' : List At}, Nat.beq l.length l'.length = true → ((l.zip l').all fun x => atEq x.1 x.2) = true → l = l'
  | [], [], _, _ => rfl
  | a :: l, b :: l', h, h2 => by
    simp only [List.zip_cons_cons, List.all_cons, Bool.and_eq_true] at h2
    rw [atEq_ok h2.1, atsEq_ok (by simpa using h) h2.2]
  | [], _ :: _, h, _ => by simp at h
  | _ :: _, [], h, _ => by simp at h
/-- known there already -/
def At.clo (n : Nat) (env : List (Nat × Ent)) : At → Bool
  | .vr i => (lkE env i).isSome
  | .own _ h => Nat.blt h n
  | .ptr _ h _ => Nat.blt h n
  | .mp _ h => Nat.blt h n
  | .fn _ cs => cs.all (Cap.ok n)
  | .ea i => (lkE env i).isSome
  | .fu i => (lkE env i).isSome
  | .oea _ _ _ => false
  | .oef _ _ _ => false
  | _ => true
theorem At.clo_ok {c c' : Cx} (hx : Ext c c') {a : At} (h : a.clo c.n c.env = true) : a.rp c' = a.rp c := by
  cases a with
  | vr i =>
    simp only [At.clo] at h
    obtain ⟨e, he⟩ := Option.isSome_iff_exists.1 h
    simp only [At.rp, he, hx.env i e he]
  | ea i =>
    simp only [At.clo] at h
    obtain ⟨e, he⟩ := Option.isSome_iff_exists.1 h
    simp only [At.rp, he, hx.env i e he]
  | fu i =>
    simp only [At.clo] at h
    obtain ⟨e, he⟩ := Option.isSome_iff_exists.1 h
    simp only [At.rp, he, hx.env i e he]
  | own o k => simp only [At.clo] at h; rw [own_rp h, own_rp (blt_mono h hx.n), hx.η k (by simpa [Nat.blt_eq] using h)]
  | ptr o k f => simp only [At.clo] at h; rw [ptr_rp h, ptr_rp (blt_mono h hx.n), hx.η k (by simpa [Nat.blt_eq] using h)]
  | mp o k => simp only [At.clo] at h; simp only [At.rp, h, blt_mono h hx.n, cond_true, hx.η k (by simpa [Nat.blt_eq] using h)]
  | fn f cs =>
    simp only [At.clo] at h
    have h1 : ∀ x ∈ cs, Cap.ok c.n x = true := List.all_eq_true.1 h
    have h2 : cs.all (Cap.ok c'.n) = true := List.all_eq_true.2 fun x hx' => by
      have := h1 x hx'
      cases x with
      | ptr o k => exact blt_mono this hx.n
      | _ => rfl
    have h3 : cs.map (Cap.val c'.η) = cs.map (Cap.val c.η) := List.map_congr_left fun x hx' => by
      have := h1 x hx'
      cases x with
      | ptr o k => simp only [Cap.val]; rw [hx.η k (by simpa [Cap.ok, Nat.blt_eq] using this)]
      | _ => rfl
    simp only [At.rp, h, h2, cond_true, h3]
  | oea _ _ _ => cases h
  | oef _ _ _ => cases h
  | _ => rfl

def moEq : MO → MO → Bool
  | .dead, .dead => true
  | .oa h i, .oa h' i' => Nat.beq h h' && Nat.beq i i'
  | .oc h l, .oc h' l' => Nat.beq h h' && (Nat.beq l.length l'.length && (l.zip l').all fun x => atEq x.1 x.2)
  | _, _ => false
theorem moEq_ok {m m' : MO} (h : moEq m m' = true) : m = m' := by
  cases m with
  | dead => cases m' <;> first | rfl | cases h
  | oa a b =>
    cases m' with
    | oa a' b' => simp only [moEq, Bool.and_eq_true] at h; rw [Nat.eq_of_beq_eq_true h.1, Nat.eq_of_beq_eq_true h.2]
    | _ => cases h
  | oc a l =>
    cases m' with
    | oc a' l' => simp only [moEq, Bool.and_eq_true] at h; rw [Nat.eq_of_beq_eq_true h.1, atsEq_ok h.2.1 h.2.2]
    | _ => cases h

def MO.clo (n : Nat) (env : List (Nat × Ent)) : MO → Bool
  | .dead => true
  | .oa h i => Nat.blt h n && ((lkE env i).isSome)
  | .oc h l => Nat.blt h n && l.all (At.clo n env)
theorem MO.clo_ok {c c' : Cx} (hx : Ext c c') {m : MO} (h : m.clo c.n c.env = true) : m.ob c' = m.ob c := by
  cases m with
  | dead => rfl
  | oa k i =>
    simp only [MO.clo, Bool.and_eq_true] at h
    obtain ⟨e, he⟩ := Option.isSome_iff_exists.1 h.2
    simp only [MO.ob, he, hx.env i e he, h.1, blt_mono h.1 hx.n, hx.η k (by simpa [Nat.blt_eq] using h.1)]
  | oc k l =>
    simp only [MO.clo, Bool.and_eq_true] at h
    have h3 : l.map (At.rp c') = l.map (At.rp c) := List.map_congr_left fun a ha => At.clo_ok hx (List.all_eq_true.1 h.2 a ha)
    simp only [MO.ob, h.1, blt_mono h.1 hx.n, hx.η k (by simpa [Nat.blt_eq] using h.1), h3]

/-- captured values -/
def mtCaps : Mt → List (Option Nat) → List Cap → Option Mt
  | M, [], [] => some M
  | M, some k :: ks, .ptr o h :: cs => (M.obj k o h).bind fun M => mtCaps M ks cs
  | M, none :: ks, .nilp :: cs => mtCaps M ks cs
  | _, _, _ => none

/-- one word; nil may stand for an empty slice where `nilT` says of which type; a slice of ours may be lent -/
def mtA (n0 : Nat) (env0 : List (Nat × Ent)) (n : Nat) (env : List (Nat × Ent)) (nilT : Option Ty) (M : Mt) : KA → At → Option Mt
  | .fx a, b => bif atEq a b && a.clo n0 env0 then some M else none
  | .d j q, .nl => match nilT with
    | some t => M.word j q ⟨.sl t, []⟩
    | none => none
  | .d j q, a => (rdD env a).bind fun D => M.word j q D
  | .own k, .own o h => bif Nat.blt h n then M.obj k o h else none
  | .ptr k, .ptr o h 0 => bif Nat.blt h n then M.obj k o h else none
  | .mp k, .mp o h => bif Nat.blt h n then M.obj k o h else none
  | .fn f cs, .fn g ds => bif Nat.beq f g && ds.all (Cap.ok n) then mtCaps M cs ds else none
  | .nl, .nl => some M
  | .nilp, .nilp => some M
  | .nilf, .nilf => some M
  | _, _ => none

/-- what the words found say -/
structure MtSay (L : Nat → Nat → Option Dyn) (hs η : Nat → Hd) (M : Mt) : Prop where
  w : ∀ j q D, lkW M.ws j q = some D → L j q = some D
  o : ∀ k o h, lkM M.om k = some (o, h) → hs k = η h
theorem MtSay.le {L : Nat → Nat → Option Dyn} {hs η : Nat → Hd} {M M' : Mt} (h : MtSay L hs η M') (hl : Mt.Le M M') : MtSay L hs η M := ⟨fun j q D e => h.w j q D (hl.w j q D e), fun k o x e => h.o k o x (hl.o k _ e)⟩

theorem mtCaps_ok {n : Nat} : ∀ {ks : List (Option Nat)} {cs : List Cap} {M M' : Mt}, mtCaps M ks cs = some M' → Mt.Le M M' ∧ ∀ {L : Nat → Nat → Option Dyn} {hs η : Nat → Hd}, MtSay L hs η M' → ks.map (kcap hs) = cs.map (Cap.val η)
  | [], [], M, M', h => by cases h; exact ⟨.refl _, fun _ => rfl⟩
  | some k :: ks, .ptr o x :: cs, M, M', h => by
    simp only [mtCaps] at h
    obtain ⟨M1, h1, h2⟩ := Option.bind_eq_some_iff.1 h
    obtain ⟨h3, h4⟩ := Mt.obj_ok h1
    obtain ⟨h5, h6⟩ := mtCaps_ok (n := n) h2
    refine ⟨h3.trans h5, fun hs => ?_⟩
    rw [List.map_cons, List.map_cons, h6 hs]
    have := hs.o k o x (h5.o _ _ h4)
    simp only [kcap, Cap.val, this]
  | none :: ks, .nilp :: cs, M, M', h => by
    simp only [mtCaps] at h
    obtain ⟨h5, h6⟩ := mtCaps_ok (n := n) h
    refine ⟨h5, fun hs => ?_⟩
    rw [List.map_cons, List.map_cons, h6 hs]; rfl
  | [], _ :: _, _, _, h => by simp [mtCaps] at h
  | some _ :: _, [], _, _, h => by simp [mtCaps] at h
  | none :: _, [], _, _, h => by simp [mtCaps] at h
  | some _ :: _, .fn _ :: _, _, _, h => by simp [mtCaps] at h
  | some _ :: _, .nilp :: _, _, _, h => by simp [mtCaps] at h
  | none :: _, .ptr _ _ :: _, _, _, h => by simp [mtCaps] at h
  | none :: _, .fn _ :: _, _, _, h => by simp [mtCaps] at h

theorem mtA_ok {c0 : Cx} {n : Nat} {env : List (Nat × Ent)} {nt : Option Ty} {M M' : Mt} {k : KA} {a : At} (h : mtA c0.n c0.env n env nt M k a = some M') :
    Mt.Le M M' ∧ ∀ {L : Nat → Nat → Option Dyn} {hs η : Nat → Hd}, Ext c0 ⟨n, env, η⟩ → MtSay L hs η M' → (∀ {F w v}, (a.rp ⟨n, env, η⟩).h F w v → (k.rp c0 L hs).h F w v) ∧ (nt = none → a.rp ⟨n, env, η⟩ = k.rp c0 L hs) := by
  have both : ∀ {φ ψ : RP}, φ = ψ → (∀ {F w v}, φ.h F w v → ψ.h F w v) ∧ (nt = none → φ = ψ) := fun e => ⟨fun h => e ▸ h, fun _ => e⟩
  unfold mtA at h
  split at h
  · rename_i b
    cases hb : atEq b a && b.clo c0.n c0.env with
    | false => rw [hb] at h; cases h
    | true =>
      rw [hb] at h; cases h
      simp only [Bool.and_eq_true] at hb
      obtain rfl := atEq_ok hb.1
      exact ⟨.refl _, fun hx _ => both (At.clo_ok hx hb.2)⟩
  · rename_i j q
    split at h
    · rename_i t
      obtain ⟨h1, h2⟩ := Mt.word_ok h
      refine ⟨h1, fun hx hs => ⟨fun hv => ?_, fun e => by cases e⟩⟩
      simp only [KA.rp, hs.w _ _ _ h2]
      exact nil_sl hv
    · cases h
  · rename_i j q
    obtain ⟨D, hD, h⟩ := Option.bind_eq_some_iff.1 h
    obtain ⟨h1, h2⟩ := Mt.word_ok h
    refine ⟨h1, fun {L hs η} hx hs => both ?_⟩
    simp only [KA.rp, hs.w _ _ _ h2]
    rw [(rdD_rp (c := ⟨n, env, η⟩) hD).1]
  · rename_i k o x
    cases hb : Nat.blt x n with
    | false => rw [hb] at h; cases h
    | true =>
      rw [hb] at h
      obtain ⟨h1, h2⟩ := Mt.obj_ok h
      refine ⟨h1, fun {L hs η} hx hs => both ?_⟩
      rw [own_rp (c := ⟨n, env, η⟩) hb]
      simp only [KA.rp, hs.o _ _ _ h2]
  · rename_i k o x
    cases hb : Nat.blt x n with
    | false => rw [hb] at h; cases h
    | true =>
      rw [hb] at h
      obtain ⟨h1, h2⟩ := Mt.obj_ok h
      refine ⟨h1, fun {L hs η} hx hs => both ?_⟩
      rw [ptr_rp (c := ⟨n, env, η⟩) hb]
      simp only [KA.rp, hs.o _ _ _ h2]
  · rename_i k o x
    cases hb : Nat.blt x n with
    | false => rw [hb] at h; cases h
    | true =>
      rw [hb] at h
      obtain ⟨h1, h2⟩ := Mt.obj_ok h
      refine ⟨h1, fun {L hs η} hx hs => both ?_⟩
      simp only [At.rp, hb, cond_true, KA.rp, hs.o _ _ _ h2]
  · rename_i f cs g ds
    cases hb : Nat.beq f g && ds.all (Cap.ok n) with
    | false => rw [hb] at h; cases h
    | true =>
      rw [hb] at h
      simp only [Bool.and_eq_true] at hb
      obtain rfl := Nat.eq_of_beq_eq_true hb.1
      obtain ⟨h1, h2⟩ := mtCaps_ok (n := n) h
      refine ⟨h1, fun {L hs η} hx hs => both ?_⟩
      simp only [At.rp, hb.2, cond_true, KA.rp, h2 hs]
  · cases h; exact ⟨.refl _, fun _ _ => both rfl⟩
  · cases h; exact ⟨.refl _, fun _ _ => both rfl⟩
  · cases h; exact ⟨.refl _, fun _ _ => both rfl⟩
  · cases h
end
end Go.Dc

set_option linter.unusedSectionVars false
set_option linter.unusedVariables false
/-! Values and objects that are matched; the tuple of what was found. -/
namespace Go.Dc
variable [DrawMode] {P : Program} [PTab P] {E : Env} {N : Nat} {n : Nat} {env : List (Nat × Ent)} {G : List (Nat × Sh)} {O : List MO}

def wordT (P : Program) [PTab P] (ts : List Ty) (j q : Nat) : Option Ty := (ts[j]?).bind fun t => match t with
  | .st k => (PTab.fts P k)[q]?
  | t => match q with
    | 0 => some t
    | _ + 1 => none
def nilOf (P : Program) [PTab P] (ts : List Ty) (strict : Bool) (k : KA) : Option Ty := bif strict then none else match k with
  | .d j q => match wordT P ts j q with
    | some (.sl t) => some t
    | _ => none
  | _ => none

def mtAs (P : Program) [PTab P] (ts : List Ty) (strict : Bool) (n0 : Nat) (env0 : List (Nat × Ent)) (n : Nat) (env : List (Nat × Ent)) : Mt → List KA → List At → Option Mt
  | M, [], [] => some M
  | M, k :: ks, a :: as => (mtA n0 env0 n env (nilOf P ts strict k) M k a).bind fun M => mtAs P ts strict n0 env0 n env M ks as
  | _, _, _ => none

theorem mtAs_ok {c0 : Cx} {ts : List Ty} {strict : Bool} : ∀ {ks : List KA} {as : List At} {M M' : Mt}, mtAs P ts strict c0.n c0.env n env M ks as = some M' →
    Mt.Le M M' ∧ ∀ {L : Nat → Nat → Option Dyn} {hs η : Nat → Hd}, Ext c0 ⟨n, env, η⟩ → MtSay L hs η M' → ImpAll (as.map (At.rp ⟨n, env, η⟩)) (ks.map (KA.rp c0 L hs)) ∧ (strict = true → as.map (At.rp ⟨n, env, η⟩) = ks.map (KA.rp c0 L hs))
  | [], [], M, M', h => by cases h; exact ⟨.refl _, fun _ _ => ⟨trivial, fun _ => rfl⟩⟩
  | k :: ks, a :: as, M, M', h => by
    simp only [mtAs] at h
    obtain ⟨M1, h1, h2⟩ := Option.bind_eq_some_iff.1 h
    obtain ⟨h3, h4⟩ := mtA_ok h1
    obtain ⟨h5, h6⟩ := mtAs_ok h2
    refine ⟨h3.trans h5, fun hx hs => ?_⟩
    obtain ⟨h7, h8⟩ := h6 hx hs
    obtain ⟨h9, h10⟩ := h4 hx (hs.le h5)
    refine ⟨⟨h9, h7⟩, fun e => ?_⟩
    rw [List.map_cons, List.map_cons, h8 e, h10 (by subst e; rfl)]
  | [], _ :: _, _, _, h => by simp [mtAs] at h
  | _ :: _, [], _, _, h => by simp [mtAs] at h

def mtV (P : Program) [PTab P] (ts : List Ty) (strict : Bool) (n0 : Nat) (env0 : List (Nat × Ent)) (n : Nat) (env : List (Nat × Ent)) (M : Mt) (k : Bool × List KA) : Sh → Option Mt
  | .vl g as => bif k.1 == g && (g || Nat.beq as.length 1) then mtAs P ts strict n0 env0 n env M k.2 as else none
  | _ => none
theorem mtV_ok {c0 : Cx} {ts : List Ty} {strict : Bool} {M M' : Mt} {k : Bool × List KA} {s : Sh} (h : mtV P ts strict c0.n c0.env n env M k s = some M') :
    Mt.Le M M' ∧ ∀ {L : Nat → Nat → Option Dyn} {hs η : Nat → Hd}, Ext c0 ⟨n, env, η⟩ → MtSay L hs η M' → (∀ {F w v}, (s.rp ⟨n, env, η⟩).h F w v → (kvrp c0 L hs k).h F w v) ∧ (strict = true → s.rp ⟨n, env, η⟩ = kvrp c0 L hs k) := by
  unfold mtV at h
  split at h
  · rename_i g as
    cases hb : (k.1 == g && (g || Nat.beq as.length 1)) with
    | false => rw [hb] at h; cases h
    | true =>
      rw [hb] at h
      simp only [Bool.and_eq_true, beq_iff_eq] at hb
      obtain ⟨hg, hlen⟩ := hb
      obtain ⟨h1, h2⟩ := mtAs_ok h
      refine ⟨h1, fun {L hs η} hx hsay => ?_⟩
      obtain ⟨h3, h4⟩ := h2 hx hsay
      obtain ⟨kg, ks⟩ := k
      simp only at hg h3 h4
      subst hg
      cases kg with
      | true =>
        refine ⟨fun hv => ?_, fun e => ?_⟩
        · obtain ⟨cs, e1, h5⟩ := hv; exact ⟨cs, e1, h3.all h5⟩
        · simp only [Sh.rp, vrp, kvrp, cond_true]; rw [h4 e]
      | false =>
        simp only [Bool.false_or] at hlen
        obtain ⟨a, rfl⟩ := List.length_eq_one_iff.1 (Nat.eq_of_beq_eq_true hlen)
        match ks, h3 with
        | [k], ⟨h3, _⟩ =>
          refine ⟨fun hv => h3 hv, fun e => ?_⟩
          have := h4 e
          simp only [List.map_cons, List.map_nil, List.cons.injEq, and_true] at this
          exact this
  · cases h

def mtVs (P : Program) [PTab P] (ts : List Ty) (strict : Bool) (n0 : Nat) (env0 : List (Nat × Ent)) (n : Nat) (env : List (Nat × Ent)) : Mt → List (Bool × List KA) → List Sh → Option Mt
  | M, [], [] => some M
  | M, k :: ks, s :: ss => (mtV P ts strict n0 env0 n env M k s).bind fun M => mtVs P ts strict n0 env0 n env M ks ss
  | _, _, _ => none
theorem mtVs_ok {c0 : Cx} {ts : List Ty} {strict : Bool} : ∀ {ks : List (Bool × List KA)} {ss : List Sh} {M M' : Mt}, mtVs P ts strict c0.n c0.env n env M ks ss = some M' →
    Mt.Le M M' ∧ ∀ {L : Nat → Nat → Option Dyn} {hs η : Nat → Hd}, Ext c0 ⟨n, env, η⟩ → MtSay L hs η M' → ImpAll (ss.map (Sh.rp ⟨n, env, η⟩)) (ks.map (kvrp c0 L hs)) ∧ (strict = true → ss.map (Sh.rp ⟨n, env, η⟩) = ks.map (kvrp c0 L hs))
  | [], [], M, M', h => by cases h; exact ⟨.refl _, fun _ _ => ⟨trivial, fun _ => rfl⟩⟩
  | k :: ks, a :: as, M, M', h => by
    simp only [mtVs] at h
    obtain ⟨M1, h1, h2⟩ := Option.bind_eq_some_iff.1 h
    obtain ⟨h3, h4⟩ := mtV_ok h1
    obtain ⟨h5, h6⟩ := mtVs_ok h2
    refine ⟨h3.trans h5, fun hx hs => ?_⟩
    obtain ⟨h7, h8⟩ := h6 hx hs
    obtain ⟨h9, h10⟩ := h4 hx (hs.le h5)
    refine ⟨⟨h9, h7⟩, fun e => ?_⟩
    rw [List.map_cons, List.map_cons, h8 e, h10 e]
  | [], _ :: _, _, _, h => by simp [mtVs] at h
  | _ :: _, [], _, _, h => by simp [mtVs] at h

/-! ### objects -/
def KO.key : KO → Option Nat
  | .oa k _ => some k
  | .oc k _ => some k
  | _ => none
def mtO (P : Program) [PTab P] (ts : List Ty) (n0 : Nat) (env0 : List (Nat × Ent)) (n : Nat) (env : List (Nat × Ent)) (O : List MO) (M : Mt) : KO → Option Mt
  | .oa k (.d j q) => (lkM M.om k).bind fun x => (anyA n env O x.1 x.2).bind fun p => M.word j q p.2
  | .oa k (.fx (.vr i)) => (lkM M.om k).bind fun x => (anyA n env O x.1 x.2).bind fun p => bif Nat.beq p.1 i && (lkE env0 i).isSome then some M else none
  | .oc k l => (lkM M.om k).bind fun x => (varC n O x.1 x.2).bind fun as => mtAs P ts true n0 env0 n env M l as
  | _ => none
theorem mtO_ok {c0 : Cx} {ts : List Ty} {M M' : Mt} {o : KO} (h : mtO P ts c0.n c0.env n env O M o = some M') :
    Mt.Le M M' ∧ ∃ k p x, o.key = some k ∧ lkM M.om k = some (p, x) ∧ p < O.length ∧ Nat.blt x n = true ∧ ∀ {L : Nat → Nat → Option Dyn} {hs η : Nat → Hd}, Ext c0 ⟨n, env, η⟩ → MtSay L hs η M' → (oma ⟨n, env, η⟩ O)[p]? = some (o.ob c0 L hs) := by
  unfold mtO at h
  split at h
  · rename_i k j q
    obtain ⟨⟨p, x⟩, h1, h⟩ := Option.bind_eq_some_iff.1 h
    obtain ⟨⟨i, D⟩, h2, h⟩ := Option.bind_eq_some_iff.1 h
    obtain ⟨h3, h4⟩ := Mt.word_ok h
    obtain ⟨hb, hlt, _, hj⟩ := anyA_ok h2
    refine ⟨h3, k, p, x, rfl, h1, hlt, hb, fun {L hs η} hx hsay => ?_⟩
    rw [hj η]
    simp only [KO.ob, KA.sl, hsay.w _ _ _ h4, hsay.o _ _ _ (h3.o _ _ h1)]
  · rename_i k i0
    obtain ⟨⟨p, x⟩, h1, h⟩ := Option.bind_eq_some_iff.1 h
    obtain ⟨⟨i, D⟩, h2, h⟩ := Option.bind_eq_some_iff.1 h
    cases hbi : Nat.beq (i, D).1 i0 && (lkE c0.env i0).isSome with
    | false => rw [hbi] at h; cases h
    | true =>
      rw [hbi] at h; cases h
      simp only [Bool.and_eq_true] at hbi
      obtain rfl : i = i0 := Nat.eq_of_beq_eq_true hbi.1
      obtain ⟨e, he⟩ := Option.isSome_iff_exists.1 hbi.2
      obtain ⟨hb, hlt, ⟨s, hse⟩, hj⟩ := anyA_ok h2
      refine ⟨.refl _, k, p, x, rfl, h1, hlt, hb, fun {L hs η} hx hsay => ?_⟩
      have he' := hx.env i e he
      simp only at he'
      rw [hse] at he'
      obtain rfl := Option.some.inj he'
      rw [hj η]
      simp only [KO.ob, KA.sl, he, Option.map_some, hsay.o _ _ _ h1]
  · rename_i k l
    obtain ⟨⟨p, x⟩, h1, h⟩ := Option.bind_eq_some_iff.1 h
    obtain ⟨as, h2, h⟩ := Option.bind_eq_some_iff.1 h
    obtain ⟨h3, h4⟩ := mtAs_ok h
    obtain ⟨hb, hlt, hj⟩ := varC_ok (env := env) h2
    refine ⟨h3, k, p, x, rfl, h1, hlt, hb, fun {L hs η} hx hsay => ?_⟩
    rw [hj η]
    simp only [KO.ob, hsay.o _ _ _ (h3.o _ _ h1)]
    rw [(h4 hx hsay).2 rfl]
  · cases h

def mtOs (P : Program) [PTab P] (ts : List Ty) (n0 : Nat) (env0 : List (Nat × Ent)) (n : Nat) (env : List (Nat × Ent)) (O : List MO) : Mt → List KO → Option Mt
  | M, [] => some M
  | M, o :: os => (mtO P ts n0 env0 n env O M o).bind fun M => mtOs P ts n0 env0 n env O M os
/-- where the objects stand -/
def posOs (M : Mt) : List KO → Option (List (Nat × Nat))
  | [] => some []
  | o :: os => (o.key.bind (lkM M.om)).bind fun x => (posOs M os).map (x :: ·)

theorem mtOs_ok {c0 : Cx} {ts : List Ty} : ∀ {os : List KO} {M M' : Mt}, mtOs P ts c0.n c0.env n env O M os = some M' →
    Mt.Le M M' ∧ ∀ {ps : List (Nat × Nat)}, posOs M' os = some ps → ps.length = os.length ∧ (∀ x ∈ ps, x.1 < O.length ∧ Nat.blt x.2 n = true) ∧ ∀ {L : Nat → Nat → Option Dyn} {hs η : Nat → Hd}, Ext c0 ⟨n, env, η⟩ → MtSay L hs η M' → ∀ (i : Nat) (p : Nat × Nat) (o : KO), ps[i]? = some p → os[i]? = some o → (oma ⟨n, env, η⟩ O)[p.1]? = some (o.ob c0 L hs)
  | [], M, M', h => by cases h; exact ⟨.refl _, fun hp => by cases hp; exact ⟨rfl, by simp, fun _ _ i p o h => by simp at h⟩⟩
  | o :: os, M, M', h => by
    simp only [mtOs] at h
    obtain ⟨M1, h1, h2⟩ := Option.bind_eq_some_iff.1 h
    obtain ⟨h3, k, p, x, hk, hm, hlt, hb, hat⟩ := mtO_ok h1
    obtain ⟨h5, h6⟩ := mtOs_ok h2
    refine ⟨h3.trans h5, fun {ps} hp => ?_⟩
    simp only [posOs, hk, Option.bind_some, h5.o _ _ (h3.o _ _ hm)] at hp
    obtain ⟨ps', hp', rfl⟩ := Option.map_eq_some_iff.1 hp
    obtain ⟨h7, h8, h9⟩ := h6 hp'
    refine ⟨by simp [h7], fun y hy => ?_, fun hx hsay i q o' hq ho' => ?_⟩
    · rcases List.mem_cons.1 hy with e | e
      · rw [e]; exact ⟨hlt, hb⟩
      · exact h8 y e
    · cases i with
      | zero =>
        simp only [List.getElem?_cons_zero, Option.some.injEq] at hq ho'
        subst hq; subst ho'
        exact hat hx (hsay.le h5)
      | succ i => exact h9 hx hsay i q o' (by simpa using hq) (by simpa using ho')

/-! ### the tuple -/
def wordsN (ws : List ((Nat × Nat) × Dyn)) (j : Nat) : Nat → Nat → Option (List Dyn)
  | _, 0 => some []
  | q, k + 1 => (lkW ws j q).bind fun D => (wordsN ws j (q + 1) k).map (D :: ·)
theorem wordsN_get {ws : List ((Nat × Nat) × Dyn)} {j : Nat} : ∀ {k q : Nat} {l : List Dyn}, wordsN ws j q k = some l → l.length = k ∧ ∀ i, i < k → l[i]? = lkW ws j (q + i)
  | 0, q, l, h => by cases h; exact ⟨rfl, fun i hi => by omega⟩
  | k + 1, q, l, h => by
    simp only [wordsN] at h
    obtain ⟨D, h1, h2⟩ := Option.bind_eq_some_iff.1 h
    obtain ⟨l', h3, rfl⟩ := Option.map_eq_some_iff.1 h2
    obtain ⟨h4, h5⟩ := wordsN_get h3
    refine ⟨by simp [h4], fun i hi => ?_⟩
    cases i with
    | zero => simp [h1]
    | succ i => simp only [List.getElem?_cons_succ]; rw [h5 i (by omega)]; congr 1; omega

def comp (P : Program) [PTab P] (ws : List ((Nat × Nat) × Dyn)) (j : Nat) (t : Ty) : Option t.den := match t with
  | .st k => (wordsN ws j 0 (PTab.fts P k).length).bind (PTab.join (P := P) k)
  | t => (lkW ws j 0).bind fun D => if h : D.t = t then some (h ▸ D.d) else none
def nleaf (P : Program) [PTab P] : Ty → Nat
  | .st k => (PTab.fts P k).length
  | _ => 1
theorem comp_get {ws : List ((Nat × Nat) × Dyn)} {j q : Nat} {t : Ty} {d : t.den} {D : Dyn} (h : comp P ws j t = some d) (hD : lkW ws j q = some D) (hq : q < nleaf P t) : (leaves P ⟨t, d⟩)[q]? = some D := by
  have one : ∀ {t : Ty} {d : t.den}, ((lkW ws j 0).bind fun D => if h : D.t = t then some (h ▸ D.d) else none) = some d → q < 1 → ([(⟨t, d⟩ : Dyn)])[q]? = some D := by
    intro t d h hq
    obtain rfl : q = 0 := by omega
    rw [hD] at h
    simp only [Option.bind_some] at h
    split at h
    · rename_i e; subst e; cases h; rfl
    · cases h
  cases t with
  | st k =>
    simp only [comp] at h
    obtain ⟨l, h1, h2⟩ := Option.bind_eq_some_iff.1 h
    have h3 : PTab.split (P := P) k d = l := PTab.join_ok' k l d h2
    show (PTab.split (P := P) k d)[q]? = _
    rw [h3, (wordsN_get h1).2 q hq, Nat.zero_add, hD]
  | int k => exact one h hq
  | bool => exact one h hq
  | str => exact one h hq
  | sl t => exact one h hq
  | op t => exact one h hq
  | mp k v => exact one h hq
  | vec k => exact one h hq

def wsOk (P : Program) [PTab P] (ts : List Ty) : List ((Nat × Nat) × Dyn) → Bool
  | [] => true
  | ((j, q), _) :: r => (match ts[j]? with | some t => Nat.blt q (nleaf P t) | none => false) && wsOk P ts r
theorem wsOk_get {ts : List Ty} : ∀ {ws : List ((Nat × Nat) × Dyn)}, wsOk P ts ws = true → ∀ {j q : Nat} {D : Dyn}, lkW ws j q = some D → ∃ t, ts[j]? = some t ∧ q < nleaf P t
  | [], _, j, q, D, h => by cases h
  | ((j', q'), D') :: r, hw, j, q, D, h => by
    simp only [wsOk, Bool.and_eq_true] at hw
    simp only [lkW] at h
    cases hb : Nat.beq j' j && Nat.beq q' q with
    | false => rw [hb] at h; exact wsOk_get hw.2 h
    | true =>
      simp only [Bool.and_eq_true] at hb
      obtain rfl := Nat.eq_of_beq_eq_true hb.1
      obtain rfl := Nat.eq_of_beq_eq_true hb.2
      have h1 := hw.1
      split at h1
      · rename_i t ht; exact ⟨t, ht, by simpa [Nat.blt_eq] using h1⟩
      · cases h1

theorem tupGet_ty : ∀ {ts : List Ty} {a : Tup ts} {j : Nat} {t : Ty}, ts[j]? = some t → ∃ d, tupGet ts a j = some ⟨t, d⟩
  | [], _, _, _, h => by simp at h
  | [t], a, 0, _, h => by simp at h; subst h; exact ⟨a, rfl⟩
  | [t], a, j + 1, _, h => by simp at h
  | t :: u :: ts, a, 0, _, h => by simp at h; subst h; exact ⟨a.1, rfl⟩
  | t :: u :: ts, a, j + 1, _, h => tupGet_ty (ts := u :: ts) (a := a.2) (j := j) (by simpa using h)

/-- the tuple of what was found -/
def Mt.tup (P : Program) [PTab P] (M : Mt) (ts : List Ty) : Option (Tup ts) := bif wsOk P ts M.ws then tupMk ts (fun j t => comp P M.ws j t) 0 else none
theorem Mt.tup_ok {M : Mt} {ts : List Ty} {a : Tup ts} (h : M.tup P ts = some a) {j q : Nat} {D : Dyn} (hD : lkW M.ws j q = some D) : leaf P ts a j q = some D := by
  unfold Mt.tup at h
  cases hb : wsOk P ts M.ws with
  | false => rw [hb] at h; cases h
  | true =>
    rw [hb] at h
    obtain ⟨t, ht, hq⟩ := wsOk_get hb hD
    obtain ⟨d, hd⟩ := tupGet_ty (a := a) ht
    have h1 := tupMk_get h hd
    rw [Nat.zero_add] at h1
    unfold leaf
    rw [hd]
    exact comp_get h1 hD hq

/-- handles by what was found -/
def Mt.hs (M : Mt) (η : Nat → Hd) : Nat → Hd := fun k => match lkM M.om k with
  | some x => η x.2
  | none => ⟨.bool true, [], 0, rfl⟩
theorem Mt.say {M : Mt} {ts : List Ty} {a : Tup ts} (h : M.tup P ts = some a) (η : Nat → Hd) : MtSay (leaf P ts a) (M.hs η) η M :=
  ⟨fun j q D hD => M.tup_ok h hD, fun k o x hk => by simp only [Mt.hs, hk]⟩
end Go.Dc
