/- Part M.Call2 of a proof: lemmas. -/
import Derived.Test.YtccalnbiapifcaaDoorMOps2
import Derived.Test.YtccalnbiapifcaaDoorDcEqS
set_option linter.unusedSectionVars false
set_option linter.unusedVariables false
/-! Operations on memory. -/
namespace Go.Dc
variable [DrawMode] {R : Type} {P : Program} [PTab P] {E : Env} {N : Nat} {K : KT R} {m : Option R} {op : Op} {ty : TypeId} {n : Nat} {env : List (Nat × Ent)} {G : List (Nat × Sh)} {O : List MO}

def updH (η : Nat → Hd) (k : Nat) (d : Hd) : Nat → Hd := fun i => bif Nat.beq i k then d else η i
theorem updH_at {η : Nat → Hd} {k : Nat} {d : Hd} : updH η k d k = d := by simp [updH]
theorem updH_lt {η : Nat → Hd} {k h : Nat} {d : Hd} (hh : h < k) : updH η k d h = η h := by simp only [updH]; rw [beq_ne (by omega)]; rfl

theorem oa_one {α : Type} {ρ : Rep α} {hv : Value} {S : List Nat} {d : List α} {F : FP} {w : World} (h : (oa ρ hv S d).h F w) : hv.oneCell' = true := by
  obtain ⟨a, c, e, _⟩ := h; rw [e]; rfl

theorem Sat.mem_ob {Γ : List (Nat × RP)} {Ω : List OB} {a : Act} {w : World} (hs : Sat E N Γ Ω a w) {o : OB} (ho : o ∈ Ω) : o.h (fr E Ω) w := hs.ob o ho

/-- a new slice of ours -/
theorem OpOk.newA (hw : WF n env) {t : Ty} {d : List t.den} (h : ∀ η, St P E N op ty (gma ⟨n, env, η⟩ G) (oma ⟨n, env, η⟩ O) [] (fun X : Value × List Nat => pv X.1) (fun X => oma ⟨n, env, η⟩ O ++ [oa t.rep X.1 X.2 d])) :
    OpOk P E N op ty n env G O ⟨.vl false [.own O.length (n + 1)], [⟨.sl t, d, none⟩], 1, [], [.oa (n + 1) n]⟩ := by
  have hsrc : ∀ e ∈ [(⟨.sl t, d, none⟩ : Ent)], SrcOk env e := fun e he => by rw [List.mem_singleton.1 he]; exact .none rfl
  refine ⟨hsrc, (fun _ _ h => by cases h), fun η => ?_⟩
  have h := h η
  refine h.to' fun X a w hs => ?_
  have h1 := oa_one (hs.mem_ob (o := oa t.rep X.1 X.2 d) (by simp))
  refine ⟨⟨updH η (n + 1) ⟨X.1, X.2, 0, h1⟩, fun k hk => updH_lt (by omega)⟩, ?_, ?_⟩
  · simp only [OpR.O', updO]
    refine oma_add (OpOk.ext hw (r := ⟨.vl false [.own O.length (n + 1)], [⟨.sl t, d, none⟩], 1, [], [.oa (n + 1) n]⟩) hsrc ⟨updH η (n + 1) ⟨X.1, X.2, 0, h1⟩, fun k hk => updH_lt (by omega)⟩) ?_ hs
    simp only [MO.ob, OpR.cx', OpR.env', OpR.n', keyed, lkE_cons, if_true, Option.bind_some, Dyn.ob, Ent.asSl, updH_at]
    rw [show Nat.blt (n + 1) (n + [(⟨.sl t, d, none⟩ : Ent)].length + 1) = true from by simp [Nat.blt_eq]]
    rfl
  · simp only [Sh.rp, vrp, cond_false, List.map_cons, List.headD_cons, At.rp, OpR.cx', OpR.n', updH_at]
    rw [show Nat.blt (n + 1) (n + [(⟨.sl t, d, none⟩ : Ent)].length + 1) = true from by simp [Nat.blt_eq]]
    rfl

/-- a slice of ours changes, its handle too -/
theorem OpOk.chgA (hw : WF n env) {t : Ty} {d : List t.den} {j : Nat} (h : ∀ η, St P E N op ty (gma ⟨n, env, η⟩ G) (oma ⟨n, env, η⟩ O) [j] (fun X : Value × List Nat => pv X.1) (fun X => (oma ⟨n, env, η⟩ O).set j (oa t.rep X.1 X.2 d))) (hj : j < O.length) :
    OpOk P E N op ty n env G O ⟨.vl false [.own j (n + 1)], [⟨.sl t, d, none⟩], 1, [(j, .oa (n + 1) n)], []⟩ := by
  have hsrc : ∀ e ∈ [(⟨.sl t, d, none⟩ : Ent)], SrcOk env e := fun e he => by rw [List.mem_singleton.1 he]; exact .none rfl
  refine ⟨hsrc, (fun _ h => by cases h), fun η => ?_⟩
  have h := h η
  refine h.to' fun X a w hs => ?_
  have h1 := oa_one (hs.mem_ob (o := oa t.rep X.1 X.2 d) (List.mem_iff_getElem?.2 ⟨j, by rw [List.getElem?_set_self (by simpa [oma] using hj)]⟩))
  refine ⟨⟨updH η (n + 1) ⟨X.1, X.2, 0, h1⟩, fun k hk => updH_lt (by omega)⟩, ?_, ?_⟩
  · simp only [OpR.O', updO, List.append_nil]
    refine oma_set (OpOk.ext hw (r := ⟨.vl false [.own j (n + 1)], [⟨.sl t, d, none⟩], 1, [(j, .oa (n + 1) n)], []⟩) hsrc ⟨updH η (n + 1) ⟨X.1, X.2, 0, h1⟩, fun k hk => updH_lt (by omega)⟩) ?_ hs
    simp only [MO.ob, OpR.cx', OpR.env', OpR.n', keyed, lkE_cons, if_true, Option.bind_some, Dyn.ob, Ent.asSl, updH_at]
    rw [show Nat.blt (n + 1) (n + [(⟨.sl t, d, none⟩ : Ent)].length + 1) = true from by simp [Nat.blt_eq]]
    rfl
  · simp only [Sh.rp, vrp, cond_false, List.map_cons, List.headD_cons, At.rp, OpR.cx', OpR.n', updH_at]
    rw [show Nat.blt (n + 1) (n + [(⟨.sl t, d, none⟩ : Ent)].length + 1) = true from by simp [Nat.blt_eq]]
    rfl

/-- a new variable -/
theorem OpOk.newC (hw : WF n env) {l : List At} (h : ∀ η, St P E N op ty (gma ⟨n, env, η⟩ G) (oma ⟨n, env, η⟩ O) [] (fun b : Nat => pv (ptr b 0)) (fun b => oma ⟨n, env, η⟩ O ++ [oc b (l.map (At.rp ⟨n, env, η⟩))])) :
    OpOk P E N op ty n env G O ⟨.vl false [.ptr O.length n 0], [], 1, [], [.oc n l]⟩ := by
  have hsrc : ∀ e ∈ ([] : List Ent), SrcOk env e := fun e he => by simp at he
  refine ⟨hsrc, (fun _ _ h => by cases h), fun η => ?_⟩
  have h := h η
  refine h.to' fun b a w hs => ?_
  have hx := OpOk.ext hw (r := ⟨.vl false [.ptr O.length n 0], [], 1, [], [.oc n l]⟩) hsrc ⟨updH η n ⟨.bool true, [], b, rfl⟩, fun k hk => updH_lt (by omega)⟩
  refine ⟨⟨updH η n ⟨.bool true, [], b, rfl⟩, fun k hk => updH_lt (by omega)⟩, ?_, ?_⟩
  · simp only [OpR.O', updO]
    refine oma_add hx ?_ hs
    obtain ⟨cells, ty', _, hl⟩ := hs.mem_ob (o := oc b (l.map (At.rp ⟨n, env, η⟩))) (by simp)
    simp only [MO.ob]
    rw [atl_eq hx hl]
    simp only [OpR.cx', OpR.n', updH_at]
    rw [show Nat.blt n (n + ([] : List Ent).length + 1) = true from by simp [Nat.blt_eq]]
    rfl
  · simp only [Sh.rp, vrp, cond_false, List.map_cons, List.headD_cons, At.rp, OpR.cx', OpR.n', updH_at]
    rw [show Nat.blt n (n + ([] : List Ent).length + 1) = true from by simp [Nat.blt_eq]]
    rfl

/-- a variable is written -/
theorem OpOk.setC (hw : WF n env) {l : List At} {j k : Nat} {X : Type} [Inhabited X] (hj : j < O.length) (hk : Nat.blt k n = true)
    (h : ∀ η, St P E N op ty (gma ⟨n, env, η⟩ G) (oma ⟨n, env, η⟩ O) [j] (fun _ : X => pv Go.undef) (fun _ => (oma ⟨n, env, η⟩ O).set j (oc (η k).b (l.map (At.rp ⟨n, env, η⟩))))) :
    OpOk P E N op ty n env G O ⟨.undef, [], 0, [(j, .oc k l)], []⟩ := by
  have hsrc : ∀ e ∈ ([] : List Ent), SrcOk env e := fun e he => by simp at he
  refine ⟨hsrc, (fun _ h => by cases h), fun η => ?_⟩
  have h := h η
  refine h.to' fun x a w hs => ?_
  refine ⟨⟨η, fun _ _ => rfl⟩, ?_, rfl⟩
  simp only [OpR.O', updO, List.append_nil]
  refine oma_set (OpOk.ext hw (r := ⟨.undef, [], 0, [(j, .oc k l)], []⟩) hsrc ⟨η, fun _ _ => rfl⟩) ?_ hs
  simp only [MO.ob, OpR.cx', OpR.n', OpR.env', keyed]
  rw [show Nat.blt k (n + ([] : List Ent).length + 0) = true from by simpa using hk]
  rfl

/-- the data of a slice of ours change -/
theorem OpOk.setD (hw : WF n env) {t : Ty} {d : List t.den} {j k : Nat} {X : Type} [Inhabited X] (hk : Nat.blt k n = true)
    (h : ∀ η, St P E N op ty (gma ⟨n, env, η⟩ G) (oma ⟨n, env, η⟩ O) [j] (fun _ : X => pv Go.undef) (fun _ => (oma ⟨n, env, η⟩ O).set j (oa t.rep (η k).hv (η k).S d))) :
    OpOk P E N op ty n env G O ⟨.undef, [⟨.sl t, d, none⟩], 0, [(j, .oa k n)], []⟩ := by
  have hsrc : ∀ e ∈ [(⟨.sl t, d, none⟩ : Ent)], SrcOk env e := fun e he => by rw [List.mem_singleton.1 he]; exact .none rfl
  refine ⟨hsrc, (fun _ h => by cases h), fun η => ?_⟩
  have h := h η
  refine h.to' fun x a w hs => ?_
  refine ⟨⟨η, fun _ _ => rfl⟩, ?_, rfl⟩
  simp only [OpR.O', updO, List.append_nil]
  refine oma_set (OpOk.ext hw (r := ⟨.undef, [⟨.sl t, d, none⟩], 0, [(j, .oa k n)], []⟩) hsrc ⟨η, fun _ _ => rfl⟩) ?_ hs
  simp only [MO.ob, OpR.cx', OpR.n', OpR.env', keyed, lkE_cons, if_true, Option.bind_some, Dyn.ob, Ent.asSl]
  rw [blt_mono hk (show n ≤ n + [(⟨.sl t, d, none⟩ : Ent)].length + 0 from by omega)]
  rfl

/-- data that the operation makes -/
theorem OpOk.newD (hw : WF n env) (hq : isQuiet op = false) {t : Ty} (ht : t.one = true) {d : t.den} {X : Type} (h : ∀ η, St P E N op ty (gma ⟨n, env, η⟩ G) (oma ⟨n, env, η⟩ O) [] (fun _ : X => sh t.rep d) (fun _ => oma ⟨n, env, η⟩ O)) :
    OpOk P E N op ty n env G O (resD n t d) := by
  have hsrc : ∀ e ∈ [(⟨t, d, none⟩ : Ent)], SrcOk env e := fun e he => by rw [List.mem_singleton.1 he]; exact .none rfl
  refine ⟨hsrc, (fun h => by rw [hq] at h; cases h), fun η => ?_⟩
  have h := h η
  refine h.to' fun x a w hs => ?_
  refine ⟨⟨η, fun _ _ => rfl⟩, ?_, ?_⟩
  · show oma _ (O ++ []) = _
    rw [List.append_nil]
    exact oma_good (OpOk.ext hw (r := resD n t d) hsrc ⟨η, fun _ _ => rfl⟩) hs
  · exact vr_rp ht

/-! ### facts about atoms -/
/-- slices of ours: where they stand, their data -/
def ownA (n : Nat) (env : List (Nat × Ent)) (O : List MO) (o h : Nat) : Option (Nat × (t : Ty) × List t.den) := match O[o]? with
  | some (.oa h' i) => bif Nat.beq h' h && Nat.blt h n then ((lkE env i).bind Ent.asSl).map fun p => (i, p) else none
  | _ => none
theorem ownA_ok {o h i : Nat} {t : Ty} {d : List t.den} (hh : ownA n env O o h = some (i, ⟨t, d⟩)) :
    Nat.blt h n = true ∧ o < O.length ∧ (∃ s, lkE env i = some ⟨.sl t, d, s⟩) ∧ ∀ η, (oma ⟨n, env, η⟩ O)[o]? = some (oa t.rep (η h).hv (η h).S d) := by
  unfold ownA at hh
  split at hh
  · rename_i h' i' ho
    cases hb : Nat.beq h' h && Nat.blt h n with
    | false => rw [hb] at hh; cases hh
    | true =>
      rw [hb] at hh
      simp only [cond_true, Option.map_eq_some_iff, Prod.mk.injEq] at hh
      obtain ⟨p, hp, rfl, rfl⟩ := hh
      obtain ⟨e, he, hs⟩ := Option.bind_eq_some_iff.1 hp
      obtain ⟨s, rfl⟩ := asSl_eq hs
      simp only [Bool.and_eq_true] at hb
      obtain ⟨h1, h2⟩ := hb
      obtain rfl := Nat.eq_of_beq_eq_true h1
      refine ⟨h2, (List.getElem?_eq_some_iff.1 ho).1, ⟨s, he⟩, fun η => ?_⟩
      simp only [oma, List.getElem?_map, ho, Option.map_some, MO.ob, he, Option.bind_some, Dyn.ob, Ent.asSl, h2, cond_true]
  · cases hh

/-- slices of ours and maps -/
def anyA (n : Nat) (env : List (Nat × Ent)) (O : List MO) (o h : Nat) : Option (Nat × Dyn) := match O[o]? with
  | some (.oa h' i) => bif Nat.beq h' h && Nat.blt h n then (lkE env i).map fun e => (i, ⟨e.t, e.d⟩) else none
  | _ => none
theorem anyA_ok {o h i : Nat} {D : Dyn} (hh : anyA n env O o h = some (i, D)) :
    Nat.blt h n = true ∧ o < O.length ∧ (∃ s, lkE env i = some ⟨D.t, D.d, s⟩) ∧ ∀ η, (oma ⟨n, env, η⟩ O)[o]? = some (D.ob (η h)) := by
  unfold anyA at hh
  split at hh
  · rename_i h' i' ho
    cases hb : Nat.beq h' h && Nat.blt h n with
    | false => rw [hb] at hh; cases hh
    | true =>
      rw [hb] at hh
      obtain ⟨e, he, hs⟩ := Option.map_eq_some_iff.1 hh
      cases hs
      simp only [Bool.and_eq_true] at hb
      obtain ⟨h1, h2⟩ := hb
      obtain rfl := Nat.eq_of_beq_eq_true h1
      refine ⟨h2, (List.getElem?_eq_some_iff.1 ho).1, ⟨e.src, he⟩, fun η => ?_⟩
      simp only [oma, List.getElem?_map, ho, Option.map_some, MO.ob, he, h2, cond_true]
  · cases hh

/-- variables: their cells -/
def varC (n : Nat) (O : List MO) (o h : Nat) : Option (List At) := match O[o]? with
  | some (.oc h' l) => bif Nat.beq h' h && Nat.blt h n then some l else none
  | _ => none
theorem varC_ok {o h : Nat} {l : List At} (hh : varC n O o h = some l) : Nat.blt h n = true ∧ o < O.length ∧ ∀ η, (oma ⟨n, env, η⟩ O)[o]? = some (oc (η h).b (l.map (At.rp ⟨n, env, η⟩))) := by
  unfold varC at hh
  split at hh
  · rename_i h' l' ho
    cases hb : Nat.beq h' h && Nat.blt h n with
    | false => rw [hb] at hh; cases hh
    | true =>
      rw [hb] at hh
      cases hh
      simp only [Bool.and_eq_true] at hb
      obtain ⟨h1, h2⟩ := hb
      obtain rfl := Nat.eq_of_beq_eq_true h1
      refine ⟨h2, (List.getElem?_eq_some_iff.1 ho).1, fun η => ?_⟩
      simp only [oma, List.getElem?_map, ho, Option.map_some]
      rw [oc_ob h2]
  · cases hh
end Go.Dc

set_option linter.unusedSectionVars false
set_option linter.unusedVariables false
/-! Loads, stores, addresses, new memory. -/
namespace Go.Dc
variable [DrawMode] {R : Type} {P : Program} [PTab P] {E : Env} {N : Nat} {K : KT R} {m : Option R} {op : Op} {ty : TypeId} {n : Nat} {env : List (Nat × Ent)} {G : List (Nat × Sh)} {O : List MO}

/-! ### addresses of fields -/
def strctF (P : Program) (t : TypeId) (f : Nat) : Option Go.Field := match P.underlying t with
  | some (.struct fs) => fs[f]?
  | _ => none
theorem strctF_ok {t : TypeId} {f : Nat} {fd : Go.Field} (h : strctF P t f = some fd) : ∃ fs, P.underlying t = some (.struct fs) ∧ fs[f]? = some fd := by
  unfold strctF at h
  split at h
  · rename_i fs hu; exact ⟨fs, hu, h⟩
  · cases h

/-- the part of an entry that a field is -/
def fldE (P : Program) [PTab P] (e : Ent) (f : Nat) : Option (Nat × Dyn) := match e with
  | ⟨.st k, d, _⟩ => PTab.fld (P := P) k f d
  | _ => none
theorem fldE_ok {e : Ent} {f fo : Nat} {D : Dyn} (h : fldE P e f = some (fo, D)) : ((e.t.rep.cp e.d).drop fo).take D.t.rep.size = D.t.rep.cp D.d ∧ fo + D.t.rep.size ≤ e.t.rep.size := by
  unfold fldE at h
  split at h
  · rename_i k d s; exact PTab.fld_ok k f d fo D h
  · cases h

def ownE (n : Nat) (env : List (Nat × Ent)) (O : List MO) (o h y : Nat) : Option (Ent × Int × (t : Ty) × List t.den) := match lkE env y with
  | some ⟨t, d, some (.el ds ix)⟩ => (ownA n env O o h).bind fun p => bif Nat.beq p.1 ds then some (⟨t, d, some (.el ds ix)⟩, ix, p.2) else none
  | _ => none
/-- an element of a slice of ours -/
theorem ownE_ok (hw : WF n env) {o h y : Nat} {e : Ent} {ix : Int} {p : (t : Ty) × List t.den} (hh : ownE n env O o h y = some (e, ix, p)) :
    lkE env y = some e ∧ (∃ ds, e.src = some (.el ds ix)) ∧ ∃ l : List e.t.den, p = ⟨e.t, l⟩ ∧ idxM l ix = some e.d ∧ Nat.blt h n = true ∧ o < O.length ∧ ∀ η, (oma ⟨n, env, η⟩ O)[o]? = some (oa e.t.rep (η h).hv (η h).S l) := by
  unfold ownE at hh
  split at hh
  · rename_i t d ds ix' he
    obtain ⟨q, hq, h2⟩ := Option.bind_eq_some_iff.1 hh
    cases hb : Nat.beq q.1 ds with
    | false => rw [hb] at h2; cases h2
    | true =>
      rw [hb] at h2
      simp only [cond_true, Option.some.injEq, Prod.mk.injEq] at h2
      obtain ⟨rfl, rfl, rfl⟩ := h2
      obtain ⟨i, t', l⟩ := q
      obtain ⟨h3, h4, ⟨s, h5⟩, h6⟩ := ownA_ok hq
      obtain rfl := Nat.eq_of_beq_eq_true hb
      have h7 := hw.src y _ he
      unfold SrcOk at h7
      obtain ⟨l', s', h8, h9⟩ := h7
      dsimp only at h8
      rw [h5] at h8
      cases h8
      exact ⟨he, ⟨_, rfl⟩, l, rfl, h9, h3, h4, h6⟩
  · cases hh

def faddrE (P : Program) [PTab P] (n : Nat) (env : List (Nat × Ent)) (G : List (Nat × Sh)) (O : List MO) (t : TypeId) (x : Operand) (f : Nat) : Ask OpR :=
  Ask.of (strctF P t f) fun fd => Ask.of (sizeT P fd.type) fun k => Ask.when (Nat.blt 0 k) (Ask.of (opA G x) fun a => match a with
    | .ptr o h off => Ask.when (Nat.blt h n) (.ret (resS (.vl false [.ptr o h (off + fd.offset)])))
    | .ea i => Ask.of (lkE env i) fun e => Ask.of (fldE P e f) fun p => Ask.when (Nat.beq fd.offset p.1) (.ret ⟨.vl false [.ea n], [⟨p.2.t, p.2.d, none⟩], 0, [], []⟩)
    | .oea o h y => Ask.of (ownE n env O o h y) fun q => Ask.of (fldE P q.1 f) fun p => Ask.when (Nat.beq fd.offset p.1) (.ret ⟨.vl false [.oef o h n], [⟨p.2.t, p.2.d, some (.fl y p.1)⟩], 0, [], []⟩)
    | _ => .fail)
theorem faddrE_ok (hw : WF n env) {t : TypeId} {x : Operand} {f : Nat} : AskOk (OpOk P E N (.fieldAddr t x f) ty n env G O) (faddrE P n env G O t x f) :=
  AskOk.of fun fd hfd => AskOk.of fun k hk => AskOk.when fun hk0 => AskOk.of fun a ha => by
    obtain ⟨fs, hu, hf⟩ := strctF_ok hfd
    obtain ⟨k, rfl⟩ : ∃ k', k = k' + 1 := ⟨k - 1, by simp only [Nat.blt_eq] at hk0; omega⟩
    have hx := fun η => opA_rp (c := ⟨n, env, η⟩) ha
    split
    · rename_i o h off
      refine AskOk.when fun hb => OpOk.same hw fun η => ?_
      have h1 := hx η
      rw [ptr_rp (c := ⟨n, env, η⟩) hb] at h1
      have h2 := r_faddr (E := E) (N := N) (Ω := oma ⟨n, env, η⟩ O) (ty := ty) hu hf rfl (sizeT_ok hk) h1
      show Rd _ _ _ _ _ _ _ _ ((At.ptr o h (off + fd.offset)).rp ⟨n, env, η⟩)
      rw [ptr_rp (c := ⟨n, env, η⟩) hb]
      exact h2
    · rename_i i
      refine AskOk.of fun e he => AskOk.of fun p hp => AskOk.when fun hb => ?_
      obtain ⟨h1, h2⟩ := fldE_ok hp
      have hb := Nat.eq_of_beq_eq_true hb
      refine OpOk.rd' hw (fun e he => by rw [List.mem_singleton.1 he]; exact .none rfl) fun η => ?_
      have h3 := hx η
      simp only [At.rp, he] at h3
      have h4 := r_fea (E := E) (N := N) (Ω := oma ⟨n, env, η⟩ O) (ty := ty) (ρ' := p.2.t.rep) (z := p.2.d) hu hf hb (sizeT_ok hk) h3 h1 (Nat.ble_eq_true_of_le h2)
      simp only [Sh.rp, vrp, cond_false, List.map_cons, List.headD_cons, At.rp, keyed, lkE_cons, if_true]
      exact h4
    · rename_i o h y
      refine AskOk.of fun q hq => AskOk.of fun p hp => AskOk.when fun hb => ?_
      obtain ⟨e, ix, pl⟩ := q
      obtain ⟨he, ⟨ds, hsrc⟩, l, rfl, hi, hbl, hlt, hj⟩ := ownE_ok hw hq
      obtain ⟨h1, h2⟩ := fldE_ok hp
      have hb := Nat.eq_of_beq_eq_true hb
      have hy : y ≠ n := fun h => by have := hw.lt y e he; omega
      refine OpOk.rd' hw (fun e' he' => ?_) fun η => ?_
      · rw [List.mem_singleton.1 he']; exact ⟨e, he, h1, h2⟩
      · have h3 := hx η
        obtain ⟨t', d', s'⟩ := e
        simp only at hsrc
        subst hsrc
        simp only [At.rp, he, hbl, cond_true] at h3
        have h4 := r_foea (E := E) (N := N) (Ω := oma ⟨n, env, η⟩ O) (ty := ty) (ρ := t'.rep) (fo := p.1) hi hu hf hb (sizeT_ok hk) h3 (hj η)
        simp only [Sh.rp, vrp, cond_false, List.map_cons, List.headD_cons, At.rp, keyed, lkE_cons, if_true, if_neg hy, he]
        rw [blt_mono hbl (show n ≤ n + [(⟨p.2.t, p.2.d, some (.fl y p.1)⟩ : Ent)].length from by omega)]
        exact h4
    · trivial

/-! ### loads -/
def resE (P : Program) [PTab P] (n i : Nat) (e : Ent) : OpR := bif e.t.one then resS (.vl false [.vr i]) else ⟨(valD P n ⟨e.t, e.d⟩).1, (valD P n ⟨e.t, e.d⟩).2, 0, [], []⟩
theorem resE_ok (hw : WF n env) {i : Nat} {e : Ent} (he : lkE env i = some e) {J : List Nat} (hJ : ∀ j ∈ J, j ∈ readO G op) (h : ∀ η, Rd P E N op ty (gma ⟨n, env, η⟩ G) (oma ⟨n, env, η⟩ O) J (sh e.t.rep e.d)) : OpOk P E N op ty n env G O (resE P n i e) := by
  unfold resE
  cases ho : e.t.one with
  | true =>
    refine OpOk.rdJ hw (fun e he => by simp at he) hJ fun η => ?_
    show Rd _ _ _ _ _ _ _ _ ((At.vr i).rp ⟨n, env, η⟩)
    simp only [At.rp, he, ho, cond_true]
    exact h η
  | false =>
    refine OpOk.rdJ hw (valD_rp (D := ⟨e.t, e.d⟩) (η := fun _ => ⟨.bool true, [], 0, rfl⟩) (n' := 0) rfl).2 hJ fun η => ?_
    rw [(valD_rp (D := ⟨e.t, e.d⟩) (v := (valD P n ⟨e.t, e.d⟩).1) (add := (valD P n ⟨e.t, e.d⟩).2) rfl).1]; exact h η

theorem cst_no {v : Value} {a : At} {o : Nat} (hc : cst v = some (.vl false [a])) (h : (∃ h off, a = .ptr o h off) ∨ (∃ h y, a = .oea o h y) ∨ (∃ h z, a = .oef o h z)) : False := by
  unfold cst at hc
  split at hc <;> first
    | (cases hc; rcases h with ⟨_, _, e⟩ | ⟨_, _, e⟩ | ⟨_, _, e⟩ <;> cases e; done)
    | (cases hc; done)
theorem readO_load {G : List (Nat × Sh)} {t : TypeId} {x : Operand} {a : At} {o : Nat} (ha : opA G x = some a) (h : (∃ h off, a = .ptr o h off) ∨ (∃ h y, a = .oea o h y) ∨ (∃ h z, a = .oef o h z)) : ∀ j ∈ [o], j ∈ readO G (.load t x) := by
  intro j hj
  rw [List.mem_singleton.1 hj]
  cases x with
  | tmp s =>
    have h1 : lkG G s = some (.vl false [a]) := by
      unfold opA opd at ha
      split at ha
      · rename_i b hb; cases ha; exact hb
      · cases ha
    simp only [readO, h1]
    rcases h with ⟨_, _, rfl⟩ | ⟨_, _, rfl⟩ | ⟨_, _, rfl⟩ <;> simp [addrO]
  | const v =>
    unfold opA at ha
    split at ha
    · rename_i b hb
      cases ha
      exact (cst_no (show cst v = _ from hb) h).elim
    · cases ha
  | func f =>
    unfold opA opd at ha
    cases ha
    rcases h with ⟨_, _, h⟩ | ⟨_, _, h⟩ | ⟨_, _, h⟩ <;> cases h
  | global g => unfold opA opd at ha; cases ha

def loadE (P : Program) [PTab P] (n : Nat) (env : List (Nat × Ent)) (G : List (Nat × Sh)) (O : List MO) (t : TypeId) (x : Operand) : Ask OpR :=
  Ask.of (opA G x) fun a => match a with
    | .ptr o h off => Ask.of (varC n O o h) fun l => Ask.of (aggT P t) fun g => bif g
        then Ask.of (sizeT P t) fun k => Ask.when (Nat.beq ((l.drop off).take k).length k) (.ret (resS (.vl true ((l.drop off).take k))))
        else Ask.of l[off]? fun a => .ret (resS (.vl false [a]))
    | .ea i => Ask.of (lkE env i) fun e => Ask.of (elT P t) fun c => if c.1 = e.t then .ret (resE P n i e) else .fail
    | .oea o h y => Ask.of (ownE n env O o h y) fun q => Ask.of (elT P t) fun c => if c.1 = q.1.t then .ret (resE P n y q.1) else .fail
    | .oef o h z => Ask.of (lkE env z) fun ez => match ez.src with
      | some (.fl y fo) => Ask.of (ownE n env O o h y) fun q => Ask.of (elT P t) fun c => if c.1 = ez.t then .ret (resE P n z ez) else .fail
      | _ => .fail
    | _ => .fail
theorem loadE_ok (hw : WF n env) {t : TypeId} {x : Operand} : AskOk (OpOk P E N (.load t x) ty n env G O) (loadE P n env G O t x) :=
  AskOk.of fun a ha => by
    have hx := fun η => opA_rp (c := ⟨n, env, η⟩) ha
    split
    · rename_i o h off
      refine AskOk.of fun l hl => AskOk.of fun g hg => ?_
      obtain ⟨hb, hlt, hj⟩ := varC_ok (env := env) hl
      cases g with
      | true =>
        refine AskOk.of fun k hk => AskOk.when fun hkl => OpOk.rdJ hw (fun e he => by simp at he) (readO_load ha (.inl ⟨_, _, rfl⟩)) fun η => ?_
        have h1 := hx η
        rw [ptr_rp (c := ⟨n, env, η⟩) hb] at h1
        have h2 := r_cloadS (E := E) (N := N) (ty := ty) (aggT_ok hg) (sizeT_ok hk) h1 (hj η) rfl (by simpa using hkl)
        simp only [Sh.rp, vrp, cond_true]
        rw [List.map_take, List.map_drop]
        exact h2
      | false =>
        refine AskOk.of fun b hb' => OpOk.rdJ hw (fun e he => by simp at he) (readO_load ha (.inl ⟨_, _, rfl⟩)) fun η => ?_
        have h1 := hx η
        rw [ptr_rp (c := ⟨n, env, η⟩) hb] at h1
        exact r_cload (E := E) (N := N) (ty := ty) (aggT_ok hg) h1 (hj η) (by rw [List.getElem?_map, hb']; rfl)
    · rename_i i
      refine AskOk.of fun e he => AskOk.of fun c hc => ?_
      split
      · rename_i h
        obtain ⟨c1, c2⟩ := c
        simp only at h
        subst h
        refine resE_ok hw he (J := []) (fun j hj => by simp at hj) fun η => (r_load (elT_ok hc) ?_)
        have h1 := hx η
        simp only [At.rp, he] at h1
        exact h1
      · trivial
    · rename_i o h y
      refine AskOk.of fun q hq => AskOk.of fun c hc => ?_
      split
      · rename_i h0
        obtain ⟨e, ix, pl⟩ := q
        obtain ⟨he, ⟨ds, hsrc⟩, l, rfl, hi, hbl, hlt, hj⟩ := ownE_ok hw hq
        obtain ⟨c1, c2⟩ := c
        simp only at h0
        subst h0
        refine resE_ok hw he (readO_load ha (.inr (.inl ⟨_, _, rfl⟩))) fun η => (r_oload hi (elT_ok hc) ?_ (hj η))
        have h1 := hx η
        obtain ⟨t', d', s'⟩ := e
        simp only at hsrc
        subst hsrc
        simp only [At.rp, he, hbl, cond_true] at h1
        exact h1
      · trivial
    · rename_i o h z
      refine AskOk.of fun ez hez => ?_
      split
      · rename_i y fo hsz
        refine AskOk.of fun q hq => AskOk.of fun c hc => ?_
        split
        · rename_i h0
          obtain ⟨e, ix, pl⟩ := q
          obtain ⟨he, ⟨ds, hsrc⟩, l, rfl, hi, hbl, hlt, hj⟩ := ownE_ok hw hq
          obtain ⟨c1, c2⟩ := c
          simp only at h0
          subst h0
          have h7 := hw.src z _ hez
          unfold SrcOk at h7
          rw [hsz] at h7
          obtain ⟨ey, h8, h9, h10⟩ := h7
          rw [he] at h8
          cases h8
          refine resE_ok hw hez (readO_load ha (.inr (.inr ⟨_, _, rfl⟩))) fun η => (r_foload hi (elT_ok hc) ?_ (hj η) h9 (Nat.ble_eq_true_of_le h10))
          have h1 := hx η
          obtain ⟨t', d', s'⟩ := e
          simp only at hsrc
          subst hsrc
          obtain ⟨tz, dz, sz⟩ := ez
          simp only at hsz
          subst hsz
          simp only [At.rp, hez, he, hbl, cond_true] at h1
          exact h1
        · trivial
      · trivial
    · trivial
end Go.Dc

set_option linter.unusedSectionVars false
set_option linter.unusedVariables false
/-! Indices, stores, new variables, struct and slice literals. -/
namespace Go.Dc
variable [DrawMode] {R : Type} {P : Program} [PTab P] {E : Env} {N : Nat} {K : KT R} {m : Option R} {op : Op} {ty : TypeId} {n : Nat} {env : List (Nat × Ent)} {G : List (Nat × Sh)} {O : List MO}

/-! ### indices -/
/-- a slice that all share: its data, and where they stand -/
def slI (env : List (Nat × Ent)) (G : List (Nat × Sh)) (x : Operand) : Option ((t : Ty) × List t.den) := opL env G x

/-- an index that is one of i, i + 1 .. -/
def askIx {α : Type} (ix : Int) (k : Nat → Ask α) : Nat → Nat → Ask α
  | _, 0 => .fail
  | i, m + 1 => .cond (ix == (i : Int)) (k i) (askIx ix k (i + 1) m)
theorem askIx_ok {α : Type} {Q : α → Prop} {ix : Int} {k : Nat → Ask α} {len : Nat} (h : ∀ i, i < len → ix = (i : Int) → AskOk Q (k i)) : ∀ {m i : Nat}, i + m = len → AskOk Q (askIx ix k i m)
  | 0, _, _ => trivial
  | m + 1, i, e => ⟨fun hb => h i (by omega) (eq_of_beq hb), fun _ => askIx_ok h (m := m) (by omega)⟩

def idxE (P : Program) [PTab P] (n : Nat) (env : List (Nat × Ent)) (G : List (Nat × Sh)) (O : List MO) (t : TypeId) (x i : Operand) : Ask OpR :=
  Ask.of (opI env G i) fun ix => match P.underlying t with
  | some (.slice e) => Ask.of (elT P e) fun c => Ask.of (opA G x) fun a => match a with
    | .own o h => Ask.of (ownA n env O o h) fun q => if hc : c.1 = q.2.1 then .bind (idxM q.2.2 ix.2) fun y => .ret ⟨.vl false [.oea o h n], [⟨q.2.1, y, some (.el q.1 ix.2)⟩], 0, [], []⟩ else .fail
    | _ => Ask.of (opL env G x) fun l => if hc : c.1 = l.1 then .bind (idxM l.2 ix.2) fun y => .ret ⟨.vl false [.ea n], [⟨l.1, y, none⟩], 0, [], []⟩ else .fail
  | some (.array len e) => Ask.of (sizeT P e) fun sz => Ask.of (opA G x) fun a => match a with
    | .ptr o h off => Ask.when (Nat.blt h n) (bif opLit G i then (if 0 ≤ ix.2 ∧ ix.2 < len then .ret (resS (.vl false [.ptr o h (off + ix.2.toNat * sz)])) else .fail)
      else Ask.when (Nat.ble len 8) (askIx ix.2 (fun j => .ret (resS (.vl false [.ptr o h (off + j * sz)]))) 0 len))
    | _ => .fail
  | _ => .fail
theorem idxE_ok (hw : WF n env) {t : TypeId} {x i : Operand} : AskOk (OpOk P E N (.indexAddr t x i) ty n env G O) (idxE P n env G O t x i) :=
  AskOk.of fun ix hix => by
    have hi := fun η => opI_rp (n := n) (η := η) hix
    split
    · rename_i e hu
      refine AskOk.of fun c hc => AskOk.of fun a ha => ?_
      have hx := fun η => opA_rp (c := ⟨n, env, η⟩) ha
      split
      · rename_i o h
        refine AskOk.of fun q hq => ?_
        split
        · rename_i hct
          obtain ⟨i0, t', l⟩ := q
          obtain ⟨c1, c2⟩ := c
          simp only at hct
          subst hct
          obtain ⟨hb, hlt, ⟨s, he⟩, hj⟩ := ownA_ok hq
          intro y hy
          refine OpOk.rd' hw (fun e' he' => ?_) fun η => ?_
          · rw [List.mem_singleton.1 he']; exact ⟨l, s, he, hy⟩
          · have h1 := hx η
            rw [own_rp (c := ⟨n, env, η⟩) hb] at h1
            have h2 := r_oindex (E := E) (N := N) (ty := ty) hy hu (elT_ok hc) h1 (hj η) (hi η)
            simp only [Sh.rp, vrp, cond_false, List.map_cons, List.headD_cons, At.rp, keyed, lkE_cons, if_true]
            rw [blt_mono hb (show n ≤ n + [(⟨c1, y, some (.el i0 ix.2)⟩ : Ent)].length from by omega)]
            exact h2
        · trivial
      · refine AskOk.of fun l hl => ?_
        split
        · rename_i hct
          obtain ⟨t', l⟩ := l
          obtain ⟨c1, c2⟩ := c
          simp only at hct
          subst hct
          intro y hy
          refine OpOk.rd' hw (fun e' he' => by rw [List.mem_singleton.1 he']; exact .none rfl) fun η => ?_
          have h2 := r_index (E := E) (N := N) (Ω := oma ⟨n, env, η⟩ O) (ty := ty) hy hu (elT_ok hc) (opL_rp (n := n) (η := η) hl) (hi η)
          simp only [Sh.rp, vrp, cond_false, List.map_cons, List.headD_cons, At.rp, keyed, lkE_cons, if_true]
          exact h2
        · trivial
    · rename_i len e hu
      refine AskOk.of fun sz hsz => AskOk.of fun a ha => ?_
      have hx := fun η => opA_rp (c := ⟨n, env, η⟩) ha
      split
      · rename_i o h off
        refine AskOk.when fun hb => ?_
        cases hlit : opLit G i with
        | true =>
          simp only [cond_true]
          split
          · rename_i hr
            refine OpOk.same hw fun η => ?_
            have h1 := hx η
            rw [ptr_rp (c := ⟨n, env, η⟩) hb] at h1
            have h2 := r_aaddr (E := E) (N := N) (Ω := oma ⟨n, env, η⟩ O) (ty := ty) hr hu (sizeT_ok hsz) h1 (hi η)
            show Rd _ _ _ _ _ _ _ _ ((At.ptr o h (off + ix.2.toNat * sz)).rp ⟨n, env, η⟩)
            rw [ptr_rp (c := ⟨n, env, η⟩) hb]
            exact h2
          · trivial
        | false =>
          simp only [cond_false]
          refine AskOk.when fun _ => askIx_ok (len := len) (fun j hj hij => ?_) (by omega)
          refine OpOk.same hw fun η => ?_
          have h1 := hx η
          rw [ptr_rp (c := ⟨n, env, η⟩) hb] at h1
          have h2 := r_aaddr (E := E) (N := N) (Ω := oma ⟨n, env, η⟩ O) (ty := ty) (show 0 ≤ ix.2 ∧ ix.2 < (len : Int) by omega) hu (sizeT_ok hsz) h1 (hi η)
          show Rd _ _ _ _ _ _ _ _ ((At.ptr o h (off + j * sz)).rp ⟨n, env, η⟩)
          rw [ptr_rp (c := ⟨n, env, η⟩) hb]
          have e : ix.2.toNat = j := by omega
          rw [e] at h2
          exact h2
      · trivial
    · trivial

/-! ### stores -/
/-- the cells from fo on are written anew -/
def putD (P : Program) [PTab P] (k : Nat) (d : SDen.den k) (fo : Nat) (Ds : List Dyn) : Option (SDen.den k) :=
  PTab.join (P := P) k ((PTab.split (P := P) k d).take fo ++ Ds ++ (PTab.split (P := P) k d).drop (fo + Ds.length))

def storeE (P : Program) [PTab P] (n : Nat) (env : List (Nat × Ent)) (G : List (Nat × Sh)) (O : List MO) (t : TypeId) (x y : Operand) : Ask OpR :=
  Ask.of (sizeT P t) fun k => Ask.of (opA G x) fun a => match a with
    | .ptr o h off => Ask.of (varC n O o h) fun l => Ask.of (opC G y) fun cs => Ask.when (Nat.beq cs.length k && Nat.ble (off + k) l.length)
        (.ret ⟨.undef, [], 0, [(o, .oc h (l.take off ++ cs ++ l.drop (off + k)))], []⟩)
    | .oea o h z => Ask.of (ownE n env O o h z) fun q => Ask.of (elT P t) fun c => if c.1 = q.1.t ∧ q.2.2.1 = q.1.t then
        Ask.of (opT P env G q.2.2.1 y) fun u => .ret ⟨.undef, [⟨.sl q.2.2.1, q.2.2.2.set q.2.1.toNat u, none⟩], 0, [(o, .oa h n)], []⟩ else .fail
    | .oef o h z => Ask.of (lkE env z) fun ez => match ez.src with
      | some (.fl ye fo) => Ask.of (ownE n env O o h ye) fun q => Ask.of (opC G y) fun cs => match q with
        | ⟨⟨.st k', d, s⟩, ix, ⟨.st k2, l⟩⟩ => if hk : k2 = k' then
          Ask.of (atsD env (((PTab.split (P := P) k' d).drop fo).map (·.t) |>.take cs.length) cs) fun Ds => Ask.when (Nat.beq Ds.length k && Nat.ble (fo + Ds.length) (SRep.rep k').size)
            (Ask.of (putD P k' d fo Ds) fun u => .ret ⟨.undef, [⟨.sl (.st k2), l.set ix.toNat (hk ▸ u), none⟩], 0, [(o, .oa h n)], []⟩) else .fail
        | _ => .fail
      | _ => .fail
    | _ => .fail
theorem storeE_ok (hw : WF n env) {t : TypeId} {x y : Operand} : AskOk (OpOk P E N (.store t x y) ty n env G O) (storeE P n env G O t x y) :=
  AskOk.of fun k hk => AskOk.of fun a ha => by
    have hx := fun η => opA_rp (c := ⟨n, env, η⟩) ha
    split
    · rename_i o h off
      refine AskOk.of fun l hl => AskOk.of fun cs hcs => AskOk.when fun hb => ?_
      obtain ⟨hbl, hlt, hj⟩ := varC_ok (env := env) hl
      simp only [Bool.and_eq_true] at hb
      refine OpOk.setC hw (X := Unit) hlt hbl fun η => ?_
      have h1 := hx η
      rw [ptr_rp (c := ⟨n, env, η⟩) hbl] at h1
      exact s_cstore (E := E) (N := N) (ty := ty) (sizeT_ok hk) h1 (hj η) (opC_part hcs) (by simpa using hb.1) (by simpa using hb.2) (by simp)
    · rename_i o h z
      refine AskOk.of fun q hq => AskOk.of fun c hc => ?_
      split
      · rename_i hct
        refine AskOk.of fun u hu => ?_
        obtain ⟨e, ix, pl⟩ := q
        obtain ⟨he, ⟨ds, hsrc⟩, l, rfl, hi, hbl, hlt, hj⟩ := ownE_ok hw hq
        obtain ⟨c1, c2⟩ := c
        simp only at hct
        obtain ⟨rfl, _⟩ := hct
        refine OpOk.setD hw (X := Unit) hbl fun η => ?_
        have h1 := hx η
        obtain ⟨t', d', s'⟩ := e
        simp only at hsrc
        subst hsrc
        simp only [At.rp, he, hbl, cond_true] at h1
        exact s_ostore (E := E) (N := N) (ty := ty) hi (elT_ok hc) h1 (hj η) (opT_part hu)
      · trivial
    · rename_i o h z
      refine AskOk.of fun ez hez => ?_
      split
      · rename_i ye fo hsz
        refine AskOk.of fun q hq => AskOk.of fun cs hcs => ?_
        split
        · rename_i k' d s ix k2 l
          split
          · rename_i hkk
            subst hkk
            refine AskOk.of fun Ds hDs => AskOk.when fun hb => AskOk.of fun u hu => ?_
            obtain ⟨he, ⟨ds, hsrc⟩, l', hl', hi, hbl, hlt, hj⟩ := ownE_ok hw hq
            cases hl'
            simp only [Bool.and_eq_true] at hb
            have hDl : Ds.length = k := Nat.eq_of_beq_eq_true hb.1
            refine OpOk.setD hw (X := Unit) hbl fun η => ?_
            have h1 := hx η
            obtain ⟨tz, dz, sz⟩ := ez
            simp only at hsz hsrc
            subst hsz; subst hsrc
            simp only [At.rp, hez, he, hbl, cond_true] at h1
            have hsp : (SRep.rep k2).cp d = (PTab.split (P := P) k2 d).map Dyn.rp := PTab.split_ok k2 d
            have hju : (SRep.rep k2).cp u = ((PTab.split (P := P) k2 d).take fo ++ Ds ++ (PTab.split (P := P) k2 d).drop (fo + Ds.length)).map Dyn.rp := PTab.join_ok k2 _ u hu
            exact s_fostore (E := E) (N := N) (ty := ty) (ρ := (Ty.st k2).rep) (u := u) (φs := Ds.map Dyn.rp) hi (by rw [List.length_map, hDl]; exact sizeT_ok hk) h1 (hj η)
              ((opC_part hcs).imp (atsD_imp (c := ⟨n, env, η⟩) hDs))
              (by show (SRep.rep k2).cp u = List.take fo ((SRep.rep k2).cp d) ++ _ ++ List.drop _ ((SRep.rep k2).cp d)
                  rw [hju, hsp]; simp [List.map_take, List.map_drop])
              (by rw [List.length_map]; exact hb.2)
          · trivial
        · trivial
      · trivial
    · trivial
end Go.Dc

set_option linter.unusedSectionVars false
set_option linter.unusedVariables false
/-! New variables, struct and slice literals. -/
namespace Go.Dc
variable [DrawMode] {R : Type} {P : Program} [PTab P] {E : Env} {N : Nat} {K : KT R} {m : Option R} {op : Op} {ty : TypeId} {n : Nat} {env : List (Nat × Ent)} {G : List (Nat × Sh)} {O : List MO}

/-! ### zero values -/
def zAt : Value → Option At
  | .int k n => some (.ci k n)
  | .bool b => some (.cb b)
  | .string s => some (.ck s)
  | .slice none 0 0 => some .nl
  | .pointer none => some .nilp
  | .nilFunc => some .nilf
  | .map none => some .junk
  | _ => none
theorem zAt_rp {v : Value} {a : At} (h : zAt v = some a) {c : Cx} {F : FP} {w : World} : (a.rp c).h F w v := by
  unfold zAt at h
  split at h <;> first | (cases h; rfl) | cases h
def zAts : List Value → Option (List At)
  | [] => some []
  | v :: vs => (zAt v).bind fun a => (zAts vs).map (a :: ·)
theorem zAts_rp {c : Cx} {F : FP} {w : World} : ∀ {vs : List Value} {l : List At}, zAts vs = some l → AllP F w (l.map (At.rp c)) vs
  | [], _, h => by cases h; trivial
  | v :: vs, l, h => by
    simp only [zAts] at h
    obtain ⟨a, h1, h2⟩ := Option.bind_eq_some_iff.1 h
    obtain ⟨l', h3, rfl⟩ := Option.map_eq_some_iff.1 h2
    exact ⟨zAt_rp h1, zAts_rp h3⟩
/-- the cells of a type's zero value -/
def zeroT (P : Program) (t : TypeId) : Option (List At) := (P.info? t).bind fun i => i.zero.bind fun z => zAts z.cells.toList
theorem zeroT_ok {t : TypeId} {l : List At} (h : zeroT P t = some l) : ∃ i z, P.info? t = some i ∧ i.zero = some z ∧ ∀ c F w, AllP F w (l.map (At.rp c)) z.cells.toList := by
  obtain ⟨i, hi, h⟩ := Option.bind_eq_some_iff.1 h
  obtain ⟨z, hz, h⟩ := Option.bind_eq_some_iff.1 h
  exact ⟨i, z, hi, hz, fun c F w => zAts_rp h⟩

def allocE (P : Program) (n : Nat) (O : List MO) (t : TypeId) : Ask OpR := Ask.of (zeroT P t) fun l => .ret ⟨.vl false [.ptr O.length n 0], [], 1, [], [.oc n l]⟩
theorem allocE_ok (hw : WF n env) {t : TypeId} : AskOk (OpOk P E N (.alloc t) ty n env G O) (allocE P n O t) :=
  AskOk.of fun l hl => OpOk.newC hw fun η => (s_alloc (by
    obtain ⟨i, z, hi, hz, h⟩ := zeroT_ok hl
    exact ⟨i, z, hi, hz, fun F w => h _ F w⟩))

def boxE (n : Nat) (G : List (Nat × Sh)) (O : List MO) (x : Operand) : Ask OpR := Ask.of (opC G x) fun l => .ret ⟨.vl false [.ptr O.length n 0], [], 1, [], [.oc n l]⟩
theorem boxE_ok (hw : WF n env) {t : TypeId} {x : Operand} : AskOk (OpOk P E N (.box t x) ty n env G O) (boxE n G O x) :=
  AskOk.of fun l hl => OpOk.newC hw fun η => (s_box (opC_part hl))

/-! ### struct literals -/
def placesT (P : Program) (fs : List Go.Field) : Option (List (Nat × Nat)) := match fs with
  | [] => some []
  | f :: fs => (sizeT P f.type).bind fun k => (placesT P fs).map ((f.offset, k) :: ·)
theorem placesT_ok : ∀ {fs : List Go.Field} {l : List (Nat × Nat)}, placesT P fs = some l → ∀ w, (fs.mapM (fun (f : Go.Field) => do pure (f.offset, ← Go.sizeOf f.type)) : Sem (List (Nat × Nat))).run P w = .ok l w
  | [], _, h, w => by cases h; rfl
  | f :: fs, l, h, w => by
    simp only [placesT] at h
    obtain ⟨k, h1, h2⟩ := Option.bind_eq_some_iff.1 h
    obtain ⟨l', h3, rfl⟩ := Option.map_eq_some_iff.1 h2
    have h4 := placesT_ok h3 w
    rw [List.mapM_cons]
    simp [sizeT_ok h1] at h4 ⊢
    rw [h4]; rfl

def fillA (places : List (Nat × Nat)) (l : List At) : List (Nat × List At) → Option (List At)
  | [] => some l
  | (i, cs) :: r => match places[i]? with
    | some (off, size) => bif Nat.beq cs.length size && Nat.ble (off + size) l.length then fillA places (l.take off ++ cs ++ l.drop (off + size)) r else none
    | none => none
theorem fillA_ok {f : At → RP} {places : List (Nat × Nat)} : ∀ {rs : List (Nat × List At)} {l out : List At}, fillA places l rs = some out →
    fitRP (fun i => places[i]?) l.length (rs.map fun p => (p.1, p.2.map f)) = true ∧ fillRP (fun i => places[i]?) (l.map f) (rs.map fun p => (p.1, p.2.map f)) = out.map f
  | [], l, out, h => by cases h; exact ⟨rfl, rfl⟩
  | (i, cs) :: r, l, out, h => by
    simp only [fillA] at h
    split at h
    · rename_i off size hp
      cases hb : Nat.beq cs.length size && Nat.ble (off + size) l.length with
      | false => rw [hb] at h; cases h
      | true =>
        rw [hb] at h
        obtain ⟨h1, h2⟩ := fillA_ok (f := f) h
        simp only [Bool.and_eq_true] at hb
        have hs := Nat.eq_of_beq_eq_true hb.1
        have hle : off + size ≤ l.length := Nat.le_of_ble_eq_true hb.2
        have hlen : (l.take off ++ cs ++ l.drop (off + size)).length = l.length := by simp; omega
        rw [hlen] at h1
        refine ⟨?_, ?_⟩
        · simp only [List.map_cons, fitRP, hp, List.length_map]
          rw [hb.1, hb.2, h1]; rfl
        · simp only [List.map_cons, fillRP, hp]
          rw [← h2]; simp [List.map_take, List.map_drop]
    · cases h

def partsC (G : List (Nat × Sh)) : List (Nat × Operand) → Option (List (Nat × List At))
  | [] => some []
  | (i, x) :: r => (opC G x).bind fun l => (partsC G r).map ((i, l) :: ·)
theorem partsC_ok {c : Cx} {Ω : List OB} : ∀ {ps : List (Nat × Operand)} {rs : List (Nat × List At)}, partsC G ps = some rs → PartsOk E N (gma c G) Ω ps (rs.map fun p => (p.1, p.2.map (At.rp c)))
  | [], _, h => by cases h; trivial
  | (i, x) :: r, rs, h => by
    simp only [partsC] at h
    obtain ⟨l, h1, h2⟩ := Option.bind_eq_some_iff.1 h
    obtain ⟨rs', h3, rfl⟩ := Option.map_eq_some_iff.1 h2
    exact ⟨rfl, opC_part h1, partsC_ok h3⟩

def buildE (P : Program) (G : List (Nat × Sh)) (t : TypeId) (ps : List (Nat × Operand)) : Ask OpR := match P.underlying t with
  | some (.struct fs) => Ask.of (zeroT P t) fun zs => Ask.of (placesT P fs.toList) fun pl => Ask.of (partsC G ps) fun rs => Ask.of (fillA pl zs rs) fun out => .ret (resS (.vl true out))
  | _ => .fail
theorem buildE_ok (hw : WF n env) {t : TypeId} {ps : List (Nat × Operand)} : AskOk (OpOk P E N (.build t ps.toArray) ty n env G O) (buildE P G t ps) := by
  unfold buildE
  split
  · rename_i fs hu
    refine AskOk.of fun zs hz => AskOk.of fun pl hpl => AskOk.of fun rs hrs => AskOk.of fun out hout => OpOk.same hw fun η => ?_
    obtain ⟨i, z, hi, hz', hall⟩ := zeroT_ok hz
    have hzl : z.cells.size = zs.length := by
      have := (hall ⟨0, [], fun _ => ⟨.bool true, [], 0, rfl⟩⟩ (fun _ => True) default).length
      simpa using this
    obtain ⟨h1, h2⟩ := fillA_ok (f := At.rp ⟨n, env, η⟩) hout
    refine r_build (E := E) (N := N) (Ω := oma ⟨n, env, η⟩ O) (ty := ty) (n := zs.length) (places := pl) (zs := zs.map (At.rp ⟨n, env, η⟩)) (rs := rs.map fun p => (p.1, p.2.map (At.rp ⟨n, env, η⟩))) ⟨fs, hu, ⟨i, z, hi, hz', hzl⟩, fun w => ?_⟩ (fun i' z' hi' hz'' F w => ?_) (partsC_ok hrs) (by rw [List.length_map]; exact h1) ?_
    · have := placesT_ok hpl w
      rw [Array.mapM_eq_mapM_toList]
      simp at this ⊢
      rw [this]; rfl
    · rw [hi] at hi'; cases hi'; rw [hz'] at hz''; cases hz''; exact hall _ F w
    · rw [h2]
  · trivial
end Go.Dc

set_option linter.unusedSectionVars false
set_option linter.unusedVariables false
/-! Slices: literals, make, parts, len, append. -/
namespace Go.Dc
variable [DrawMode] {R : Type} {P : Program} [PTab P] {E : Env} {N : Nat} {K : KT R} {m : Option R} {op : Op} {ty : TypeId} {n : Nat} {env : List (Nat × Ent)} {G : List (Nat × Sh)} {O : List MO}

def isEnum : Nat → List (Nat × Operand) → Bool
  | _, [] => true
  | k, (i, _) :: r => Nat.beq i k && isEnum (k + 1) r
theorem isEnum_ok : ∀ {k : Nat} {l : List (Nat × Operand)}, isEnum k l = true → l = enumP k (l.map (·.2))
  | _, [], _ => rfl
  | k, (i, x) :: r, h => by
    simp only [isEnum, Bool.and_eq_true] at h
    obtain rfl := Nat.eq_of_beq_eq_true h.1
    simp only [List.map_cons, enumP]
    rw [← isEnum_ok h.2]
def opTs (P : Program) [PTab P] (env : List (Nat × Ent)) (G : List (Nat × Sh)) (c : Ty) : List Operand → Option (List c.den)
  | [] => some []
  | x :: xs => (opT P env G c x).bind fun d => (opTs P env G c xs).map (d :: ·)
theorem opTs_ok {η : Nat → Hd} {Ω : List OB} {c : Ty} : ∀ {xs : List Operand} {ds : List c.den}, opTs P env G c xs = some ds → AllPart E N (gma ⟨n, env, η⟩ G) Ω c.rep xs ds
  | [], _, h => by cases h; trivial
  | x :: xs, ds, h => by
    simp only [opTs] at h
    obtain ⟨d, h1, h2⟩ := Option.bind_eq_some_iff.1 h
    obtain ⟨ds', h3, rfl⟩ := Option.map_eq_some_iff.1 h2
    exact ⟨opT_part h1, opTs_ok h3⟩

def bsliceE (P : Program) [PTab P] (n : Nat) (env : List (Nat × Ent)) (G : List (Nat × Sh)) (O : List MO) (own : Bool) (t : TypeId) (k : Nat) (ps : List (Nat × Operand)) : Ask OpR := match P.underlying t with
  | some (.slice e) => Ask.of (elT P e) fun c => Ask.when (isEnum 0 ps) (Ask.of (opTs P env G c.1 (ps.map (·.2))) fun ds =>
      Ask.when (Nat.beq k ds.length && Nat.ble (ds.length * c.1.rep.size) 16777216)
        (bif own then .ret ⟨.vl false [.own O.length (n + 1)], [⟨.sl c.1, ds, none⟩], 1, [], [.oa (n + 1) n]⟩ else .ret (resD n (.sl c.1) ds)))
  | _ => .fail
theorem bsliceE_ok (hw : WF n env) {own : Bool} {t : TypeId} {k : Nat} {ps : List (Nat × Operand)} : AskOk (OpOk P E N (.buildSlice t k ps.toArray) ty n env G O) (bsliceE P n env G O own t k ps) := by
  unfold bsliceE
  split
  · rename_i e hu
    refine AskOk.of fun c hc => AskOk.when fun hen => AskOk.of fun ds hds => AskOk.when fun hb => ?_
    simp only [Bool.and_eq_true] at hb
    have h1 := Nat.eq_of_beq_eq_true hb.1
    have h2 := Nat.le_of_ble_eq_true hb.2
    rw [isEnum_ok hen]
    cases own with
    | true => exact OpOk.newA hw fun η => (s_bsliceO hu (elT_ok hc) h1 h2 (opTs_ok hds))
    | false => exact OpOk.newD hw rfl (t := .sl c.1) rfl fun η => (s_bslice hu (elT_ok hc) h1 h2 (opTs_ok hds))
  · trivial

def sameAt : At → At → Bool
  | .vr i, .vr j => Nat.beq i j
  | .ci k a, .ci k' b => decide (k = k') && decide (a = b)
  | _, _ => false
theorem sameAt_ok {a b : At} (h : sameAt a b = true) : a = b := by
  unfold sameAt at h
  split at h
  · rw [Nat.eq_of_beq_eq_true h]
  · simp only [Bool.and_eq_true, decide_eq_true_eq] at h; rw [h.1, h.2]
  · cases h

def makeE (P : Program) [PTab P] (n : Nat) (env : List (Nat × Ent)) (G : List (Nat × Sh)) (O : List MO) (t : TypeId) (x y : Operand) : Ask OpR := match P.underlying t with
  | some (.slice e) => Ask.of (elT P e) fun c => Ask.of (opA G x) fun a => Ask.of (opA G y) fun b => Ask.when (sameAt a b) (Ask.of (opI env G x) fun l =>
      Ask.of ((zeroT P e).bind (celD P env c.1)) fun z => .bind (mkM c.2 z l.2) fun d => .ret ⟨.vl false [.own O.length (n + 1)], [⟨.sl c.1, d, none⟩], 1, [], [.oa (n + 1) n]⟩)
  | _ => .fail
theorem zeroD_ok {e : TypeId} {c : Ty} {z : c.den} (h : (zeroT P e).bind (celD P env c) = some z) : ZeroT P e c.rep z := by
  obtain ⟨l, h1, h2⟩ := Option.bind_eq_some_iff.1 h
  obtain ⟨i, zv, hi, hz, hall⟩ := zeroT_ok h1
  exact ⟨i, zv, hi, hz, fun F w => (celD_imp (c := ⟨0, env, fun _ => ⟨.bool true, [], 0, rfl⟩⟩) h2).all (hall _ F w)⟩
theorem makeE_ok (hw : WF n env) {t : TypeId} {x y : Operand} : AskOk (OpOk P E N (.makeSlice t x y) ty n env G O) (makeE P n env G O t x y) := by
  unfold makeE
  split
  · rename_i e hu
    refine AskOk.of fun c hc => AskOk.of fun a ha => AskOk.of fun b hb => AskOk.when fun hab => AskOk.of fun l hl => AskOk.of fun z hz => fun d hd => ?_
    have hs := sameAt_ok hab
    subst hs
    have hy : ∀ η, lkO (gma ⟨n, env, η⟩ G) y = some (iv l.1 l.2) := fun η => by rw [opA_rp hb, ← opA_rp (c := ⟨n, env, η⟩) ha]; exact opI_rp hl
    exact OpOk.newA hw fun η => (s_make hd hu (elT_ok hc) (zeroD_ok hz) (opI_rp hl) (hy η))
  · trivial

/-! ### parts -/
def bdE (env : List (Nat × Ent)) (G : List (Nat × Sh)) (d : Int) : Option Operand → Option Int
  | none => some d
  | some x => (opI env G x).map (·.2)
theorem bdE_ok {η : Nat → Hd} {d i : Int} {x : Option Operand} (h : bdE env G d x = some i) : BdOk (gma ⟨n, env, η⟩ G) d x i := by
  cases x with
  | none => cases h; exact .dft
  | some x =>
    simp only [bdE] at h
    obtain ⟨p, h1, rfl⟩ := Option.map_eq_some_iff.1 h
    exact .of (opI_rp h1)

def sliceE (P : Program) [PTab P] (n : Nat) (env : List (Nat × Ent)) (G : List (Nat × Sh)) (O : List MO) (t : TypeId) (x : Operand) (lo hi : Option Operand) : Ask OpR :=
  Ask.of (bdE env G 0 lo) fun l => match P.underlying t with
  | some .string => Ask.of (opS env G x) fun s => Ask.of (bdE env G s.size hi) fun h => .bind (ssubM s l h) fun r => .ret (resD n .str r)
  | some (.slice e) => Ask.of (elT P e) fun c => Ask.of (opA G x) fun a => match a with
    | .own o h => Ask.of (ownA n env O o h) fun q => if c.1 = q.2.1 then Ask.of (bdE env G q.2.2.length hi) fun m => .bind (slM q.2.2 l m) fun d =>
        .ret ⟨.vl false [.own o (n + 1)], [⟨.sl q.2.1, d, none⟩], 1, [(o, .oa (n + 1) n)], []⟩ else .fail
    | .nl => match lo, hi with
      | none, some y => Ask.of (opI env G y) fun p => if p.2 = 0 ∧ opLit G y = true then .ret (resS (.vl false [.nl])) else .fail
      | _, _ => .fail
    | _ => Ask.of (opL env G x) fun q => if c.1 = q.1 then Ask.of (bdE env G q.2.length hi) fun m => .bind (slM q.2 l m) fun d => .ret (resD n (.sl q.1) d) else .fail
  | _ => .fail
theorem sliceE_ok (hw : WF n env) {t : TypeId} {x : Operand} {lo hi : Option Operand} : AskOk (OpOk P E N (.slice t x lo hi none) ty n env G O) (sliceE P n env G O t x lo hi) :=
  AskOk.of fun l hl => by
    split
    · rename_i hu
      exact AskOk.of fun s hs => AskOk.of fun h hh => fun r hr => OpOk.dat hw rfl fun η => (r_ssub hr hu (opS_rp hs) (bdE_ok hl) (bdE_ok hh))
    · rename_i e hu
      refine AskOk.of fun c hc => AskOk.of fun a ha => ?_
      have hx := fun η => opA_rp (c := ⟨n, env, η⟩) ha
      split
      · rename_i o h
        refine AskOk.of fun q hq => ?_
        split
        · rename_i hct
          refine AskOk.of fun m hm => fun d hd => ?_
          obtain ⟨i0, t', l'⟩ := q
          obtain ⟨c1, c2⟩ := c
          simp only at hct
          subst hct
          obtain ⟨hb, hlt, ⟨s, he⟩, hj⟩ := ownA_ok hq
          refine OpOk.chgA hw (fun η => (s_oslice hd hu (elT_ok hc) ?_ (hj η) (bdE_ok hl) (bdE_ok hm))) hlt
          have h1 := hx η
          rw [own_rp (c := ⟨n, env, η⟩) hb] at h1
          exact h1
        · trivial
      · split
        · rename_i y
          refine AskOk.of fun p hp => ?_
          split
          · rename_i hp0
            refine OpOk.same hw fun η => (r_sliceN (k := p.1) hu (elT_ok hc) (hx η) ?_)
            rw [opI_rp (k := p.1) (i := p.2) hp, hp0.1]
          · trivial
        · trivial
      · refine AskOk.of fun q hq => ?_
        split
        · rename_i hct
          refine AskOk.of fun m hm => fun d hd => ?_
          obtain ⟨t', l'⟩ := q
          obtain ⟨c1, c2⟩ := c
          simp only at hct
          subst hct
          exact OpOk.dat hw (t := .sl c1) rfl fun η => (r_slice hd hu (elT_ok hc) (opL_rp hq) (bdE_ok hl) (bdE_ok hm))
        · trivial
    · trivial

/-! ### built-in functions -/
def lenE (P : Program) [PTab P] (n : Nat) (env : List (Nat × Ent)) (G : List (Nat × Sh)) (O : List MO) (t : TypeId) (x : Operand) : Ask OpR := match P.underlying t with
  | some .string => Ask.of (opS env G x) fun s => .ret (resD n (.int .i64) (s.size : Int))
  | some (.slice e) => Ask.of (opA G x) fun a => match a with
    | .nl => .ret (resS (.vl false [.ci .i64 0]))
    | .own o h => Ask.of (ownA n env O o h) fun q => .ret (resD n (.int .i64) (q.2.2.length : Int))
    | _ => Ask.of (opL env G x) fun q => .ret (resD n (.int .i64) (q.2.length : Int))
  | _ => .fail
theorem lenE_ok (hw : WF n env) {t : TypeId} {x : Operand} : AskOk (OpOk P E N (.call ⟨.builtin .len, #[x], #[t]⟩) ty n env G O) (lenE P n env G O t x) := by
  unfold lenE
  split
  · rename_i hu
    exact AskOk.of fun s hs => OpOk.dat hw rfl fun η => (r_slen hu (opS_rp hs))
  · rename_i e hu
    refine AskOk.of fun a ha => ?_
    have hx := fun η => opA_rp (c := ⟨n, env, η⟩) ha
    split
    · exact OpOk.same hw fun η => (r_lenN hu (hx η))
    · rename_i o h
      refine AskOk.of fun q hq => ?_
      obtain ⟨i0, t', l'⟩ := q
      obtain ⟨hb, hlt, ⟨s, he⟩, hj⟩ := ownA_ok hq
      refine OpOk.dat hw rfl fun η => (r_olen hu ?_ (hj η))
      have h1 := hx η
      rw [own_rp (c := ⟨n, env, η⟩) hb] at h1
      exact h1
    · exact AskOk.of fun q hq => OpOk.dat hw rfl fun η => (r_len hu (opL_rp hq))
  · trivial

def minE (n : Nat) (env : List (Nat × Ent)) (G : List (Nat × Sh)) (mx : Bool) (x y : Operand) : Ask OpR :=
  Ask.of (opI env G x) fun u => Ask.of (opI env G y) fun v => if v.1 = u.1 then .ret (resD n (.int u.1) (bif mx then imax u.2 v.2 else imin u.2 v.2)) else .fail
theorem minE_ok (hw : WF n env) {x y : Operand} {t1 t2 : TypeId} : AskOk (OpOk P E N (.call ⟨.builtin .min, #[x, y], #[t1, t2]⟩) ty n env G O) (minE n env G false x y) :=
  AskOk.of fun u hu => AskOk.of fun v hv => by
    split
    · rename_i h
      obtain ⟨k, i⟩ := u; obtain ⟨k', j⟩ := v
      simp only at h; subst h
      exact OpOk.dat hw rfl fun η => (r_min (opI_rp hu) (opI_rp hv))
    · trivial
theorem maxE_ok (hw : WF n env) {x y : Operand} {t1 t2 : TypeId} : AskOk (OpOk P E N (.call ⟨.builtin .max, #[x, y], #[t1, t2]⟩) ty n env G O) (minE n env G true x y) :=
  AskOk.of fun u hu => AskOk.of fun v hv => by
    split
    · rename_i h
      obtain ⟨k, i⟩ := u; obtain ⟨k', j⟩ := v
      simp only at h; subst h
      exact OpOk.dat hw rfl fun η => (r_max (opI_rp hu) (opI_rp hv))
    · trivial

def appE (P : Program) [PTab P] (n : Nat) (env : List (Nat × Ent)) (G : List (Nat × Sh)) (O : List MO) (t : TypeId) (x y : Operand) : Ask OpR := match P.underlying t with
  | some (.slice e) => Ask.of (elT P e) fun c => Ask.of (opL env G y) fun l => if hl : l.1 = c.1 then Ask.of (opA G x) fun a => match a with
    | .nl => .bind (appM c.2 ([] : List l.1.den) l.2) fun d => .ret ⟨.vl false [.own O.length (n + 1)], [⟨.sl l.1, d, none⟩], 1, [], [.oa (n + 1) n]⟩
    | .own o h => Ask.of (ownA n env O o h) fun q => if hq : q.2.1 = l.1 then .bind (appM c.2 (hq ▸ q.2.2 : List l.1.den) l.2) fun d => .ret ⟨.vl false [.own o (n + 1)], [⟨.sl l.1, d, none⟩], 1, [(o, .oa (n + 1) n)], []⟩ else .fail
    | _ => .fail else .fail
  | _ => .fail
theorem appE_ok (hw : WF n env) {t : TypeId} {x y : Operand} : AskOk (OpOk P E N (.call ⟨.builtin .append, #[x, y], #[t, t]⟩) ty n env G O) (appE P n env G O t x y) := by
  unfold appE
  split
  · rename_i e hu
    refine AskOk.of fun c hc => AskOk.of fun l hl => ?_
    split
    · rename_i hlc
      obtain ⟨t', l⟩ := l
      obtain ⟨c1, c2⟩ := c
      simp only at hlc
      subst hlc
      refine AskOk.of fun a ha => ?_
      have hx := fun η => opA_rp (c := ⟨n, env, η⟩) ha
      split
      · exact fun d hd => OpOk.newA hw fun η => (s_appendN hd hu (elT_ok hc) (hx η) (opL_rp hl))
      · rename_i o h
        refine AskOk.of fun q hq => ?_
        split
        · rename_i hqt
          obtain ⟨i0, t2, l2⟩ := q
          simp only at hqt
          subst hqt
          obtain ⟨hb, hlt, ⟨s, he⟩, hj⟩ := ownA_ok hq
          refine fun d hd => OpOk.chgA hw (fun η => (s_append hd hu (elT_ok hc) ?_ (hj η) (opL_rp hl))) hlt
          have h1 := hx η
          rw [own_rp (c := ⟨n, env, η⟩) hb] at h1
          exact h1
        · trivial
      · trivial
    · trivial
  · trivial
end Go.Dc

set_option linter.unusedSectionVars false
set_option linter.unusedVariables false
/-! Contracts of functions, in plain words. -/
namespace Go.Dc
variable [DrawMode]

def Tup [SDen] : List Ty → Type
  | [] => Unit
  | [t] => t.den
  | t :: u :: ts => t.den × Tup (u :: ts)

/-- component j of a tuple -/
def tupGet [SDen] : (ts : List Ty) → Tup ts → Nat → Option Dyn
  | [], _, _ => none
  | [t], a, 0 => some ⟨t, a⟩
  | [_], _, _ + 1 => none
  | t :: _ :: _, a, 0 => some ⟨t, a.1⟩
  | _ :: u :: ts, a, j + 1 => tupGet (u :: ts) a.2 j

/-- a tuple out of its components -/
def tupMk [SDen] : (ts : List Ty) → ((k : Nat) → (t : Ty) → Option t.den) → Nat → Option (Tup ts)
  | [], _, _ => some ()
  | [t], f, j => f j t
  | t :: u :: ts, f, j => (f j t).bind fun x => (tupMk (u :: ts) f (j + 1)).map fun y => (x, y)

theorem tupMk_get [SDen] {f : (k : Nat) → (t : Ty) → Option t.den} : ∀ {ts : List Ty} {j : Nat} {a : Tup ts}, tupMk ts f j = some a → ∀ {i : Nat} {D : Dyn}, tupGet ts a i = some D → f (j + i) D.t = some D.d
  | [], _, _, _, i, D, h => by cases h
  | [t], j, a, ha, 0, D, h => by cases h; exact ha
  | [t], j, a, ha, i + 1, D, h => by cases h
  | t :: u :: ts, j, a, ha, 0, D, h => by
    simp only [tupMk] at ha
    obtain ⟨x, h1, h2⟩ := Option.bind_eq_some_iff.1 ha
    obtain ⟨y, h3, rfl⟩ := Option.map_eq_some_iff.1 h2
    cases h; exact h1
  | t :: u :: ts, j, a, ha, i + 1, D, h => by
    simp only [tupMk] at ha
    obtain ⟨x, h1, h2⟩ := Option.bind_eq_some_iff.1 ha
    obtain ⟨y, h3, rfl⟩ := Option.map_eq_some_iff.1 h2
    have := tupMk_get h3 (i := i) (D := D) h
    rw [show j + (i + 1) = j + 1 + i from by omega]
    exact this

/-- the words of data -/
def leaves (P : Program) [PTab P] (D : Dyn) : List Dyn := match D with
  | ⟨.st k, d⟩ => PTab.split (P := P) k d
  | D => [D]
/-- word q of component j -/
def leaf (P : Program) [PTab P] (ts : List Ty) (a : Tup ts) (j q : Nat) : Option Dyn := (tupGet ts a j).bind fun D => (leaves P D)[q]?

section
variable [SRep]
/-- words of a contract -/
inductive KA where
  | d (j q : Nat)
  | own (k : Nat)
  | ptr (k : Nat)
  | mp (k : Nat)
  | fn (f : Nat) (cs : List (Option Nat))
  | nl
  | nilp
  | nilf
  | fx (a : At)
inductive KO where
  | dead
  | same
  | oa (k : Nat) (w : KA)
  | oc (k : Nat) (l : List KA)

/-- what a captured value is: a pointer to object k, or nil -/
def kcap (hs : Nat → Hd) : Option Nat → Value
  | some k => Dc.ptr (hs k).b 0
  | none => .pointer none

def KA.rp (c0 : Cx) (L : Nat → Nat → Option Dyn) (hs : Nat → Hd) : KA → RP
  | .fx a => a.rp c0
  | .d j q => match L j q with
    | some D => D.rp
    | none => RP.no
  | .own k => pv (hs k).hv
  | .ptr k => pv (Dc.ptr (hs k).b 0)
  | .mp k => pv (.map (some (hs k).b))
  | .fn f cs => pv (.func (.func f) #[] (cs.map (kcap hs)).toArray)
  | .nl => pv (.slice none 0 0)
  | .nilp => pv (.pointer none)
  | .nilf => pv .nilFunc
/-- data that a word stands for -/
def KA.sl (c0 : Cx) (L : Nat → Nat → Option Dyn) : KA → Option Dyn
  | .d j q => L j q
  | .fx (.vr i) => (lkE c0.env i).map fun e => ⟨e.t, e.d⟩
  | _ => none
def kvrp (c0 : Cx) (L : Nat → Nat → Option Dyn) (hs : Nat → Hd) (v : Bool × List KA) : RP := bif v.1 then ag (v.2.map (KA.rp c0 L hs)) else (v.2.map (KA.rp c0 L hs)).headD RP.no
def KO.ob (c0 : Cx) (L : Nat → Nat → Option Dyn) (hs : Nat → Hd) : KO → OB
  | .dead => Dc.dead
  | .same => OB.no
  | .oa k w => match w.sl c0 L with
    | some D => D.ob (hs k)
    | none => OB.no
  | .oc k l => Dc.oc (hs k).b (l.map (KA.rp c0 L hs))
/-- no entries, no handles -/
def cx0 : Cx := ⟨0, [], fun _ => ⟨.bool true, [], 0, rfl⟩⟩
theorem cx0_ext (c : Cx) : Ext cx0 c := ⟨Nat.zero_le _, fun i e h => (by cases h), fun h hh => absurd hh (Nat.not_lt_zero _)⟩
def KO.isDead : KO → Bool
  | .dead => true
  | _ => false

end

structure Con [SDen] where
  ins : List Ty
  outs : List Ty
  m : Tup ins → Option (Tup outs)
  ps : List (Bool × List KA)
  os : List KO
  rs : List (Bool × List KA)
  os' : List KO
  /-- handles: those that are given, and all of them -/
  nh : Nat
  nh' : Nat

variable {P : Program} [PTab P]
def Con.args (C : Con) (a : Tup C.ins) (hs : Nat → Hd) : List RP := C.ps.map (kvrp cx0 (leaf P C.ins a) hs)
def Con.Ω0 (C : Con) (a : Tup C.ins) (hs : Nat → Hd) : List OB := C.os.map (KO.ob cx0 (leaf P C.ins a) hs)
def Con.res (C : Con) (r : Tup C.outs) (hs : Nat → Hd) : List RP := C.rs.map (kvrp cx0 (leaf P C.outs r) hs)
/-- the objects behind a call, those that are used up as dead ones -/
def kafter (Li Lo : Nat → Nat → Option Dyn) (hs0 hs : Nat → Hd) : List KO → List KO → List OB
  | i :: is, .same :: os => i.ob cx0 Li hs0 :: kafter Li Lo hs0 hs is os
  | _ :: is, o :: os => o.ob cx0 Lo hs :: kafter Li Lo hs0 hs is os
  | [], o :: os => o.ob cx0 Lo hs :: kafter Li Lo hs0 hs [] os
  | _, [] => []
def kmask : List KO → List Bool := List.map fun o => !o.isDead
def Con.Ω2 (C : Con) (a : Tup C.ins) (r : Tup C.outs) (hs0 hs : Nat → Hd) : List OB := kafter (leaf P C.ins a) (leaf P C.outs r) hs0 hs C.os C.os'
def Con.Ω1 (C : Con) (a : Tup C.ins) (r : Tup C.outs) (hs0 hs : Nat → Hd) : List OB := keepB (kmask C.os') (C.Ω2 (P := P) a r hs0 hs)

def ConOk (P : Program) [PTab P] (f : FuncId) (C : Con) : Prop :=
  ∀ a r, C.m a = some r → ∀ hs, FnOk P f (C.args (P := P) a hs) (C.Ω0 (P := P) a hs) (fun x : Agr C.nh hs => C.res (P := P) r x.1) (fun x => C.Ω1 (P := P) a r hs x.1)

section
variable [SRep]
/-! ### words that are matched -/
/-- what has been found: words, and objects (their place and handle) -/
structure Mt where
  ws : List ((Nat × Nat) × Dyn)
  om : List (Nat × (Nat × Nat))

def lkW : List ((Nat × Nat) × Dyn) → Nat → Nat → Option Dyn
  | [], _, _ => none
  | ((j, q), D) :: r, i, p => bif Nat.beq j i && Nat.beq q p then some D else lkW r i p
def lkM : List (Nat × (Nat × Nat)) → Nat → Option (Nat × Nat)
  | [], _ => none
  | (k, x) :: r, i => bif Nat.beq k i then some x else lkM r i

/-- an object k at place o with handle h: known already, or new -/
def Mt.obj (M : Mt) (k o h : Nat) : Option Mt := match lkM M.om k with
  | some (o', h') => bif Nat.beq o o' && Nat.beq h h' then some M else none
  | none => some ⟨M.ws, (k, (o, h)) :: M.om⟩
def Mt.word (M : Mt) (j q : Nat) (D : Dyn) : Option Mt := match lkW M.ws j q with
  | some _ => none
  | none => some ⟨((j, q), D) :: M.ws, M.om⟩

structure Mt.Le (M M' : Mt) : Prop where
  w : ∀ j q D, lkW M.ws j q = some D → lkW M'.ws j q = some D
  o : ∀ k x, lkM M.om k = some x → lkM M'.om k = some x
theorem Mt.Le.refl (M : Mt) : Mt.Le M M := ⟨fun _ _ _ h => h, fun _ _ h => h⟩
theorem Mt.Le.trans {A B C : Mt} (h : Mt.Le A B) (k : Mt.Le B C) : Mt.Le A C := ⟨fun j q D e => k.w j q D (h.w j q D e), fun i x e => k.o i x (h.o i x e)⟩

theorem Mt.obj_ok {M M' : Mt} {k o h : Nat} (hm : M.obj k o h = some M') : Mt.Le M M' ∧ lkM M'.om k = some (o, h) := by
  unfold Mt.obj at hm
  split at hm
  · rename_i o' h' hl
    cases hb : Nat.beq o o' && Nat.beq h h' with
    | false => rw [hb] at hm; cases hm
    | true =>
      rw [hb] at hm; cases hm
      simp only [Bool.and_eq_true] at hb
      obtain rfl := Nat.eq_of_beq_eq_true hb.1
      obtain rfl := Nat.eq_of_beq_eq_true hb.2
      exact ⟨.refl _, hl⟩
  · rename_i hl
    cases hm
    refine ⟨⟨fun _ _ _ h => h, fun i x hi => ?_⟩, by simp [lkM]⟩
    simp only [lkM]
    by_cases e : k = i
    · subst e; rw [hl] at hi; cases hi
    · rw [beq_ne e]; exact hi
theorem Mt.word_ok {M M' : Mt} {j q : Nat} {D : Dyn} (hm : M.word j q D = some M') : Mt.Le M M' ∧ lkW M'.ws j q = some D := by
  unfold Mt.word at hm
  split at hm
  · cases hm
  · rename_i hl
    cases hm
    refine ⟨⟨fun i p x hi => ?_, fun _ _ h => h⟩, by simp [lkW]⟩
    simp only [lkW]
    cases hb : Nat.beq j i && Nat.beq q p with
    | false => exact hi
    | true =>
      simp only [Bool.and_eq_true] at hb
      obtain rfl := Nat.eq_of_beq_eq_true hb.1
      obtain rfl := Nat.eq_of_beq_eq_true hb.2
      rw [hl] at hi; cases hi

/-- atoms that are the same -/
def capEq : List Cap → List Cap → Bool
  | [], [] => true
  | .ptr o h :: r, .ptr o' h' :: r' => Nat.beq o o' && Nat.beq h h' && capEq r r'
  | .fn f :: r, .fn f' :: r' => Nat.beq f f' && capEq r r'
  | .nilp :: r, .nilp :: r' => capEq r r'
  | _, _ => false
theorem capEq_ok : ∀ {l l' : List Cap}, capEq l l' = true → l = l'
  | [], [], _ => rfl
  | .ptr o h :: r, .ptr o' h' :: r', e => by
    simp only [capEq, Bool.and_eq_true] at e
    rw [Nat.eq_of_beq_eq_true e.1.1, Nat.eq_of_beq_eq_true e.1.2, capEq_ok e.2]
  | .fn f :: r, .fn f' :: r', e => by
    simp only [capEq, Bool.and_eq_true] at e
    rw [Nat.eq_of_beq_eq_true e.1, capEq_ok e.2]
  | .nilp :: r, .nilp :: r', e => by rw [capEq_ok (l := r) (l' := r') e]
  | [], _ :: _, e => by cases e
  | _ :: _, [], e => by simp [capEq] at e
  | .ptr _ _ :: _, .fn _ :: _, e => by cases e
  | .ptr _ _ :: _, .nilp :: _, e => by cases e
  | .fn _ :: _, .ptr _ _ :: _, e => by cases e
  | .fn _ :: _, .nilp :: _, e => by cases e
  | .nilp :: _, .ptr _ _ :: _, e => by cases e
  | .nilp :: _, .fn _ :: _, e => by cases e
def atEq : At → At → Bool
  | .vr i, .vr j => Nat.beq i j
  | .ci k a, .ci k' b => decide (k = k') && decide (a = b)
  | .cb a, .cb b => a == b
  | .ck a, .ck b => decide (a.data = b.data)
  | .nl, .nl => true
  | .own o h, .own o' h' => Nat.beq o o' && Nat.beq h h'
  | .ptr o h f, .ptr o' h' f' => Nat.beq o o' && Nat.beq h h' && Nat.beq f f'
  | .mp o h, .mp o' h' => Nat.beq o o' && Nat.beq h h'
  | .fn f c, .fn f' c' => Nat.beq f f' && capEq c c'
  | .nilf, .nilf => true
  | .nilp, .nilp => true
  | .ea i, .ea j => Nat.beq i j
  | _, _ => false
theorem atEq_ok {a b : At} (hh : atEq a b = true) : a = b := by
  cases a <;> cases b <;> first
    | rfl
    | (simp only [atEq] at hh; cases hh; done)
    | (simp only [atEq] at hh; rw [Nat.eq_of_beq_eq_true hh]; done)
    | (simp only [atEq, Bool.and_eq_true, decide_eq_true_eq] at hh; rw [hh.1, hh.2]; done)
    | (simp only [atEq, Bool.and_eq_true] at hh; rw [Nat.eq_of_beq_eq_true hh.1, Nat.eq_of_beq_eq_true hh.2]; done)
    | (simp only [atEq, Bool.and_eq_true] at hh; rw [Nat.eq_of_beq_eq_true hh.1.1, Nat.eq_of_beq_eq_true hh.1.2, Nat.eq_of_beq_eq_true hh.2]; done)
    | (simp only [atEq, Bool.and_eq_true] at hh; rw [Nat.eq_of_beq_eq_true hh.1, capEq_ok hh.2]; done)
    | (rename_i x y; simp only [atEq, decide_eq_true_eq] at hh; cases x; cases y; simp only at hh; rw [hh]; done)
    | (simp only [atEq, beq_iff_eq] at hh; rw [hh]; done)
theorem atsEq_ok : ∀ {l l' : List At}, Nat.beq l.length l'.length = true → ((l.zip l').all fun x => atEq x.1 x.2) = true → l = l'
  | [], [], _, _ => rfl
  | a :: l, b :: l', h, h2 => by
    simp only [List.zip_cons_cons, List.all_cons, Bool.and_eq_true] at h2
    rw [atEq_ok h2.1, atsEq_ok (by simpa using h) h2.2]
  | [], _ :: _, h, _ => by simp at h
  | _ :: _, [], h, _ => by simp at h
/-- known there already -/
def At.clo (n : Nat) (env : List (Nat × Ent)) : At → Bool
  | .vr i => (lkE env i).isSome
  | .own _ h => Nat.blt h n
  | .ptr _ h _ => Nat.blt h n
  | .mp _ h => Nat.blt h n
  | .fn _ cs => cs.all (Cap.ok n)
  | .ea i => (lkE env i).isSome
  | .oea _ _ _ => false
  | .oef _ _ _ => false
  | _ => true
theorem At.clo_ok {c c' : Cx} (hx : Ext c c') {a : At} (h : a.clo c.n c.env = true) : a.rp c' = a.rp c := by
  cases a with
  | vr i =>
    simp only [At.clo] at h
    obtain ⟨e, he⟩ := Option.isSome_iff_exists.1 h
    simp only [At.rp, he, hx.env i e he]
  | ea i =>
    simp only [At.clo] at h
    obtain ⟨e, he⟩ := Option.isSome_iff_exists.1 h
    simp only [At.rp, he, hx.env i e he]
  | own o k => simp only [At.clo] at h; rw [own_rp h, own_rp (blt_mono h hx.n), hx.η k (by simpa [Nat.blt_eq] using h)]
  | ptr o k f => simp only [At.clo] at h; rw [ptr_rp h, ptr_rp (blt_mono h hx.n), hx.η k (by simpa [Nat.blt_eq] using h)]
  | mp o k => simp only [At.clo] at h; simp only [At.rp, h, blt_mono h hx.n, cond_true, hx.η k (by simpa [Nat.blt_eq] using h)]
  | fn f cs =>
    simp only [At.clo] at h
    have h1 : ∀ x ∈ cs, Cap.ok c.n x = true := List.all_eq_true.1 h
    have h2 : cs.all (Cap.ok c'.n) = true := List.all_eq_true.2 fun x hx' => by
      have := h1 x hx'
      cases x with
      | ptr o k => exact blt_mono this hx.n
      | _ => rfl
    have h3 : cs.map (Cap.val c'.η) = cs.map (Cap.val c.η) := List.map_congr_left fun x hx' => by
      have := h1 x hx'
      cases x with
      | ptr o k => simp only [Cap.val]; rw [hx.η k (by simpa [Cap.ok, Nat.blt_eq] using this)]
      | _ => rfl
    simp only [At.rp, h, h2, cond_true, h3]
  | oea _ _ _ => cases h
  | oef _ _ _ => cases h
  | _ => rfl

def moEq : MO → MO → Bool
  | .dead, .dead => true
  | .oa h i, .oa h' i' => Nat.beq h h' && Nat.beq i i'
  | .oc h l, .oc h' l' => Nat.beq h h' && (Nat.beq l.length l'.length && (l.zip l').all fun x => atEq x.1 x.2)
  | _, _ => false
theorem moEq_ok {m m' : MO} (h : moEq m m' = true) : m = m' := by
  cases m with
  | dead => cases m' <;> first | rfl | cases h
  | oa a b =>
    cases m' with
    | oa a' b' => simp only [moEq, Bool.and_eq_true] at h; rw [Nat.eq_of_beq_eq_true h.1, Nat.eq_of_beq_eq_true h.2]
    | _ => cases h
  | oc a l =>
    cases m' with
    | oc a' l' => simp only [moEq, Bool.and_eq_true] at h; rw [Nat.eq_of_beq_eq_true h.1, atsEq_ok h.2.1 h.2.2]
    | _ => cases h

def MO.clo (n : Nat) (env : List (Nat × Ent)) : MO → Bool
  | .dead => true
  | .oa h i => Nat.blt h n && ((lkE env i).isSome)
  | .oc h l => Nat.blt h n && l.all (At.clo n env)
theorem MO.clo_ok {c c' : Cx} (hx : Ext c c') {m : MO} (h : m.clo c.n c.env = true) : m.ob c' = m.ob c := by
  cases m with
  | dead => rfl
  | oa k i =>
    simp only [MO.clo, Bool.and_eq_true] at h
    obtain ⟨e, he⟩ := Option.isSome_iff_exists.1 h.2
    simp only [MO.ob, he, hx.env i e he, h.1, blt_mono h.1 hx.n, hx.η k (by simpa [Nat.blt_eq] using h.1)]
  | oc k l =>
    simp only [MO.clo, Bool.and_eq_true] at h
    have h3 : l.map (At.rp c') = l.map (At.rp c) := List.map_congr_left fun a ha => At.clo_ok hx (List.all_eq_true.1 h.2 a ha)
    simp only [MO.ob, h.1, blt_mono h.1 hx.n, hx.η k (by simpa [Nat.blt_eq] using h.1), h3]

/-- captured values -/
def mtCaps : Mt → List (Option Nat) → List Cap → Option Mt
  | M, [], [] => some M
  | M, some k :: ks, .ptr o h :: cs => (M.obj k o h).bind fun M => mtCaps M ks cs
  | M, none :: ks, .nilp :: cs => mtCaps M ks cs
  | _, _, _ => none

/-- one word; nil may stand for an empty slice where `nilT` says of which type; a slice of ours may be lent -/
def mtA (n0 : Nat) (env0 : List (Nat × Ent)) (n : Nat) (env : List (Nat × Ent)) (nilT : Option Ty) (M : Mt) : KA → At → Option Mt
  | .fx a, b => bif atEq a b && a.clo n0 env0 then some M else none
  | .d j q, .nl => match nilT with
    | some t => M.word j q ⟨.sl t, []⟩
    | none => none
  | .d j q, a => (rdD env a).bind fun D => M.word j q D
  | .own k, .own o h => bif Nat.blt h n then M.obj k o h else none
  | .ptr k, .ptr o h 0 => bif Nat.blt h n then M.obj k o h else none
  | .mp k, .mp o h => bif Nat.blt h n then M.obj k o h else none
  | .fn f cs, .fn g ds => bif Nat.beq f g && ds.all (Cap.ok n) then mtCaps M cs ds else none
  | .nl, .nl => some M
  | .nilp, .nilp => some M
  | .nilf, .nilf => some M
  | _, _ => none

/-- what the words found say -/
structure MtSay (L : Nat → Nat → Option Dyn) (hs η : Nat → Hd) (M : Mt) : Prop where
  w : ∀ j q D, lkW M.ws j q = some D → L j q = some D
  o : ∀ k o h, lkM M.om k = some (o, h) → hs k = η h
theorem MtSay.le {L : Nat → Nat → Option Dyn} {hs η : Nat → Hd} {M M' : Mt} (h : MtSay L hs η M') (hl : Mt.Le M M') : MtSay L hs η M := ⟨fun j q D e => h.w j q D (hl.w j q D e), fun k o x e => h.o k o x (hl.o k _ e)⟩

theorem mtCaps_ok {n : Nat} : ∀ {ks : List (Option Nat)} {cs : List Cap} {M M' : Mt}, mtCaps M ks cs = some M' → Mt.Le M M' ∧ ∀ {L : Nat → Nat → Option Dyn} {hs η : Nat → Hd}, MtSay L hs η M' → ks.map (kcap hs) = cs.map (Cap.val η)
  | [], [], M, M', h => by cases h; exact ⟨.refl _, fun _ => rfl⟩
  | some k :: ks, .ptr o x :: cs, M, M', h => by
    simp only [mtCaps] at h
    obtain ⟨M1, h1, h2⟩ := Option.bind_eq_some_iff.1 h
    obtain ⟨h3, h4⟩ := Mt.obj_ok h1
    obtain ⟨h5, h6⟩ := mtCaps_ok (n := n) h2
    refine ⟨h3.trans h5, fun hs => ?_⟩
    rw [List.map_cons, List.map_cons, h6 hs]
    have := hs.o k o x (h5.o _ _ h4)
    simp only [kcap, Cap.val, this]
  | none :: ks, .nilp :: cs, M, M', h => by
    simp only [mtCaps] at h
    obtain ⟨h5, h6⟩ := mtCaps_ok (n := n) h
    refine ⟨h5, fun hs => ?_⟩
    rw [List.map_cons, List.map_cons, h6 hs]; rfl
  | [], _ :: _, _, _, h => by simp [mtCaps] at h
  | some _ :: _, [], _, _, h => by simp [mtCaps] at h
  | none :: _, [], _, _, h => by simp [mtCaps] at h
  | some _ :: _, .fn _ :: _, _, _, h => by simp [mtCaps] at h
  | some _ :: _, .nilp :: _, _, _, h => by simp [mtCaps] at h
  | none :: _, .ptr _ _ :: _, _, _, h => by simp [mtCaps] at h
  | none :: _, .fn _ :: _, _, _, h => by simp [mtCaps] at h

theorem mtA_ok {c0 : Cx} {n : Nat} {env : List (Nat × Ent)} {nt : Option Ty} {M M' : Mt} {k : KA} {a : At} (h : mtA c0.n c0.env n env nt M k a = some M') :
    Mt.Le M M' ∧ ∀ {L : Nat → Nat → Option Dyn} {hs η : Nat → Hd}, Ext c0 ⟨n, env, η⟩ → MtSay L hs η M' → (∀ {F w v}, (a.rp ⟨n, env, η⟩).h F w v → (k.rp c0 L hs).h F w v) ∧ (nt = none → a.rp ⟨n, env, η⟩ = k.rp c0 L hs) := by
  have both : ∀ {φ ψ : RP}, φ = ψ → (∀ {F w v}, φ.h F w v → ψ.h F w v) ∧ (nt = none → φ = ψ) := fun e => ⟨fun h => e ▸ h, fun _ => e⟩
  unfold mtA at h
  split at h
  · rename_i b
    cases hb : atEq b a && b.clo c0.n c0.env with
    | false => rw [hb] at h; cases h
    | true =>
      rw [hb] at h; cases h
      simp only [Bool.and_eq_true] at hb
      obtain rfl := atEq_ok hb.1
      exact ⟨.refl _, fun hx _ => both (At.clo_ok hx hb.2)⟩
  · rename_i j q
    split at h
    · rename_i t
      obtain ⟨h1, h2⟩ := Mt.word_ok h
      refine ⟨h1, fun hx hs => ⟨fun hv => ?_, fun e => by cases e⟩⟩
      simp only [KA.rp, hs.w _ _ _ h2]
      exact nil_sl hv
    · cases h
  · rename_i j q
    obtain ⟨D, hD, h⟩ := Option.bind_eq_some_iff.1 h
    obtain ⟨h1, h2⟩ := Mt.word_ok h
    refine ⟨h1, fun {L hs η} hx hs => both ?_⟩
    simp only [KA.rp, hs.w _ _ _ h2]
    rw [(rdD_rp (c := ⟨n, env, η⟩) hD).1]
  · rename_i k o x
    cases hb : Nat.blt x n with
    | false => rw [hb] at h; cases h
    | true =>
      rw [hb] at h
      obtain ⟨h1, h2⟩ := Mt.obj_ok h
      refine ⟨h1, fun {L hs η} hx hs => both ?_⟩
      rw [own_rp (c := ⟨n, env, η⟩) hb]
      simp only [KA.rp, hs.o _ _ _ h2]
  · rename_i k o x
    cases hb : Nat.blt x n with
    | false => rw [hb] at h; cases h
    | true =>
      rw [hb] at h
      obtain ⟨h1, h2⟩ := Mt.obj_ok h
      refine ⟨h1, fun {L hs η} hx hs => both ?_⟩
      rw [ptr_rp (c := ⟨n, env, η⟩) hb]
      simp only [KA.rp, hs.o _ _ _ h2]
  · rename_i k o x
    cases hb : Nat.blt x n with
    | false => rw [hb] at h; cases h
    | true =>
      rw [hb] at h
      obtain ⟨h1, h2⟩ := Mt.obj_ok h
      refine ⟨h1, fun {L hs η} hx hs => both ?_⟩
      simp only [At.rp, hb, cond_true, KA.rp, hs.o _ _ _ h2]
  · rename_i f cs g ds
    cases hb : Nat.beq f g && ds.all (Cap.ok n) with
    | false => rw [hb] at h; cases h
    | true =>
      rw [hb] at h
      simp only [Bool.and_eq_true] at hb
      obtain rfl := Nat.eq_of_beq_eq_true hb.1
      obtain ⟨h1, h2⟩ := mtCaps_ok (n := n) h
      refine ⟨h1, fun {L hs η} hx hs => both ?_⟩
      simp only [At.rp, hb.2, cond_true, KA.rp, h2 hs]
  · cases h; exact ⟨.refl _, fun _ _ => both rfl⟩
  · cases h; exact ⟨.refl _, fun _ _ => both rfl⟩
  · cases h; exact ⟨.refl _, fun _ _ => both rfl⟩
  · cases h
end
end Go.Dc

set_option linter.unusedSectionVars false
set_option linter.unusedVariables false
/-! Values and objects that are matched; the tuple of what was found. -/
namespace Go.Dc
variable [DrawMode] {P : Program} [PTab P] {E : Env} {N : Nat} {n : Nat} {env : List (Nat × Ent)} {G : List (Nat × Sh)} {O : List MO}

def wordT (P : Program) [PTab P] (ts : List Ty) (j q : Nat) : Option Ty := (ts[j]?).bind fun t => match t with
  | .st k => (PTab.fts P k)[q]?
  | t => match q with
    | 0 => some t
    | _ + 1 => none
def nilOf (P : Program) [PTab P] (ts : List Ty) (strict : Bool) (k : KA) : Option Ty := bif strict then none else match k with
  | .d j q => match wordT P ts j q with
    | some (.sl t) => some t
    | _ => none
  | _ => none

def mtAs (P : Program) [PTab P] (ts : List Ty) (strict : Bool) (n0 : Nat) (env0 : List (Nat × Ent)) (n : Nat) (env : List (Nat × Ent)) : Mt → List KA → List At → Option Mt
  | M, [], [] => some M
  | M, k :: ks, a :: as => (mtA n0 env0 n env (nilOf P ts strict k) M k a).bind fun M => mtAs P ts strict n0 env0 n env M ks as
  | _, _, _ => none

theorem mtAs_ok {c0 : Cx} {ts : List Ty} {strict : Bool} : ∀ {ks : List KA} {as : List At} {M M' : Mt}, mtAs P ts strict c0.n c0.env n env M ks as = some M' →
    Mt.Le M M' ∧ ∀ {L : Nat → Nat → Option Dyn} {hs η : Nat → Hd}, Ext c0 ⟨n, env, η⟩ → MtSay L hs η M' → ImpAll (as.map (At.rp ⟨n, env, η⟩)) (ks.map (KA.rp c0 L hs)) ∧ (strict = true → as.map (At.rp ⟨n, env, η⟩) = ks.map (KA.rp c0 L hs))
  | [], [], M, M', h => by cases h; exact ⟨.refl _, fun _ _ => ⟨trivial, fun _ => rfl⟩⟩
  | k :: ks, a :: as, M, M', h => by
    simp only [mtAs] at h
    obtain ⟨M1, h1, h2⟩ := Option.bind_eq_some_iff.1 h
    obtain ⟨h3, h4⟩ := mtA_ok h1
    obtain ⟨h5, h6⟩ := mtAs_ok h2
    refine ⟨h3.trans h5, fun hx hs => ?_⟩
    obtain ⟨h7, h8⟩ := h6 hx hs
    obtain ⟨h9, h10⟩ := h4 hx (hs.le h5)
    refine ⟨⟨h9, h7⟩, fun e => ?_⟩
    rw [List.map_cons, List.map_cons, h8 e, h10 (by subst e; rfl)]
  | [], _ :: _, _, _, h => by simp [mtAs] at h
  | _ :: _, [], _, _, h => by simp [mtAs] at h

def mtV (P : Program) [PTab P] (ts : List Ty) (strict : Bool) (n0 : Nat) (env0 : List (Nat × Ent)) (n : Nat) (env : List (Nat × Ent)) (M : Mt) (k : Bool × List KA) : Sh → Option Mt
  | .vl g as => bif k.1 == g && (g || Nat.beq as.length 1) then mtAs P ts strict n0 env0 n env M k.2 as else none
  | _ => none
theorem mtV_ok {c0 : Cx} {ts : List Ty} {strict : Bool} {M M' : Mt} {k : Bool × List KA} {s : Sh} (h : mtV P ts strict c0.n c0.env n env M k s = some M') :
    Mt.Le M M' ∧ ∀ {L : Nat → Nat → Option Dyn} {hs η : Nat → Hd}, Ext c0 ⟨n, env, η⟩ → MtSay L hs η M' → (∀ {F w v}, (s.rp ⟨n, env, η⟩).h F w v → (kvrp c0 L hs k).h F w v) ∧ (strict = true → s.rp ⟨n, env, η⟩ = kvrp c0 L hs k) := by
  unfold mtV at h
  split at h
  · rename_i g as
    cases hb : (k.1 == g && (g || Nat.beq as.length 1)) with
    | false => rw [hb] at h; cases h
    | true =>
      rw [hb] at h
      simp only [Bool.and_eq_true, beq_iff_eq] at hb
      obtain ⟨hg, hlen⟩ := hb
      obtain ⟨h1, h2⟩ := mtAs_ok h
      refine ⟨h1, fun {L hs η} hx hsay => ?_⟩
      obtain ⟨h3, h4⟩ := h2 hx hsay
      obtain ⟨kg, ks⟩ := k
      simp only at hg h3 h4
      subst hg
      cases kg with
      | true =>
        refine ⟨fun hv => ?_, fun e => ?_⟩
        · obtain ⟨cs, e1, h5⟩ := hv; exact ⟨cs, e1, h3.all h5⟩
        · simp only [Sh.rp, vrp, kvrp, cond_true]; rw [h4 e]
      | false =>
        simp only [Bool.false_or] at hlen
        obtain ⟨a, rfl⟩ := List.length_eq_one_iff.1 (Nat.eq_of_beq_eq_true hlen)
        match ks, h3 with
        | [k], ⟨h3, _⟩ =>
          refine ⟨fun hv => h3 hv, fun e => ?_⟩
          have := h4 e
          simp only [List.map_cons, List.map_nil, List.cons.injEq, and_true] at this
          exact this
  · cases h

def mtVs (P : Program) [PTab P] (ts : List Ty) (strict : Bool) (n0 : Nat) (env0 : List (Nat × Ent)) (n : Nat) (env : List (Nat × Ent)) : Mt → List (Bool × List KA) → List Sh → Option Mt
  | M, [], [] => some M
  | M, k :: ks, s :: ss => (mtV P ts strict n0 env0 n env M k s).bind fun M => mtVs P ts strict n0 env0 n env M ks ss
  | _, _, _ => none
theorem mtVs_ok {c0 : Cx} {ts : List Ty} {strict : Bool} : ∀ {ks : List (Bool × List KA)} {ss : List Sh} {M M' : Mt}, mtVs P ts strict c0.n c0.env n env M ks ss = some M' →
    Mt.Le M M' ∧ ∀ {L : Nat → Nat → Option Dyn} {hs η : Nat → Hd}, Ext c0 ⟨n, env, η⟩ → MtSay L hs η M' → ImpAll (ss.map (Sh.rp ⟨n, env, η⟩)) (ks.map (kvrp c0 L hs)) ∧ (strict = true → ss.map (Sh.rp ⟨n, env, η⟩) = ks.map (kvrp c0 L hs))
  | [], [], M, M', h => by cases h; exact ⟨.refl _, fun _ _ => ⟨trivial, fun _ => rfl⟩⟩
  | k :: ks, a :: as, M, M', h => by
    simp only [mtVs] at h
    obtain ⟨M1, h1, h2⟩ := Option.bind_eq_some_iff.1 h
    obtain ⟨h3, h4⟩ := mtV_ok h1
    obtain ⟨h5, h6⟩ := mtVs_ok h2
    refine ⟨h3.trans h5, fun hx hs => ?_⟩
    obtain ⟨h7, h8⟩ := h6 hx hs
    obtain ⟨h9, h10⟩ := h4 hx (hs.le h5)
    refine ⟨⟨h9, h7⟩, fun e => ?_⟩
    rw [List.map_cons, List.map_cons, h8 e, h10 e]
  | [], _ :: _, _, _, h => by simp [mtVs] at h
  | _ :: _, [], _, _, h => by simp [mtVs] at h

/-! ### objects -/
def KO.key : KO → Option Nat
  | .oa k _ => some k
  | .oc k _ => some k
  | _ => none
def mtO (P : Program) [PTab P] (ts : List Ty) (n0 : Nat) (env0 : List (Nat × Ent)) (n : Nat) (env : List (Nat × Ent)) (O : List MO) (M : Mt) : KO → Option Mt
  | .oa k (.d j q) => (lkM M.om k).bind fun x => (anyA n env O x.1 x.2).bind fun p => M.word j q p.2
  | .oa k (.fx (.vr i)) => (lkM M.om k).bind fun x => (anyA n env O x.1 x.2).bind fun p => bif Nat.beq p.1 i && (lkE env0 i).isSome then some M else none
  | .oc k l => (lkM M.om k).bind fun x => (varC n O x.1 x.2).bind fun as => mtAs P ts true n0 env0 n env M l as
  | _ => none
theorem mtO_ok {c0 : Cx} {ts : List Ty} {M M' : Mt} {o : KO} (h : mtO P ts c0.n c0.env n env O M o = some M') :
    Mt.Le M M' ∧ ∃ k p x, o.key = some k ∧ lkM M.om k = some (p, x) ∧ p < O.length ∧ Nat.blt x n = true ∧ ∀ {L : Nat → Nat → Option Dyn} {hs η : Nat → Hd}, Ext c0 ⟨n, env, η⟩ → MtSay L hs η M' → (oma ⟨n, env, η⟩ O)[p]? = some (o.ob c0 L hs) := by
  unfold mtO at h
  split at h
  · rename_i k j q
    obtain ⟨⟨p, x⟩, h1, h⟩ := Option.bind_eq_some_iff.1 h
    obtain ⟨⟨i, D⟩, h2, h⟩ := Option.bind_eq_some_iff.1 h
    obtain ⟨h3, h4⟩ := Mt.word_ok h
    obtain ⟨hb, hlt, _, hj⟩ := anyA_ok h2
    refine ⟨h3, k, p, x, rfl, h1, hlt, hb, fun {L hs η} hx hsay => ?_⟩
    rw [hj η]
    simp only [KO.ob, KA.sl, hsay.w _ _ _ h4, hsay.o _ _ _ (h3.o _ _ h1)]
  · rename_i k i0
    obtain ⟨⟨p, x⟩, h1, h⟩ := Option.bind_eq_some_iff.1 h
    obtain ⟨⟨i, D⟩, h2, h⟩ := Option.bind_eq_some_iff.1 h
    cases hbi : Nat.beq (i, D).1 i0 && (lkE c0.env i0).isSome with
    | false => rw [hbi] at h; cases h
    | true =>
      rw [hbi] at h; cases h
      simp only [Bool.and_eq_true] at hbi
      obtain rfl : i = i0 := Nat.eq_of_beq_eq_true hbi.1
      obtain ⟨e, he⟩ := Option.isSome_iff_exists.1 hbi.2
      obtain ⟨hb, hlt, ⟨s, hse⟩, hj⟩ := anyA_ok h2
      refine ⟨.refl _, k, p, x, rfl, h1, hlt, hb, fun {L hs η} hx hsay => ?_⟩
      have he' := hx.env i e he
      simp only at he'
      rw [hse] at he'
      obtain rfl := Option.some.inj he'
      rw [hj η]
      simp only [KO.ob, KA.sl, he, Option.map_some, hsay.o _ _ _ h1]
  · rename_i k l
    obtain ⟨⟨p, x⟩, h1, h⟩ := Option.bind_eq_some_iff.1 h
    obtain ⟨as, h2, h⟩ := Option.bind_eq_some_iff.1 h
    obtain ⟨h3, h4⟩ := mtAs_ok h
    obtain ⟨hb, hlt, hj⟩ := varC_ok (env := env) h2
    refine ⟨h3, k, p, x, rfl, h1, hlt, hb, fun {L hs η} hx hsay => ?_⟩
    rw [hj η]
    simp only [KO.ob, hsay.o _ _ _ (h3.o _ _ h1)]
    rw [(h4 hx hsay).2 rfl]
  · cases h

def mtOs (P : Program) [PTab P] (ts : List Ty) (n0 : Nat) (env0 : List (Nat × Ent)) (n : Nat) (env : List (Nat × Ent)) (O : List MO) : Mt → List KO → Option Mt
  | M, [] => some M
  | M, o :: os => (mtO P ts n0 env0 n env O M o).bind fun M => mtOs P ts n0 env0 n env O M os
/-- where the objects stand -/
def posOs (M : Mt) : List KO → Option (List (Nat × Nat))
  | [] => some []
  | o :: os => (o.key.bind (lkM M.om)).bind fun x => (posOs M os).map (x :: ·)

theorem mtOs_ok {c0 : Cx} {ts : List Ty} : ∀ {os : List KO} {M M' : Mt}, mtOs P ts c0.n c0.env n env O M os = some M' →
    Mt.Le M M' ∧ ∀ {ps : List (Nat × Nat)}, posOs M' os = some ps → ps.length = os.length ∧ (∀ x ∈ ps, x.1 < O.length ∧ Nat.blt x.2 n = true) ∧ ∀ {L : Nat → Nat → Option Dyn} {hs η : Nat → Hd}, Ext c0 ⟨n, env, η⟩ → MtSay L hs η M' → ∀ (i : Nat) (p : Nat × Nat) (o : KO), ps[i]? = some p → os[i]? = some o → (oma ⟨n, env, η⟩ O)[p.1]? = some (o.ob c0 L hs)
  | [], M, M', h => by cases h; exact ⟨.refl _, fun hp => by cases hp; exact ⟨rfl, by simp, fun _ _ i p o h => by simp at h⟩⟩
  | o :: os, M, M', h => by
    simp only [mtOs] at h
    obtain ⟨M1, h1, h2⟩ := Option.bind_eq_some_iff.1 h
    obtain ⟨h3, k, p, x, hk, hm, hlt, hb, hat⟩ := mtO_ok h1
    obtain ⟨h5, h6⟩ := mtOs_ok h2
    refine ⟨h3.trans h5, fun {ps} hp => ?_⟩
    simp only [posOs, hk, Option.bind_some, h5.o _ _ (h3.o _ _ hm)] at hp
    obtain ⟨ps', hp', rfl⟩ := Option.map_eq_some_iff.1 hp
    obtain ⟨h7, h8, h9⟩ := h6 hp'
    refine ⟨by simp [h7], fun y hy => ?_, fun hx hsay i q o' hq ho' => ?_⟩
    · rcases List.mem_cons.1 hy with e | e
      · rw [e]; exact ⟨hlt, hb⟩
      · exact h8 y e
    · cases i with
      | zero =>
        simp only [List.getElem?_cons_zero, Option.some.injEq] at hq ho'
        subst hq; subst ho'
        exact hat hx (hsay.le h5)
      | succ i => exact h9 hx hsay i q o' (by simpa using hq) (by simpa using ho')

/-! ### the tuple -/
def wordsN (ws : List ((Nat × Nat) × Dyn)) (j : Nat) : Nat → Nat → Option (List Dyn)
  | _, 0 => some []
  | q, k + 1 => (lkW ws j q).bind fun D => (wordsN ws j (q + 1) k).map (D :: ·)
theorem wordsN_get {ws : List ((Nat × Nat) × Dyn)} {j : Nat} : ∀ {k q : Nat} {l : List Dyn}, wordsN ws j q k = some l → l.length = k ∧ ∀ i, i < k → l[i]? = lkW ws j (q + i)
  | 0, q, l, h => by cases h; exact ⟨rfl, fun i hi => by omega⟩
  | k + 1, q, l, h => by
    simp only [wordsN] at h
    obtain ⟨D, h1, h2⟩ := Option.bind_eq_some_iff.1 h
    obtain ⟨l', h3, rfl⟩ := Option.map_eq_some_iff.1 h2
    obtain ⟨h4, h5⟩ := wordsN_get h3
    refine ⟨by simp [h4], fun i hi => ?_⟩
    cases i with
    | zero => simp [h1]
    | succ i => simp only [List.getElem?_cons_succ]; rw [h5 i (by omega)]; congr 1; omega

def comp (P : Program) [PTab P] (ws : List ((Nat × Nat) × Dyn)) (j : Nat) (t : Ty) : Option t.den := match t with
  | .st k => (wordsN ws j 0 (PTab.fts P k).length).bind (PTab.join (P := P) k)
  | t => (lkW ws j 0).bind fun D => if h : D.t = t then some (h ▸ D.d) else none
def nleaf (P : Program) [PTab P] : Ty → Nat
  | .st k => (PTab.fts P k).length
  | _ => 1
theorem comp_get {ws : List ((Nat × Nat) × Dyn)} {j q : Nat} {t : Ty} {d : t.den} {D : Dyn} (h : comp P ws j t = some d) (hD : lkW ws j q = some D) (hq : q < nleaf P t) : (leaves P ⟨t, d⟩)[q]? = some D := by
  have one : ∀ {t : Ty} {d : t.den}, ((lkW ws j 0).bind fun D => if h : D.t = t then some (h ▸ D.d) else none) = some d → q < 1 → ([(⟨t, d⟩ : Dyn)])[q]? = some D := by
    intro t d h hq
    obtain rfl : q = 0 := by omega
    rw [hD] at h
    simp only [Option.bind_some] at h
    split at h
    · rename_i e; subst e; cases h; rfl
    · cases h
  cases t with
  | st k =>
    simp only [comp] at h
    obtain ⟨l, h1, h2⟩ := Option.bind_eq_some_iff.1 h
    have h3 : PTab.split (P := P) k d = l := PTab.join_ok' k l d h2
    show (PTab.split (P := P) k d)[q]? = _
    rw [h3, (wordsN_get h1).2 q hq, Nat.zero_add, hD]
  | int k => exact one h hq
  | bool => exact one h hq
  | str => exact one h hq
  | sl t => exact one h hq
  | op t => exact one h hq
  | mp k v => exact one h hq

def wsOk (P : Program) [PTab P] (ts : List Ty) : List ((Nat × Nat) × Dyn) → Bool
  | [] => true
  | ((j, q), _) :: r => (match ts[j]? with | some t => Nat.blt q (nleaf P t) | none => false) && wsOk P ts r
theorem wsOk_get {ts : List Ty} : ∀ {ws : List ((Nat × Nat) × Dyn)}, wsOk P ts ws = true → ∀ {j q : Nat} {D : Dyn}, lkW ws j q = some D → ∃ t, ts[j]? = some t ∧ q < nleaf P t
  | [], _, j, q, D, h => by cases h
  | ((j', q'), D') :: r, hw, j, q, D, h => by
    simp only [wsOk, Bool.and_eq_true] at hw
    simp only [lkW] at h
    cases hb : Nat.beq j' j && Nat.beq q' q with
    | false => rw [hb] at h; exact wsOk_get hw.2 h
    | true =>
      simp only [Bool.and_eq_true] at hb
      obtain rfl := Nat.eq_of_beq_eq_true hb.1
      obtain rfl := Nat.eq_of_beq_eq_true hb.2
      have h1 := hw.1
      split at h1
      · rename_i t ht; exact ⟨t, ht, by simpa [Nat.blt_eq] using h1⟩
      · cases h1

theorem tupGet_ty : ∀ {ts : List Ty} {a : Tup ts} {j : Nat} {t : Ty}, ts[j]? = some t → ∃ d, tupGet ts a j = some ⟨t, d⟩
  | [], _, _, _, h => by simp at h
  | [t], a, 0, _, h => by simp at h; subst h; exact ⟨a, rfl⟩
  | [t], a, j + 1, _, h => by simp at h
  | t :: u :: ts, a, 0, _, h => by simp at h; subst h; exact ⟨a.1, rfl⟩
  | t :: u :: ts, a, j + 1, _, h => tupGet_ty (ts := u :: ts) (a := a.2) (j := j) (by simpa using h)

/-- the tuple of what was found -/
def Mt.tup (P : Program) [PTab P] (M : Mt) (ts : List Ty) : Option (Tup ts) := bif wsOk P ts M.ws then tupMk ts (fun j t => comp P M.ws j t) 0 else none
theorem Mt.tup_ok {M : Mt} {ts : List Ty} {a : Tup ts} (h : M.tup P ts = some a) {j q : Nat} {D : Dyn} (hD : lkW M.ws j q = some D) : leaf P ts a j q = some D := by
  unfold Mt.tup at h
  cases hb : wsOk P ts M.ws with
  | false => rw [hb] at h; cases h
  | true =>
    rw [hb] at h
    obtain ⟨t, ht, hq⟩ := wsOk_get hb hD
    obtain ⟨d, hd⟩ := tupGet_ty (a := a) ht
    have h1 := tupMk_get h hd
    rw [Nat.zero_add] at h1
    unfold leaf
    rw [hd]
    exact comp_get h1 hD hq

/-- handles by what was found -/
def Mt.hs (M : Mt) (η : Nat → Hd) : Nat → Hd := fun k => match lkM M.om k with
  | some x => η x.2
  | none => ⟨.bool true, [], 0, rfl⟩
theorem Mt.say {M : Mt} {ts : List Ty} {a : Tup ts} (h : M.tup P ts = some a) (η : Nat → Hd) : MtSay (leaf P ts a) (M.hs η) η M :=
  ⟨fun j q D hD => M.tup_ok h hD, fun k o x hk => by simp only [Mt.hs, hk]⟩
end Go.Dc

set_option linter.unusedSectionVars false
set_option linter.unusedVariables false
/-! Calls by contract. -/
namespace Go.Dc
section
variable [DrawMode] {P : Program} [PTab P] {E : Env} {N : Nat} {op : Op} {ty : TypeId} {n : Nat} {env : List (Nat × Ent)} {G : List (Nat × Sh)} {O : List MO}

/-! ### arguments -/
def opds (G : List (Nat × Sh)) : List Operand → Option (List Sh)
  | [] => some []
  | x :: xs => (opd G x).bind fun s => (opds G xs).map (s :: ·)
def capSh : Cap → Sh
  | .ptr o h => .vl false [.ptr o h 0]
  | .fn f => .vl false [.fn f []]
  | .nilp => .vl false [.nilp]
theorem capSh_ok {c : Cx} {k : Cap} (h : Cap.ok c.n k = true) {F : FP} {w : World} : ((capSh k).rp c).h F w (k.val c.η) := by
  cases k with
  | ptr o x =>
    have hb : Nat.blt x c.n = true := h
    show ((At.ptr o x 0).rp c).h F w _
    rw [ptr_rp hb]; rfl
  | fn f => rfl
  | nilp => rfl
theorem argsOk {c : Cx} {Ω : List OB} : ∀ {xs : List Operand} {cs : List Cap} {ss : List Sh} {φs : List RP}, opds G xs = some ss → cs.all (Cap.ok c.n) = true → ImpAll ((ss ++ cs.map capSh).map (Sh.rp c)) φs →
    ArgsOk E N (gma c G) Ω frF (xs ++ (cs.map (Cap.val c.η)).map .const) φs
  | [], [], ss, φs, h, _, hi => by
    cases h
    match φs, hi with
    | [], _ => trivial
  | [], k :: cs, ss, φs, h, hc, hi => by
    cases h
    simp only [List.all_cons, Bool.and_eq_true] at hc
    match φs, hi with
    | φ :: φs, ⟨h1, h2⟩ => exact ⟨fun a w hs => h1 (capSh_ok (c := c) hc.1), argsOk (xs := []) (ss := []) rfl hc.2 h2⟩
  | x :: xs, cs, ss, φs, h, hc, hi => by
    simp only [opds] at h
    obtain ⟨s, h1, h2⟩ := Option.bind_eq_some_iff.1 h
    obtain ⟨ss', h3, rfl⟩ := Option.map_eq_some_iff.1 h2
    match φs, hi with
    | φ :: φs, ⟨h4, h5⟩ => exact ⟨fun a w hs => h4 (hs.op (opd_rp h1)), argsOk h3 hc h5⟩

/-! ### what comes back -/
def KA.words : KA → List (Nat × Nat)
  | .d j q => [(j, q)]
  | _ => []
def KO.words : KO → List (Nat × Nat)
  | .oa _ w => w.words
  | .oc _ l => l.flatMap KA.words
  | _ => []
def Con.wl [SDen] (C : Con) : List (Nat × Nat) := C.rs.flatMap (fun v => v.2.flatMap KA.words) ++ C.os'.flatMap KO.words
def leafs (P : Program) [PTab P] (ts : List Ty) (r : Tup ts) : List (Nat × Nat) → Option (List Dyn)
  | [] => some []
  | (j, q) :: l => (leaf P ts r j q).bind fun D => (leafs P ts r l).map (D :: ·)
theorem leafs_get {ts : List Ty} {r : Tup ts} : ∀ {l : List (Nat × Nat)} {Ds : List Dyn}, leafs P ts r l = some Ds → Ds.length = l.length ∧ ∀ {i : Nat} {p : Nat × Nat}, l[i]? = some p → ∃ D, Ds[i]? = some D ∧ leaf P ts r p.1 p.2 = some D
  | [], _, h => by cases h; exact ⟨rfl, fun h => by simp at h⟩
  | (j, q) :: l, Ds, h => by
    simp only [leafs] at h
    obtain ⟨D, h1, h2⟩ := Option.bind_eq_some_iff.1 h
    obtain ⟨Ds', h3, rfl⟩ := Option.map_eq_some_iff.1 h2
    obtain ⟨h4, h5⟩ := leafs_get h3
    refine ⟨by simp [h4], fun {i p} hp => ?_⟩
    cases i with
    | zero => simp only [List.getElem?_cons_zero, Option.some.injEq] at hp; subst hp; exact ⟨D, rfl, h1⟩
    | succ i => exact h5 (by simpa using hp)
def ixW : List (Nat × Nat) → Nat → Nat → Nat → Option Nat
  | [], _, _, _ => none
  | (j, q) :: l, i, p, k => bif Nat.beq j i && Nat.beq q p then some k else ixW l i p (k + 1)
theorem ixW_get : ∀ {l : List (Nat × Nat)} {j q k i : Nat}, ixW l j q k = some i → k ≤ i ∧ l[i - k]? = some (j, q)
  | [], _, _, _, _, h => by cases h
  | (j', q') :: l, j, q, k, i, h => by
    simp only [ixW] at h
    cases hb : Nat.beq j' j && Nat.beq q' q with
    | true =>
      rw [hb] at h; cases h
      simp only [Bool.and_eq_true] at hb
      obtain rfl := Nat.eq_of_beq_eq_true hb.1
      obtain rfl := Nat.eq_of_beq_eq_true hb.2
      exact ⟨Nat.le_refl _, by simp⟩
    | false =>
      rw [hb] at h
      obtain ⟨h1, h2⟩ := ixW_get h
      refine ⟨by omega, ?_⟩
      rw [show i - k = (i - (k + 1)) + 1 from by omega]
      simpa using h2

end
section
variable [SRep] [DrawMode]
/-- names for what comes back -/
structure Bk where
  n0 : Nat
  env0 : List (Nat × Ent)
  n : Nat
  wl : List (Nat × Nat)
  om : List (Nat × (Nat × Nat))
  nh : Nat
  nh' : Nat
  pos : Nat → Nat
def Bk.hid (B : Bk) (k : Nat) : Option Nat := bif Nat.blt k B.nh then (match lkM B.om k with
    | some (_, h) => bif Nat.blt h B.n then some h else none
    | none => none) else bif Nat.blt k B.nh' then some (B.n + B.wl.length + (k - B.nh)) else none
def Bk.caps (B : Bk) : List (Option Nat) → Option (List Cap)
  | [] => some []
  | none :: l => (B.caps l).map (.nilp :: ·)
  | some k :: l => (B.hid k).bind fun h => (B.caps l).map (.ptr (B.pos k) h :: ·)
def Bk.at (B : Bk) : KA → Option At
  | .d j q => (ixW B.wl j q 0).map fun i => .vr (B.n + i)
  | .own k => (B.hid k).map fun h => .own (B.pos k) h
  | .ptr k => (B.hid k).map fun h => .ptr (B.pos k) h 0
  | .mp k => (B.hid k).map fun h => .mp (B.pos k) h
  | .fn f cs => (B.caps cs).map (.fn f)
  | .nl => some .nl
  | .nilp => some .nilp
  | .nilf => some .nilf
  | .fx a => bif a.clo B.n0 B.env0 then some a else none
def Bk.ats (B : Bk) : List KA → Option (List At)
  | [] => some []
  | k :: l => (B.at k).bind fun a => (B.ats l).map (a :: ·)
def Bk.vals (B : Bk) : List (Bool × List KA) → Option (List (Bool × List At))
  | [] => some []
  | (g, l) :: r => (B.ats l).bind fun as => (B.vals r).map ((g, as) :: ·)
def Bk.obj (B : Bk) : KO → Option MO
  | .dead => some .dead
  | .same => none
  | .oa k (.d j q) => (B.hid k).bind fun h => (ixW B.wl j q 0).map fun i => .oa h (B.n + i)
  | .oa k (.fx (.vr i)) => (B.hid k).bind fun h => bif (lkE B.env0 i).isSome then some (.oa h i) else none
  | .oa _ _ => none
  | .oc k l => (B.hid k).bind fun h => (B.ats l).map fun as => .oc h as
/-- objects that were given, and new ones -/
def Bk.objs (B : Bk) (O : List MO) : List Nat → List KO → Option (List MO × List MO)
  | p :: ps, .same :: os => (O[p]?).bind fun o => (B.objs O ps os).map fun r => (o :: r.1, r.2)
  | _ :: ps, o :: os => (B.obj o).bind fun m => (B.objs O ps os).map fun r => (m :: r.1, r.2)
  | [], o :: os => (B.obj o).bind fun m => (B.objs O [] os).map fun r => (r.1, m :: r.2)
  | [], [] => some ([], [])
  | _ :: _, [] => none

/-- what the names say -/
structure BkSay (B : Bk) (L : Nat → Nat → Option Dyn) (hs : Nat → Hd) (c0 c : Cx) : Prop where
  n0 : B.n0 = c0.n
  env0 : B.env0 = c0.env
  x : Ext c0 c
  w : ∀ j q i, ixW B.wl j q 0 = some i → ∃ D, lkE c.env (B.n + i) = some ⟨D.t, D.d, none⟩ ∧ L j q = some D ∧ D.t.one = true
  h : ∀ k x, B.hid k = some x → c.η x = hs k ∧ Nat.blt x c.n = true

section
variable {B : Bk} {L : Nat → Nat → Option Dyn} {hs : Nat → Hd} {c0 c : Cx}
theorem BkSay.caps (H : BkSay B L hs c0 c) : ∀ {l : List (Option Nat)} {cs : List Cap}, B.caps l = some cs → cs.map (Cap.val c.η) = l.map (kcap hs) ∧ cs.all (Cap.ok c.n) = true
  | [], _, h => by cases h; exact ⟨rfl, rfl⟩
  | none :: l, cs, h => by
    simp only [Bk.caps] at h
    obtain ⟨cs', h1, rfl⟩ := Option.map_eq_some_iff.1 h
    obtain ⟨h2, h3⟩ := H.caps h1
    exact ⟨by rw [List.map_cons, List.map_cons, h2]; rfl, by simp [h3, Cap.ok]⟩
  | some k :: l, cs, h => by
    simp only [Bk.caps] at h
    obtain ⟨x, h0, h⟩ := Option.bind_eq_some_iff.1 h
    obtain ⟨cs', h1, rfl⟩ := Option.map_eq_some_iff.1 h
    obtain ⟨h2, h3⟩ := H.caps h1
    obtain ⟨h4, h5⟩ := H.h _ _ h0
    refine ⟨by rw [List.map_cons, List.map_cons, h2]; simp only [kcap, Cap.val, h4], ?_⟩
    rw [List.all_cons, h3]
    show (Nat.blt x c.n && true) = true
    rw [h5]; rfl
theorem BkSay.at (H : BkSay B L hs c0 c) {k : KA} {a : At} (h : B.at k = some a) : a.rp c = k.rp c0 L hs := by
  cases k with
  | d j q =>
    simp only [Bk.at] at h
    obtain ⟨i, h1, rfl⟩ := Option.map_eq_some_iff.1 h
    obtain ⟨D, h2, h3, h4⟩ := H.w _ _ _ h1
    simp only [At.rp, h2, h4, cond_true, KA.rp, h3, Dyn.rp]
  | own k =>
    obtain ⟨x, h1, rfl⟩ := Option.map_eq_some_iff.1 h
    obtain ⟨h2, h3⟩ := H.h _ _ h1
    rw [own_rp h3, h2]; rfl
  | ptr k =>
    obtain ⟨x, h1, rfl⟩ := Option.map_eq_some_iff.1 h
    obtain ⟨h2, h3⟩ := H.h _ _ h1
    rw [ptr_rp h3, h2]; rfl
  | mp k =>
    obtain ⟨x, h1, rfl⟩ := Option.map_eq_some_iff.1 h
    obtain ⟨h2, h3⟩ := H.h _ _ h1
    simp only [At.rp, h3, cond_true, h2]; rfl
  | fn f cs =>
    obtain ⟨ds, h1, rfl⟩ := Option.map_eq_some_iff.1 h
    obtain ⟨h2, h3⟩ := H.caps h1
    simp only [At.rp, h3, cond_true, h2]; rfl
  | nl => cases h; rfl
  | nilp => cases h; rfl
  | nilf => cases h; rfl
  | fx a' =>
    simp only [Bk.at] at h
    cases hb : a'.clo B.n0 B.env0 with
    | false => rw [hb] at h; cases h
    | true =>
      rw [hb] at h; cases h
      rw [H.n0, H.env0] at hb
      exact At.clo_ok H.x hb
theorem BkSay.ats (H : BkSay B L hs c0 c) : ∀ {l : List KA} {as : List At}, B.ats l = some as → as.map (At.rp c) = l.map (KA.rp c0 L hs)
  | [], _, h => by cases h; rfl
  | k :: l, as, h => by
    simp only [Bk.ats] at h
    obtain ⟨a, h1, h2⟩ := Option.bind_eq_some_iff.1 h
    obtain ⟨as', h3, rfl⟩ := Option.map_eq_some_iff.1 h2
    rw [List.map_cons, List.map_cons, H.at h1, H.ats h3]
theorem BkSay.vals (H : BkSay B L hs c0 c) : ∀ {l : List (Bool × List KA)} {vs : List (Bool × List At)}, B.vals l = some vs → (vs.map fun x => vrp c x.1 x.2) = l.map (kvrp c0 L hs)
  | [], _, h => by cases h; rfl
  | (g, l) :: r, vs, h => by
    simp only [Bk.vals] at h
    obtain ⟨as, h1, h2⟩ := Option.bind_eq_some_iff.1 h
    obtain ⟨vs', h3, rfl⟩ := Option.map_eq_some_iff.1 h2
    rw [List.map_cons, List.map_cons, H.vals h3]
    simp only [vrp, kvrp]
    rw [H.ats h1]
theorem BkSay.obj (H : BkSay B L hs c0 c) {o : KO} {m : MO} (h : B.obj o = some m) : m.ob c = o.ob c0 L hs := by
  cases o with
  | dead => cases h; rfl
  | same => cases h
  | oa k w =>
    unfold Bk.obj at h
    split at h
    · rename_i e0; cases e0
    · cases h
    · rename_i k j q e0
      cases e0
      obtain ⟨x, h1, h2⟩ := Option.bind_eq_some_iff.1 h
      obtain ⟨i, h3, rfl⟩ := Option.map_eq_some_iff.1 h2
      obtain ⟨h4, h5⟩ := H.h _ _ h1
      obtain ⟨D, h6, h7, _⟩ := H.w _ _ _ h3
      simp only [MO.ob, h6, KO.ob, KA.sl, h7, h5, cond_true, h4]
    · rename_i k i e0
      cases e0
      obtain ⟨x, h1, h2⟩ := Option.bind_eq_some_iff.1 h
      cases hb : (lkE B.env0 i).isSome with
      | false => rw [hb] at h2; cases h2
      | true =>
        rw [hb] at h2; cases h2
        rw [H.env0] at hb
        obtain ⟨e, he⟩ := Option.isSome_iff_exists.1 hb
        obtain ⟨h4, h5⟩ := H.h _ _ h1
        simp only [MO.ob, H.x.env i e he, KO.ob, KA.sl, he, Option.map_some, h5, cond_true, h4]
    · cases h
    · rename_i e0; cases e0
  | oc k l =>
    simp only [Bk.obj] at h
    obtain ⟨x, h1, h2⟩ := Option.bind_eq_some_iff.1 h
    obtain ⟨as, h3, rfl⟩ := Option.map_eq_some_iff.1 h2
    obtain ⟨h4, h5⟩ := H.h _ _ h1
    simp only [MO.ob, h5, cond_true, h4, KO.ob, H.ats h3]
end

end
section
variable [DrawMode] {P : Program} [PTab P] {E : Env} {N : Nat} {op : Op} {ty : TypeId} {n : Nat} {env : List (Nat × Ent)} {G : List (Nat × Sh)} {O : List MO}
/-! ### several objects written at once -/
theorem setAll_self : ∀ {js : List Nat} {os Ω : List OB} {i j : Nat} {o : OB}, js[i]? = some j → os[i]? = some o → hasN (js.drop (i + 1)) j = false → j < Ω.length → (setAll js os Ω)[j]? = some o
  | [], _, _, i, _, _, h, _, _, _ => by simp at h
  | _ :: _, [], _, i, _, _, _, h, _, _ => by simp at h
  | k :: js, p :: os, Ω, 0, j, o, h1, h2, h3, h4 => by
    simp only [List.getElem?_cons_zero, Option.some.injEq] at h1 h2
    subst h1; subst h2
    simp only [setAll]
    rw [setAll_out (fun hh => by simp only [List.drop_succ_cons, List.drop_zero] at h3; rw [hasN_iff.2 hh] at h3; cases h3), List.getElem?_set_self h4]
  | k :: js, p :: os, Ω, i + 1, j, o, h1, h2, h3, h4 => by
    simp only [setAll]
    exact setAll_self (i := i) (by simpa using h1) (by simpa using h2) (by simpa using h3) (by simpa using h4)

def nodupN : List Nat → Bool
  | [] => true
  | j :: js => !hasN js j && nodupN js
theorem nodupN_drop : ∀ {js : List Nat}, nodupN js = true → ∀ {i j : Nat}, js[i]? = some j → hasN (js.drop (i + 1)) j = false
  | [], _, i, j, h => by simp at h
  | k :: js, hn, 0, j, h => by
    simp only [nodupN, Bool.and_eq_true, Bool.not_eq_true'] at hn
    simp only [List.getElem?_cons_zero, Option.some.injEq] at h
    subst h; simpa using hn.1
  | k :: js, hn, i + 1, j, h => by
    simp only [nodupN, Bool.and_eq_true] at hn
    simpa using nodupN_drop hn.2 (i := i) (by simpa using h)

theorem updO_len : ∀ {l : List (Nat × MO)} {O : List MO}, (updO l O).length = O.length
  | [], _ => rfl
  | (j, o) :: l, O => by simp only [updO]; rw [updO_len]; simp
theorem updO_out {i : Nat} : ∀ {l : List (Nat × MO)} {O : List MO}, i ∉ l.map (·.1) → (updO l O)[i]? = O[i]?
  | [], _, _ => rfl
  | (j, o) :: l, O, h => by
    simp only [List.map_cons, List.mem_cons, not_or] at h
    simp only [updO]
    rw [updO_out h.2, List.getElem?_set_ne (Ne.symm h.1)]
theorem updO_self : ∀ {js : List Nat} {ms : List MO} {O : List MO} {i j : Nat} {m : MO}, js[i]? = some j → ms[i]? = some m → hasN (js.drop (i + 1)) j = false → j < O.length → js.length = ms.length → (updO (js.zip ms) O)[j]? = some m
  | [], _, _, i, _, _, h, _, _, _, _ => by simp at h
  | _ :: _, [], _, i, _, _, _, h, _, _, _ => by simp at h
  | k :: js, p :: ms, O, 0, j, m, h1, h2, h3, h4, h5 => by
    simp only [List.getElem?_cons_zero, Option.some.injEq] at h1 h2
    subst h1; subst h2
    simp only [List.zip_cons_cons, updO]
    rw [updO_out, List.getElem?_set_self h4]
    intro hm
    simp only [List.drop_succ_cons, List.drop_zero] at h3
    have : k ∈ js := by
      obtain ⟨x, hx, e⟩ := List.mem_map.1 hm
      rw [← e]; exact (List.of_mem_zip hx).1
    rw [hasN_iff.2 this] at h3; cases h3
  | k :: js, p :: ms, O, i + 1, j, m, h1, h2, h3, h4, h5 => by
    simp only [List.zip_cons_cons, updO]
    exact updO_self (i := i) (by simpa using h1) (by simpa using h2) (by simpa using h3) (by simpa using h4) (by simpa using h5)

theorem oma_setAll {c c' : Cx} (hx : Ext c c') {O : List MO} {Γ : List (Nat × RP)} {a : Act} {w : World} {js : List Nat} {ms : List MO} {obs : List OB} {new : List MO} {ex : List OB} (hnd : nodupN js = true) (hlt : ∀ j ∈ js, j < O.length)
    (hl : js.length = ms.length) (hl' : js.length = obs.length) (hm : ∀ (i : Nat) (m : MO) (o : OB), ms[i]? = some m → obs[i]? = some o → m.ob c' = o) (hn : new.map (MO.ob c') = ex)
    (hs : Sat E N Γ (setAll js obs (oma c O) ++ ex) a w) : oma c' (updO (js.zip ms) O ++ new) = setAll js obs (oma c O) ++ ex := by
  unfold oma at hs ⊢
  rw [List.map_append, hn]
  congr 1
  refine List.ext_getElem? fun j => ?_
  rw [List.getElem?_map]
  by_cases hj : j ∈ js
  · obtain ⟨i, hi⟩ := List.mem_iff_getElem?.1 hj
    have hil : i < js.length := (List.getElem?_eq_some_iff.1 hi).1
    obtain ⟨m, hm1⟩ : ∃ m, ms[i]? = some m := ⟨ms[i]'(by omega), List.getElem?_eq_getElem (by omega)⟩
    obtain ⟨o, ho1⟩ : ∃ o, obs[i]? = some o := ⟨obs[i]'(by omega), List.getElem?_eq_getElem (by omega)⟩
    rw [updO_self hi hm1 (nodupN_drop hnd hi) (hlt j hj) hl, setAll_self hi ho1 (nodupN_drop hnd hi) (by simpa using hlt j hj)]
    simp only [Option.map_some]
    rw [hm i m o hm1 ho1]
  · rw [updO_out, setAll_out hj, List.getElem?_map]
    · cases ho : O[j]? with
      | none => rfl
      | some q =>
        simp only [Option.map_some]
        have hq : (setAll js obs (O.map (MO.ob c)) ++ ex)[j]? = some (q.ob c) := by
          rw [List.getElem?_append_left (by rw [setAll_len, List.length_map]; exact (List.getElem?_eq_some_iff.1 ho).1), setAll_out hj, List.getElem?_map, ho]; rfl
        rw [MO.ob_eq hx (hs.ob _ (List.mem_of_getElem? hq))]
    · intro hm
      obtain ⟨x, hx', e⟩ := List.mem_map.1 hm
      exact hj (by rw [← e]; exact (List.of_mem_zip hx').1)
end
end Go.Dc

set_option linter.unusedSectionVars false
set_option linter.unusedVariables false
set_option linter.unusedSimpArgs false
/-! Calls by contract, whole. -/
namespace Go.Dc
variable [DrawMode] {P : Program} [PTab P] {E : Env} {N : Nat} {op : Op} {ty : TypeId} {n : Nat} {env : List (Nat × Ent)} {G : List (Nat × Sh)} {O : List MO}

theorem Bk.objs_ok {B : Bk} {Li Lo : Nat → Nat → Option Dyn} {hs0 hs : Nat → Hd} {c' : Cx} {O : List MO} (H : BkSay B Lo hs cx0 c') : ∀ {os' : List KO} {os : List KO} {ps : List Nat} {ms new : List MO}, B.objs O ps os' = some (ms, new) → ps.length = os.length →
    ms.length = ps.length ∧ (kafter Li Lo hs0 hs os os').length = ms.length + new.length ∧
    (∀ (i : Nat) (m : MO) (o : OB), ms[i]? = some m → ((kafter Li Lo hs0 hs os os').take ps.length)[i]? = some o → m.ob c' = o ∨ (∃ p q k, ps[i]? = some p ∧ O[p]? = some q ∧ m = q ∧ os[i]? = some k ∧ o = k.ob cx0 Li hs0)) ∧
    new.map (MO.ob c') = (kafter Li Lo hs0 hs os os').drop ps.length
  | [], os, [], ms, new, h, hl => by
    cases h
    cases os with
    | nil => exact ⟨rfl, rfl, fun i m o h => by simp at h, rfl⟩
    | cons _ _ => simp at hl
  | [], _, _ :: _, _, _, h, _ => by cases h
  | o :: os', [], [], ms, new, h, hl => by
    have hh : (B.obj o).bind (fun m => (B.objs O [] os').map fun r => (r.1, m :: r.2)) = some (ms, new) := by cases o <;> exact h
    obtain ⟨m, h1, h2⟩ := Option.bind_eq_some_iff.1 hh
    obtain ⟨⟨a, b⟩, h3, h4⟩ := Option.map_eq_some_iff.1 h2
    cases h4
    obtain ⟨h5, h6, h7, h8⟩ := Bk.objs_ok (Li := Li) (hs0 := hs0) H (os := []) h3 rfl
    have hk : kafter Li Lo hs0 hs [] (o :: os') = o.ob cx0 Lo hs :: kafter Li Lo hs0 hs [] os' := by cases o <;> rfl
    rw [hk]
    refine ⟨h5, by simp only [List.length_cons, h6]; omega, fun i m' o' hm' ho' => ?_, ?_⟩
    · have h9 := (List.getElem?_eq_some_iff.1 hm').1
      simp only [h5, List.length_nil] at h9; omega
    · simp only [List.map_cons, List.length_nil, List.drop_zero] at h8 ⊢
      rw [h8, H.obj h1]
  | o :: os', [], _ :: _, ms, new, h, hl => by simp at hl
  | o :: os', _ :: _, [], ms, new, h, hl => by simp at hl
  | .same :: os', k :: os, p :: ps, ms, new, h, hl => by
    have hh : (O[p]?).bind (fun o => (B.objs O ps os').map fun r => (o :: r.1, r.2)) = some (ms, new) := h
    obtain ⟨q, h1, h2⟩ := Option.bind_eq_some_iff.1 hh
    obtain ⟨⟨a, b⟩, h3, h4⟩ := Option.map_eq_some_iff.1 h2
    cases h4
    obtain ⟨h5, h6, h7, h8⟩ := Bk.objs_ok (Li := Li) (hs0 := hs0) H (os := os) h3 (by simpa using hl)
    have hk : kafter Li Lo hs0 hs (k :: os) (.same :: os') = k.ob cx0 Li hs0 :: kafter Li Lo hs0 hs os os' := rfl
    rw [hk]
    refine ⟨by simp [h5], by simp only [List.length_cons, h6]; omega, fun i m' o' hm' ho' => ?_, ?_⟩
    · cases i with
      | zero =>
        simp only [List.getElem?_cons_zero, Option.some.injEq, List.length_cons, List.take_succ_cons] at hm' ho'
        subst hm'; subst ho'
        exact .inr ⟨p, q, k, by simp, h1, rfl, by simp, rfl⟩
      | succ i =>
        simp only [List.getElem?_cons_succ, List.length_cons, List.take_succ_cons] at hm' ho' ⊢
        exact h7 i m' o' hm' ho'
    · simpa using h8
  | .dead :: os', k :: os, p :: ps, ms, new, h, hl => by
    have hh : (B.obj .dead).bind (fun m => (B.objs O ps os').map fun r => (m :: r.1, r.2)) = some (ms, new) := h
    obtain ⟨q, h1, h2⟩ := Option.bind_eq_some_iff.1 hh
    obtain ⟨⟨a, b⟩, h3, h4⟩ := Option.map_eq_some_iff.1 h2
    cases h4
    obtain ⟨h5, h6, h7, h8⟩ := Bk.objs_ok (Li := Li) (hs0 := hs0) H (os := os) h3 (by simpa using hl)
    have hk : kafter Li Lo hs0 hs (k :: os) (.dead :: os') = KO.dead.ob cx0 Lo hs :: kafter Li Lo hs0 hs os os' := rfl
    rw [hk]
    refine ⟨by simp [h5], by simp only [List.length_cons, h6]; omega, fun i m' o' hm' ho' => ?_, by simpa using h8⟩
    cases i with
    | zero =>
      simp only [List.getElem?_cons_zero, Option.some.injEq, List.length_cons, List.take_succ_cons] at hm' ho'
      subst hm'; subst ho'
      exact .inl (H.obj h1)
    | succ i =>
      simp only [List.getElem?_cons_succ, List.length_cons, List.take_succ_cons] at hm' ho' ⊢
      exact h7 i m' o' hm' ho'
  | .oa x w :: os', k :: os, p :: ps, ms, new, h, hl => by
    have hh : (B.obj (.oa x w)).bind (fun m => (B.objs O ps os').map fun r => (m :: r.1, r.2)) = some (ms, new) := h
    obtain ⟨q, h1, h2⟩ := Option.bind_eq_some_iff.1 hh
    obtain ⟨⟨a, b⟩, h3, h4⟩ := Option.map_eq_some_iff.1 h2
    cases h4
    obtain ⟨h5, h6, h7, h8⟩ := Bk.objs_ok (Li := Li) (hs0 := hs0) H (os := os) h3 (by simpa using hl)
    have hk : kafter Li Lo hs0 hs (k :: os) (.oa x w :: os') = (KO.oa x w).ob cx0 Lo hs :: kafter Li Lo hs0 hs os os' := rfl
    rw [hk]
    refine ⟨by simp [h5], by simp only [List.length_cons, h6]; omega, fun i m' o' hm' ho' => ?_, by simpa using h8⟩
    cases i with
    | zero =>
      simp only [List.getElem?_cons_zero, Option.some.injEq, List.length_cons, List.take_succ_cons] at hm' ho'
      subst hm'; subst ho'
      exact .inl (H.obj h1)
    | succ i =>
      simp only [List.getElem?_cons_succ, List.length_cons, List.take_succ_cons] at hm' ho' ⊢
      exact h7 i m' o' hm' ho'
  | .oc x l :: os', k :: os, p :: ps, ms, new, h, hl => by
    have hh : (B.obj (.oc x l)).bind (fun m => (B.objs O ps os').map fun r => (m :: r.1, r.2)) = some (ms, new) := h
    obtain ⟨q, h1, h2⟩ := Option.bind_eq_some_iff.1 hh
    obtain ⟨⟨a, b⟩, h3, h4⟩ := Option.map_eq_some_iff.1 h2
    cases h4
    obtain ⟨h5, h6, h7, h8⟩ := Bk.objs_ok (Li := Li) (hs0 := hs0) H (os := os) h3 (by simpa using hl)
    have hk : kafter Li Lo hs0 hs (k :: os) (.oc x l :: os') = (KO.oc x l).ob cx0 Lo hs :: kafter Li Lo hs0 hs os os' := rfl
    rw [hk]
    refine ⟨by simp [h5], by simp only [List.length_cons, h6]; omega, fun i m' o' hm' ho' => ?_, by simpa using h8⟩
    cases i with
    | zero =>
      simp only [List.getElem?_cons_zero, Option.some.injEq, List.length_cons, List.take_succ_cons] at hm' ho'
      subst hm'; subst ho'
      exact .inl (H.obj h1)
    | succ i =>
      simp only [List.getElem?_cons_succ, List.length_cons, List.take_succ_cons] at hm' ho' ⊢
      exact h7 i m' o' hm' ho'

theorem kafter_dead {Li Lo : Nat → Nat → Option Dyn} {hs0 hs : Nat → Hd} : ∀ {os' os : List KO}, DeadB (kmask os') (kafter Li Lo hs0 hs os os')
  | [], os => by cases os <;> trivial
  | .dead :: os', [] => ⟨rfl, kafter_dead (os := [])⟩
  | .dead :: os', _ :: os => ⟨rfl, kafter_dead (os := os)⟩
  | .same :: os', [] => kafter_dead (os' := os') (os := [])
  | .same :: os', _ :: os => kafter_dead (os' := os') (os := os)
  | .oa _ _ :: os', [] => kafter_dead (os' := os') (os := [])
  | .oa _ _ :: os', _ :: os => kafter_dead (os' := os') (os := os)
  | .oc _ _ :: os', [] => kafter_dead (os' := os') (os := [])
  | .oc _ _ :: os', _ :: os => kafter_dead (os' := os') (os := os)

/-- a contract, and that the function can be called -/
structure ConFn (P : Program) [PTab P] (f : FuncId) (C : Con) : Prop where
  call : ∀ args w, (callFunc f args).run P w = .ok (.enter f args) w
  ok : ConOk P f C

/-- what a call finds -/
structure Cf (C : Con) where
  M : Mt
  ps : List (Nat × Nat)
  a : Tup C.ins
def Con.find (P : Program) [PTab P] (C : Con) (n : Nat) (env : List (Nat × Ent)) (O : List MO) (ss : List Sh) : Option (Cf C) :=
  (mtVs P C.ins false 0 [] n env ⟨[], []⟩ C.ps ss).bind fun M0 => (mtOs P C.ins 0 [] n env O M0 C.os).bind fun M => (posOs M C.os).bind fun ps =>
    bif nodupN (ps.map (·.1)) && Nat.beq C.nh C.os.length then (M.tup P C.ins).map fun a => ⟨M, ps, a⟩ else none

/-- where object k stands, those that are new too -/
def posK (O : List MO) (M : Mt) (C : Con) (k : Nat) : Nat := match lkM M.om k with
  | some (o, _) => o
  | none => O.length + ((C.os'.drop C.os.length).findIdx fun o => match o.key with | some i => Nat.beq i k | none => false)

def sumRes (vs : List (Bool × List At)) : Sh := match vs with
  | [(g, l)] => .vl g l
  | vs => .tup vs
theorem sumRes_ok {c : Cx} {vs : List (Bool × List At)} {φs : List RP} (h : (vs.map fun x => vrp c x.1 x.2) = φs) {F : FP} {w : World} {v : Value} (hr : resH F w φs v) : ((sumRes vs).rp c).h F w v := by
  subst h
  unfold sumRes
  split
  · exact hr
  · rename_i h1
    match vs, h1, hr with
    | [], _, hr => exact hr
    | [(g, l)], h1, _ => exact (h1 g l rfl).elim
    | a :: b :: vs, _, hr => exact hr

def Con.bk (C : Con) (n : Nat) (O : List MO) (M : Mt) : Bk := ⟨0, [], n, C.wl, M.om, C.nh, C.nh', posK O M C⟩

def callE (P : Program) [PTab P] (C : Con) (n : Nat) (env : List (Nat × Ent)) (O : List MO) (X : Cf C) : Ask OpR :=
  .bind (C.m X.a) fun r => Ask.of (leafs P C.outs r C.wl) fun Ds => Ask.when (Ds.all fun D => D.t.one) (Ask.of ((C.bk n O X.M).vals C.rs) fun vs =>
    Ask.of ((C.bk n O X.M).objs O (X.ps.map (·.1)) C.os') fun ob => .ret ⟨sumRes vs, ents Ds, C.nh' - C.nh, (X.ps.map (·.1)).zip ob.1, ob.2⟩)

theorem callE_ok (hw : WF n env) {f : FuncId} {C : Con} (hC : ConFn P f C) {x : Operand} {args : List Operand} {cs : List Cap} {ats : Array TypeId} {ss : List Sh} {X : Cf C}
    (hx : opA G x = some (.fn f cs)) (hcs : cs.all (Cap.ok n) = true) (hss : opds G args = some ss) (hX : C.find P n env O (ss ++ cs.map capSh) = some X) :
    AskOk (OpOk P E N (.call ⟨.value x, args.toArray, ats⟩) ty n env G O) (callE P C n env O X) := by
  intro r hr
  refine AskOk.of fun Ds hDs => AskOk.when fun hone => AskOk.of fun vs hvs => AskOk.of fun ob hob => ?_
  obtain ⟨ms, new⟩ := ob
  obtain ⟨M0, h1, h2⟩ := Option.bind_eq_some_iff.1 hX
  obtain ⟨M, h3, h4⟩ := Option.bind_eq_some_iff.1 h2
  obtain ⟨ps, h5, h6⟩ := Option.bind_eq_some_iff.1 h4
  cases hb : nodupN (ps.map (·.1)) && Nat.beq C.nh C.os.length with
  | false => rw [hb] at h6; cases h6
  | true =>
  rw [hb] at h6
  simp only [cond_true, Option.map_eq_some_iff] at h6
  obtain ⟨a, ha, rfl⟩ := h6
  simp only [Bool.and_eq_true] at hb
  have hnd := hb.1
  obtain ⟨l1, l2⟩ := leafs_get hDs
  have hsrc : ∀ e ∈ ents Ds, SrcOk env e := ents_src
  have hlen : (ents Ds).length = C.wl.length := by simp [ents, l1]
  refine ⟨hsrc, (fun h => by cases h), fun η => ?_⟩
  obtain ⟨m1, m2⟩ := mtVs_ok (c0 := cx0) h1
  obtain ⟨m3, m4⟩ := mtOs_ok (c0 := cx0) h3
  obtain ⟨m5, m6, m7⟩ := m4 h5
  have hsay := M.say ha η
  have hsay0 := hsay.le m3
  have hargs := argsOk (E := E) (N := N) (c := ⟨n, env, η⟩) (Ω := oma ⟨n, env, η⟩ O) hss hcs (m2 (cx0_ext _) hsay0).1
  have hat := m7 (cx0_ext _) hsay
  have hpsl : (ps.map (·.1)).length = C.os.length := by simp [m5]
  have hlt : ∀ j ∈ ps.map (·.1), j < (oma ⟨n, env, η⟩ O).length := fun j hj => by
    obtain ⟨p, hp, rfl⟩ := List.mem_map.1 hj
    simpa [oma] using (m6 p hp).1
  -- the objects that are handed on
  have hobjs : ∀ (ps : List (Nat × Nat)) (os : List KO), ps.length = os.length → nodupN (ps.map (·.1)) = true → (∀ (i : Nat) (p : Nat × Nat) (o : KO), ps[i]? = some p → os[i]? = some o → (oma ⟨n, env, η⟩ O)[p.1]? = some (o.ob cx0 (leaf P C.ins a) (M.hs η))) →
      ObjsAt (oma ⟨n, env, η⟩ O) (ps.map (·.1)) (os.map (KO.ob cx0 (leaf P C.ins a) (M.hs η))) := by
    intro ps
    induction ps with
    | nil => intro os hl _ _; cases os with
      | nil => trivial
      | cons _ _ => simp at hl
    | cons p ps ih =>
      intro os hl hn h
      cases os with
      | nil => simp at hl
      | cons o os =>
        simp only [List.map_cons, nodupN, Bool.and_eq_true, Bool.not_eq_true'] at hn
        exact ⟨h 0 p o rfl rfl, hn.1, ih os (by simpa using hl) hn.2 fun i p' o' hp' ho' => h (i + 1) p' o' (by simpa using hp') (by simpa using ho')⟩
  -- handles behind the call
  let ηx : (Nat → Hd) → Nat → Hd := fun hs' y => bif Nat.blt y (n + C.wl.length) then η y else hs' (C.nh + (y - (n + C.wl.length)))
  have hηx : ∀ hs' y, y < n → ηx hs' y = η y := fun hs' y hy => by
    have : Nat.blt y (n + C.wl.length) = true := by simp only [Nat.blt_eq]; omega
    simp only [ηx, this, cond_true]
  let R : OpR := ⟨sumRes vs, ents Ds, C.nh' - C.nh, (ps.map (·.1)).zip ms, new⟩
  have hext : ∀ hs', Ext ⟨n, env, η⟩ (R.cx' n env (ηx hs')) := fun hs' => OpOk.ext hw (r := R) hsrc ⟨ηx hs', hηx hs'⟩
  have hbk : ∀ x : Agr C.nh (M.hs η), BkSay (C.bk n O M) (leaf P C.outs r) x.1 cx0 (R.cx' n env (ηx x.1)) := fun x => by
    refine ⟨rfl, rfl, cx0_ext _, fun j q i hi => ?_, fun k y hy => ?_⟩
    · obtain ⟨_, h8⟩ := ixW_get hi
      rw [Nat.sub_zero] at h8
      obtain ⟨D, h9, h10⟩ := l2 h8
      refine ⟨D, ?_, h10, List.all_eq_true.1 hone D (List.mem_of_getElem? h9)⟩
      exact lkE_keyed (es := ents Ds) (by simp [ents, h9])
    · unfold Bk.hid at hy
      cases hk : Nat.blt k (C.bk n O M).nh with
      | true =>
        rw [hk] at hy
        simp only [cond_true] at hy
        split at hy
        · rename_i x0 o y' hl
          cases hyn : Nat.blt y' (C.bk n O M).n with
          | false => rw [hyn] at hy; cases hy
          | true =>
            rw [hyn] at hy
            simp only [cond_true, Option.some.injEq] at hy
            subst hy
            have hyn' : Nat.blt y' n = true := hyn
            have hkn : k < C.nh := by simpa [Nat.blt_eq] using (show Nat.blt k C.nh = true from hk)
            have hl' : lkM M.om k = some (o, y') := hl
            refine ⟨?_, blt_mono hyn' (by simp only [OpR.cx', OpR.n']; omega)⟩
            rw [x.2 k hkn]
            simp only [OpR.cx']
            rw [hηx _ _ (by simpa [Nat.blt_eq] using hyn')]
            simp only [Mt.hs, hl']
        · cases hy
      | false =>
        rw [hk] at hy
        simp only [cond_false] at hy
        cases hk2 : Nat.blt k (C.bk n O M).nh' with
        | false => rw [hk2] at hy; cases hy
        | true =>
          rw [hk2] at hy
          simp only [cond_true, Option.some.injEq] at hy
          have hy' : n + C.wl.length + (k - C.nh) = y := hy
          have e1 : ¬ k < C.nh := fun h => by
            have : Nat.blt k C.nh = true := by simpa [Nat.blt_eq] using h
            have hk' : Nat.blt k C.nh = false := hk
            rw [this] at hk'; cases hk'
          have e2 : k < C.nh' := by simpa [Nat.blt_eq] using (show Nat.blt k C.nh' = true from hk2)
          subst hy'
          refine ⟨?_, ?_⟩
          · have : Nat.blt (n + C.wl.length + (k - C.nh)) (n + C.wl.length) = false := by
              cases hh : Nat.blt (n + C.wl.length + (k - C.nh)) (n + C.wl.length) with
              | false => rfl
              | true => simp only [Nat.blt_eq] at hh; omega
            have e3 : C.nh + (n + C.wl.length + (k - C.nh) - (n + C.wl.length)) = k := by omega
            simp only [OpR.cx', ηx, this, cond_false]
            rw [e3]
          · show Nat.blt (n + C.wl.length + (k - C.nh)) (n + (ents Ds).length + (C.nh' - C.nh)) = true
            rw [hlen]; simp only [Nat.blt_eq]; omega
  -- the call
  have hfn := (hC.ok a r hr (M.hs η)).undead (Ω2 := fun x => C.Ω2 (P := P) a r (M.hs η) x.1) (fun x => ?dd1) (fun x => ?dd2)
  case dd1 => exact keepB_ow kafter_dead
  case dd2 => exact keepB_mem kafter_dead
  have hxf : lkO (gma ⟨n, env, η⟩ G) x = some (pv (.func (.func f) #[] (cs.map (Cap.val η)).toArray)) := by
    rw [opA_rp (c := ⟨n, env, η⟩) hx]
    simp only [At.rp]
    rw [hcs]; rfl
  have hln : ∀ x : Agr C.nh (M.hs η), (ps.map (·.1)).length = ((C.Ω2 (P := P) a r (M.hs η) x.1).take (ps.map (·.1)).length).length := fun x => by
    obtain ⟨k1, k2, _, _⟩ := Bk.objs_ok (Li := leaf P C.ins a) (hs0 := M.hs η) (hbk x) (os := C.os) hob hpsl
    have k1' : ms.length = (ps.map (·.1)).length := k1
    rw [List.length_take, Con.Ω2, k2]; omega
  have hobj := hobjs ps C.os m5 hnd hat
  have hst := s_callI (X := Agr C.nh (M.hs η)) (E := E) (N := N) (ty := ty) (ats := ats) (Γ := gma ⟨n, env, η⟩ G) (Ω := oma ⟨n, env, η⟩ O) (js := ps.map (·.1)) (os := fun x => (C.Ω2 (P := P) a r (M.hs η) x.1).take (ps.map (·.1)).length) (ex := fun x => (C.Ω2 (P := P) a r (M.hs η) x.1).drop (ps.map (·.1)).length)
    (caps := cs.map (Cap.val η)) (ψ := fun x => R.val.rp (R.cx' n env (ηx x.1))) hC.call hxf hfn hobj (fun x => (List.take_append_drop _ _).symm) hln hargs (fun x F w v hv => sumRes_ok ((hbk x).vals hvs) hv)
  have hjs : ∀ (x : Agr C.nh (M.hs η)), ((ps.map (·.1)).zip ms).map (·.1) = ps.map (·.1) := fun x => by
    obtain ⟨k1, _, _, _⟩ := Bk.objs_ok (Li := leaf P C.ins a) (hs0 := M.hs η) (hbk x) (os := C.os) hob hpsl
    have k1' : ms.length = (ps.map (·.1)).length := k1
    rw [List.map_fst_zip (by omega)]
  have hjs := hjs ⟨M.hs η, fun _ _ => rfl⟩
  show St P E N _ ty _ _ (((ps.map (·.1)).zip ms).map (·.1)) _ _
  rw [hjs]
  refine hst.to' fun x aa w hsat => ⟨⟨ηx x.1, hηx x.1⟩, ?_, rfl⟩
  obtain ⟨k1, k2, k3, k4⟩ := Bk.objs_ok (Li := leaf P C.ins a) (hs0 := M.hs η) (hbk x) (os := C.os) hob hpsl
  refine oma_setAll (hext x.1) hnd (fun j hj => by simpa [oma] using hlt j hj) k1.symm (hln x) (fun i m o hm ho => ?_) k4 hsat
  rcases k3 i m o hm ho with h | ⟨p, q, k, hp, hq, rfl, hk, rfl⟩
  · exact h
  · obtain ⟨pp, hpp, rfl⟩ : ∃ pp, ps[i]? = some pp ∧ pp.1 = p := by
      rw [List.getElem?_map] at hp
      obtain ⟨pp, h1, h2⟩ := Option.map_eq_some_iff.1 hp
      exact ⟨pp, h1, h2⟩
    have e1 := hat i pp k hpp hk
    have e2 : (oma ⟨n, env, η⟩ O)[pp.1]? = some (m.ob ⟨n, env, η⟩) := by simp [oma, hq]
    rw [e2] at e1
    have e3 : m.ob ⟨n, env, η⟩ = k.ob cx0 (leaf P C.ins a) (M.hs η) := Option.some.inj e1
    have hin := List.mem_of_getElem? (setAll_self (Ω := oma ⟨n, env, η⟩ O) hp ho (nodupN_drop hnd hp) (hlt _ (List.mem_of_getElem? hp)))
    have hin := List.mem_append_left ((C.Ω2 (P := P) a r (M.hs η) x.1).drop (ps.map (·.1)).length) hin
    rw [← e3] at hin ⊢
    exact MO.ob_eq (hext x.1) (hsat.ob _ hin)
end Go.Dc
