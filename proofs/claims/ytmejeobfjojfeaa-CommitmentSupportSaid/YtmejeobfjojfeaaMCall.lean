/- Part M.Call of a proof: lemmas. -/
import Derived.Test.YtmejeobfjojfeaaMMem2
import Derived.Test.YtmejeobfjojfeaaDcDrawI
set_option linter.unusedSectionVars false
set_option linter.unusedVariables false
set_option linter.unusedSimpArgs false
namespace Go.Dc
variable [DrawMode] {R : Type} {P : Program} [PTab P] {E : Env} {N : Nat} {K : KT R} {m : Option R} {op : Op} {ty : TypeId} {n : Nat} {env : List (Nat × Ent)} {G : List (Nat × Sh)} {O : List MO}

def askIx {α : Type} (ix : Int) (k : Nat → Ask α) : Nat → Nat → Ask α
 | _, 0 => .fail
 | i, m + 1 => .cond (ix == (i : Int)) (k i) (askIx ix k (i + 1) m)
theorem askIx_ok {α : Type} {Q : α → Prop} {ix : Int} {k : Nat → Ask α} {len : Nat} (h : ∀ i, i < len → ix = (i : Int) → AskOk Q (k i)) : ∀ {m i : Nat}, i + m = len → AskOk Q (askIx ix k i m)
 | 0, _, _ => trivial
 | m + 1, i, e => ⟨fun hb => h i (by omega) (eq_of_beq hb), fun _ => askIx_ok h (m := m) (by omega)⟩

def vsidxM (c : Nat) (d : List Int) (l ix : Int) : Option Int := if d.length = c then idxM (d.take l.toNat) ix else none
theorem vsidxM_some {c : Nat} {d : List Int} {l ix y : Int} (h : vsidxM c d l ix = some y) : d.length = c ∧ idxM d ix = some y ∧ 0 ≤ ix ∧ ix < (l.toNat : Int) ∧ ix < (c : Int) := by
 unfold vsidxM at h
 split at h
 ·rename_i hl
  obtain ⟨h0, h1, hi, hd⟩ := idxM_some h
  rw [List.length_take] at h1 hi
  rw [List.getElem_take] at hd
  refine ⟨hl, ?_, h0, by omega, by omega⟩
  unfold idxM
  rw [if_pos h0, List.getElem?_eq_getElem (by omega), hd]
 ·cases h
def entI : Ent → Option Int
 | ⟨.int .i64, l, _⟩ => some l
 | _ => none
theorem entI_eq {e : Ent} {l : Int} (h : entI e = some l) : ∃ s, e = ⟨.int .i64, l, s⟩ := by
 unfold entI at h
 split at h
 ·cases h; exact ⟨_, rfl⟩
 ·cases h
theorem r_vsindex {t e : TypeId} {α : Type} {ρ : Rep α} {bytes : Nat} {x i : Operand} {Γ : List (Nat × RP)} {Ω : List OB} {b off l c : Nat} {k : IntKind} {m : Int} (h0 : 0 ≤ m) (h1 : m < (l : Int)) (hu : P.underlying t = some (.slice e)) (h : ElT P e ρ bytes) (hs : ρ.size = 1)
  (hx : lkO Γ x = some (pv (.slice (some ⟨b, off, none⟩) l c))) (hi : lkO Γ i = some (iv k m)) : Rd P E N (.indexAddr t x i) ty Γ Ω [] (pv (Dc.ptr b (off + m.toNat))) := .mk fun a w hs' => by
 have hv' : a.eval x = .slice (some ⟨b, off, none⟩) l c := hs'.op hx
 have h2 : a.eval i = .int k m := hs'.op hi
 refine ⟨_, rfl, fun w' o ho _ => ?_⟩
 simp [execOp, ho, hv', h2, run_index hu h h0 h1, hs, Dc.ptr]

def idxE (P : Program) [PTab P] (n : Nat) (env : List (Nat × Ent)) (G : List (Nat × Sh)) (O : List MO) (t : TypeId) (x i : Operand) : Ask OpR :=
 Ask.of (opI env G i) fun ix => match P.underlying t with
 | some (.slice e) => Ask.of (elT P e) fun c => Ask.of (opA G x) fun a => match a with
  | .own o h => Ask.of (ownA n env O o h) fun q => if hc : c.1 = q.2.1 then .bind (idxM q.2.2 ix.2) fun y => .ret ⟨.vl false [.oea o h n], [⟨q.2.1, y, some (.el q.1 ix.2)⟩], 0, [], []⟩ else .fail
  | .vs o h off i cp => Ask.of (runA n env O o h off cp) fun v => Ask.of ((lkE env i).bind entI) fun l => Ask.when (Nat.beq c.1.rep.size 1) (.bind (vsidxM cp v.2.2 l ix.2) fun y => .ret ⟨.vl false [.oea o h n], [⟨.int v.2.1, y, some (.vf v.1 ix.2 off cp)⟩], 0, [], []⟩)
  | _ => Ask.of (opL env G x) fun l => if hc : c.1 = l.1 then .bind (idxM l.2 ix.2) fun y => .ret ⟨.vl false [.ea n], [⟨l.1, y, none⟩], 0, [], []⟩ else .fail
 | some (.array len e) => Ask.of (sizeT P e) fun sz => Ask.of (opA G x) fun a => match a with
  | .ptr o h off => match vecA n env O o h with
   | some v => Ask.when (Nat.beq off 0 && Nat.beq sz 1) (.bind (vidxM len v.2.2 ix.2) fun y => .ret ⟨.vl false [.oea o h n], [⟨.int v.2.1, y, some (.ve v.1 ix.2)⟩], 0, [], []⟩)
   | none => match runA n env O o h off len with
   | some v => Ask.when (Nat.beq sz 1) (.bind (vidxM len v.2.2 ix.2) fun y => .ret ⟨.vl false [.oea o h n], [⟨.int v.2.1, y, some (.vf v.1 ix.2 off len)⟩], 0, [], []⟩)
   | none => Ask.when (Nat.blt h n) (bif opLit G i then (if 0 ≤ ix.2 ∧ ix.2 < len then .ret (resS (.vl false [.ptr o h (off + ix.2.toNat * sz)])) else .fail)
   else Ask.when (Nat.ble len 8) (askIx ix.2 (fun j => .ret (resS (.vl false [.ptr o h (off + j * sz)]))) 0 len))
  | _ => .fail
 | _ => .fail
theorem idxE_ok (hw : WF n env) {t : TypeId} {x i : Operand} : AskOk (OpOk P E N (.indexAddr t x i) ty n env G O) (idxE P n env G O t x i) :=
 AskOk.of fun ix hix => by
  have hi := fun η => opI_rp (n := n) (η := η) hix
  split
  ·rename_i e hu
   refine AskOk.of fun c hc => AskOk.of fun a ha => ?_
   have hx := fun η => opA_rp (c := ⟨n, env, η⟩) ha
   split
   ·rename_i o h
    refine AskOk.of fun q hq => ?_
    split
    ·rename_i hct
     obtain ⟨i0, t', l⟩ := q
     obtain ⟨c1, c2⟩ := c
     simp only at hct
     subst hct
     obtain ⟨hb, hlt, ⟨s, he⟩, hj⟩ := ownA_ok hq
     intro y hy
     refine OpOk.rd' hw (fun e' he' => ?_) fun η => ?_
     ·rw [List.mem_singleton.1 he']; exact ⟨l, s, he, hy⟩
     ·have h1 := hx η
      rw [own_rp (c := ⟨n, env, η⟩) hb] at h1
      have h2 := r_oindex (E := E) (N := N) (ty := ty) hy hu (elT_ok hc) h1 (hj η) (hi η)
      simp only [Sh.rp, vrp, cond_false, List.map_cons, List.headD_cons, At.rp, keyed, lkE_cons, if_true]
      rw [blt_mono hb (show n ≤ n + [(⟨c1, y, some (.el i0 ix.2)⟩ : Ent)].length from by omega)]
      exact h2
    ·trivial
   ·rename_i o h off j cp
    refine AskOk.of fun v hv => AskOk.of fun l hl => AskOk.when fun hsz => ?_
    obtain ⟨ds, k, d⟩ := v
    obtain ⟨hb, hlt, ⟨s, he⟩, lc, hvar, hrun, hj⟩ := runA_ok hv
    obtain ⟨ej, hej, hl⟩ := Option.bind_eq_some_iff.1 hl
    obtain ⟨sj, rfl⟩ := entI_eq hl
    intro y hy
    obtain ⟨q1, q2, q3, q4, q5⟩ := vsidxM_some hy
    refine OpOk.rd' hw (fun e' he' => ?_) fun η => ?_
    ·rw [List.mem_singleton.1 he']; exact ⟨k, d, s, y, he, q2, q5, rfl⟩
    ·have h1 := hx η
     simp only [At.rp, hej, hb, cond_true] at h1
     have h2 := r_vsindex (E := E) (N := N) (Ω := oma ⟨n, env, η⟩ O) (ty := ty) q3 q4 hu (elT_ok hc) (Nat.eq_of_beq_eq_true hsz) h1 (hi η)
     simp only [Sh.rp, vrp, cond_false, List.map_cons, List.headD_cons, At.rp, keyed, lkE_cons, if_true]
     rw [blt_mono hb (show n ≤ n + [(⟨.int k, y, some (.vf ds ix.2 off cp)⟩ : Ent)].length from by omega)]
     exact h2
   ·refine AskOk.of fun l hl => ?_
    split
    ·rename_i hct
     obtain ⟨t', l⟩ := l
     obtain ⟨c1, c2⟩ := c
     simp only at hct
     subst hct
     intro y hy
     refine OpOk.rd' hw (fun e' he' => by rw [List.mem_singleton.1 he']; exact .none rfl) fun η => ?_
     have h2 := r_index (E := E) (N := N) (Ω := oma ⟨n, env, η⟩ O) (ty := ty) hy hu (elT_ok hc) (opL_rp (n := n) (η := η) hl) (hi η)
     simp only [Sh.rp, vrp, cond_false, List.map_cons, List.headD_cons, At.rp, keyed, lkE_cons, if_true]
     exact h2
    ·trivial
  ·rename_i len e hu
   refine AskOk.of fun sz hsz => AskOk.of fun a ha => ?_
   have hx := fun η => opA_rp (c := ⟨n, env, η⟩) ha
   split
   ·rename_i o h off
    split
    ·rename_i v hv
     obtain ⟨di, k, d⟩ := v
     obtain ⟨hb, hlt, ⟨s, he⟩, hj⟩ := vecA_ok hv
     refine AskOk.when fun h0 => ?_
     simp only [Bool.and_eq_true] at h0
     obtain rfl := Nat.eq_of_beq_eq_true h0.1
     obtain rfl := Nat.eq_of_beq_eq_true h0.2
     intro y hy
     have hid := vidx_idx hy
     have hdl := vidx_len hy
     obtain ⟨q1, q2, _, _⟩ := idxM_some hid
     refine OpOk.rd' hw (fun e' he' => ?_) fun η => ?_
     ·rw [List.mem_singleton.1 he']; exact ⟨k, d, s, y, he, hid, rfl⟩
     ·have h1 := hx η
      rw [ptr_rp (c := ⟨n, env, η⟩) hb] at h1
      have h2 := r_aaddr (E := E) (N := N) (Ω := oma ⟨n, env, η⟩ O) (ty := ty) (show 0 ≤ ix.2 ∧ ix.2 < (len : Int) by omega) hu (sizeT_ok hsz) h1 (hi η)
      simp only [Sh.rp, vrp, cond_false, List.map_cons, List.headD_cons, At.rp, keyed, lkE_cons, if_true]
      rw [blt_mono hb (show n ≤ n + [(⟨.int k, y, some (.ve di ix.2)⟩ : Ent)].length from by omega)]
      rw [Nat.mul_one] at h2
      exact h2
    split
    ·rename_i v hv
     obtain ⟨di, k, d⟩ := v
     obtain ⟨hb, hlt, ⟨s, he⟩, lc, hvar, hrun, hj⟩ := runA_ok hv
     refine AskOk.when fun h0 => ?_
     obtain rfl := Nat.eq_of_beq_eq_true h0
     intro y hy
     have hid := vidx_idx hy
     have hdl := vidx_len hy
     obtain ⟨q1, q2, _, _⟩ := idxM_some hid
     refine OpOk.rd' hw (fun e' he' => ?_) fun η => ?_
     ·rw [List.mem_singleton.1 he']; exact ⟨k, d, s, y, he, hid, by omega, rfl⟩
     ·have h1 := hx η
      rw [ptr_rp (c := ⟨n, env, η⟩) hb] at h1
      have h2 := r_aaddr (E := E) (N := N) (Ω := oma ⟨n, env, η⟩ O) (ty := ty) (show 0 ≤ ix.2 ∧ ix.2 < (len : Int) by omega) hu (sizeT_ok hsz) h1 (hi η)
      simp only [Sh.rp, vrp, cond_false, List.map_cons, List.headD_cons, At.rp, keyed, lkE_cons, if_true]
      rw [blt_mono hb (show n ≤ n + [(⟨.int k, y, some (.vf di ix.2 off len)⟩ : Ent)].length from by omega)]
      rw [Nat.mul_one] at h2
      exact h2
    refine AskOk.when fun hb => ?_
    cases hlit : opLit G i with
    | true =>
     simp only [cond_true]
     split
     ·rename_i hr
      refine OpOk.same hw fun η => ?_
      have h1 := hx η
      rw [ptr_rp (c := ⟨n, env, η⟩) hb] at h1
      have h2 := r_aaddr (E := E) (N := N) (Ω := oma ⟨n, env, η⟩ O) (ty := ty) hr hu (sizeT_ok hsz) h1 (hi η)
      show Rd _ _ _ _ _ _ _ _ ((At.ptr o h (off + ix.2.toNat * sz)).rp ⟨n, env, η⟩)
      rw [ptr_rp (c := ⟨n, env, η⟩) hb]
      exact h2
     ·trivial
    | false =>
     simp only [cond_false]
     refine AskOk.when fun _ => askIx_ok (len := len) (fun j hj hij => ?_) (by omega)
     refine OpOk.same hw fun η => ?_
     have h1 := hx η
     rw [ptr_rp (c := ⟨n, env, η⟩) hb] at h1
     have h2 := r_aaddr (E := E) (N := N) (Ω := oma ⟨n, env, η⟩ O) (ty := ty) (show 0 ≤ ix.2 ∧ ix.2 < (len : Int) by omega) hu (sizeT_ok hsz) h1 (hi η)
     show Rd _ _ _ _ _ _ _ _ ((At.ptr o h (off + j * sz)).rp ⟨n, env, η⟩)
     rw [ptr_rp (c := ⟨n, env, η⟩) hb]
     have e : ix.2.toNat = j := by omega
     rw [e] at h2
     exact h2
   ·trivial
  ·trivial

def pjs (i : Nat) : Nat → Nat → List At
 | _, 0 => []
 | j, m + 1 => .pj i j :: pjs i (j + 1) m
theorem pjs_len {i : Nat} : ∀ {m j : Nat}, (pjs i j m).length = m
 | 0, _ => rfl
 | m + 1, j => by simp [pjs, pjs_len]
theorem pjs_get {i : Nat} : ∀ {m j q : Nat}, q < m → (pjs i j m)[q]? = some (.pj i (j + q))
 | 0, _, q, h => by omega
 | m + 1, j, 0, h => rfl
 | m + 1, j, q + 1, h => by
  simp only [pjs, List.getElem?_cons_succ]
  rw [pjs_get (by omega), show j + 1 + q = j + (q + 1) from by omega]
theorem OpOk.setR (hw : WF n env) {kd : IntKind} {d : List Int} {s : Option Src} {l : List At} {j k off len ds ix : Nat} {u : Int} {X : Type} [Inhabited X] (hk : Nat.blt k n = true) (he : lkE env ds = some ⟨.vec kd, d, s⟩)
  (hrun : ∀ q, q < len → l[off + q]? = some (.pj ds q)) (hil : ix < len) (hid : ix < d.length)
  (h : ∀ η, St P E N op ty (gma ⟨n, env, η⟩ G) (oma ⟨n, env, η⟩ O) [j] (fun _ : X => pv Go.undef) (fun _ => (oma ⟨n, env, η⟩ O).set j (oc (η k).b ((l.map (At.rp ⟨n, env, η⟩)).take (off + ix) ++ [iv kd u] ++ (l.map (At.rp ⟨n, env, η⟩)).drop (off + ix + 1))))) :
  OpOk P E N op ty n env G O ⟨.undef, [⟨.vec kd, d.set ix u, none⟩], 0, [(j, .oc k (l.take off ++ pjs n 0 len ++ l.drop (off + len)))], []⟩ := by
 have hsrc : ∀ e ∈ [(⟨.vec kd, d.set ix u, none⟩ : Ent)], SrcOk env e := fun e he => by rw [List.mem_singleton.1 he]; exact .none rfl
 refine ⟨hsrc, (fun _ h => by cases h), fun η => ?_⟩
 have h := h η
 refine h.to' fun x a w hs => ?_
 have hx := OpOk.ext hw (r := ⟨.undef, [⟨.vec kd, d.set ix u, none⟩], 0, [(j, .oc k (l.take off ++ pjs n 0 len ++ l.drop (off + len)))], []⟩) hsrc ⟨η, fun _ _ => rfl⟩
 refine ⟨⟨η, fun _ _ => rfl⟩, ?_, rfl⟩
 simp only [OpR.O', updO, List.append_nil]
 by_cases hjl : j < O.length
 ·refine oma_set hx ?_ hs
  obtain ⟨cells, ty', _, hl⟩ := hs.mem_ob (o := oc (η k).b ((l.map (At.rp ⟨n, env, η⟩)).take (off + ix) ++ [iv kd u] ++ (l.map (At.rp ⟨n, env, η⟩)).drop (off + ix + 1))) (List.mem_iff_getElem?.2 ⟨j, by rw [List.getElem?_set_self (by simpa [oma] using hjl)]⟩)
  have hb' := blt_mono hk (show n ≤ n + [(⟨.vec kd, d.set ix u, none⟩ : Ent)].length + 0 from by omega)
  simp only [MO.ob, OpR.cx', OpR.n', OpR.env', hb', cond_true]
  congr 1
  have hlen := (List.getElem?_eq_some_iff.1 (hrun (len - 1) (by omega))).1
  have hnew : ∀ q, (l.take off ++ pjs n 0 len ++ l.drop (off + len))[q]? = if q < off then l[q]? else if q < off + len then some (.pj n (q - off)) else l[q]? := fun q => by
   rw [List.append_assoc, List.getElem?_append]
   rw [List.length_take, Nat.min_eq_left (by omega)]
   split
   ·rename_i h1; rw [List.getElem?_take_of_lt h1]
   ·rename_i h1
    rw [List.getElem?_append, pjs_len]
    split
    ·rename_i h2; rw [if_pos (by omega), pjs_get h2, Nat.zero_add]
    ·rename_i h2; rw [if_neg (by omega), List.getElem?_drop]; congr 1; omega
  have hold : ∀ q, ((l.map (At.rp ⟨n, env, η⟩)).take (off + ix) ++ [iv kd u] ++ (l.map (At.rp ⟨n, env, η⟩)).drop (off + ix + 1))[q]? = if q = off + ix then some (iv kd u) else (l[q]?).map (At.rp ⟨n, env, η⟩) := fun q => by
   rw [List.append_assoc, List.getElem?_append, List.length_take, List.length_map, Nat.min_eq_left (by omega)]
   split
   ·rename_i h1; rw [List.getElem?_take_of_lt h1, List.getElem?_map, if_neg (by omega)]
   ·rename_i h1
    rw [List.getElem?_append]
    split
    ·rename_i h2; simp only [List.length_singleton] at h2; rw [if_pos (by omega), show q - (off + ix) = 0 from by omega]; rfl
    ·rename_i h2; simp only [List.length_singleton] at h2 ⊢; rw [if_neg (by omega), List.getElem?_drop, List.getElem?_map]; congr 2; omega
  refine List.ext_getElem? fun q => ?_
  rw [List.getElem?_map, hnew, hold]
  have keep : ∀ b : At, q ≠ off + ix → l[q]? = some b → (l[q]?).map (At.rp ⟨n + [(⟨.vec kd, d.set ix u, none⟩ : Ent)].length + 0, keyed n [⟨.vec kd, d.set ix u, none⟩] env, η⟩) = (l[q]?).map (At.rp ⟨n, env, η⟩) := fun b hq hb => by
   rw [hb]
   obtain ⟨v, _, hv⟩ := hl.get (i := q) (φ := At.rp ⟨n, env, η⟩ b) (by rw [hold, if_neg hq, hb]; rfl)
   rw [Option.map_some, Option.map_some]
   exact congrArg some (At.rp_eq hx hv)
  by_cases h1 : q < off
  ·rw [if_pos h1, if_neg (by omega)]
   cases hb : l[q]? with
   | none => rfl
   | some b => rw [← hb]; exact keep b (by omega) hb
  ·rw [if_neg h1]
   by_cases h2 : q < off + len
   ·rw [if_pos h2, Option.map_some]
    have henew : lkE (keyed n [(⟨.vec kd, d.set ix u, none⟩ : Ent)] env) n = some ⟨.vec kd, d.set ix u, none⟩ := by simp only [keyed, lkE_cons, if_true]
    by_cases h3 : q = off + ix
    ·rw [if_pos h3]
     refine congrArg some (pj_rp henew ?_)
     rw [h3, show off + ix - off = ix from by omega, List.getElem?_set_self hid]
    ·rw [if_neg h3]
     have h4 := hrun (q - off) (by omega)
     rw [show off + (q - off) = q from by omega] at h4
     obtain ⟨v, _, hv⟩ := hl.get (i := q) (φ := At.rp ⟨n, env, η⟩ (.pj ds (q - off))) (by rw [hold, if_neg h3, h4]; rfl)
     rw [h4, Option.map_some]
     cases hd : d[q - off]? with
     | none => simp only [At.rp, he, pjG, hd] at hv; exact hv.elim
     | some y =>
      rw [pj_rp (c := ⟨n, env, η⟩) he hd]
      refine congrArg some (pj_rp henew ?_)
      rw [List.getElem?_set_ne (by omega), hd]
   ·rw [if_neg h2, if_neg (by omega)]
    cases hb : l[q]? with
    | none => rfl
    | some b => rw [← hb]; exact keep b (by omega) hb
 ·have e : ∀ mo : MO, O.set j mo = O := fun mo => List.set_eq_of_length_le (by omega)
  have e2 : ∀ ob : OB, (oma ⟨n, env, η⟩ O).set j ob = oma ⟨n, env, η⟩ O := fun ob => List.set_eq_of_length_le (by simp [oma]; omega)
  rw [e, e2]
  rw [e2] at hs
  exact oma_good hx hs

def putD (P : Program) [PTab P] (k : Nat) (d : SDen.den k) (fo : Nat) (Ds : List Dyn) : Option (SDen.den k) :=
 PTab.join (P := P) k ((PTab.split (P := P) k d).take fo ++ Ds ++ (PTab.split (P := P) k d).drop (fo + Ds.length))

def storeE (P : Program) [PTab P] (n : Nat) (env : List (Nat × Ent)) (G : List (Nat × Sh)) (O : List MO) (t : TypeId) (x y : Operand) : Ask OpR :=
 Ask.of (sizeT P t) fun k => Ask.of (opA G x) fun a => match a with
  | .ptr o h off => Ask.of (varC n O o h) fun l => Ask.of (opC G y) fun cs => Ask.when (Nat.beq cs.length k && Nat.ble (off + k) l.length)
    (.ret ⟨.undef, [], 0, [(o, .oc h (l.take off ++ cs ++ l.drop (off + k)))], []⟩)
  | .oea o h z => match vecE n env O o h z with
   | some v => Ask.when (Nat.beq k 1) (Ask.of (opT P env G (.int v.1) y) fun u => .ret ⟨.undef, [⟨.vec v.1, List.set v.2.2.2 v.2.2.1.toNat u, none⟩], 0, [(o, .oa h n)], []⟩)
   | none => match runE n env O o h z with
   | some v => Ask.when (Nat.beq k 1) (Ask.of (opT P env G (.int v.1) y) fun u => Ask.of (varC n O o h) fun l =>
    .ret ⟨.undef, [⟨.vec v.1, List.set v.2.2.2.2.2 v.2.2.1.toNat u, none⟩], 0, [(o, .oc h (l.take v.2.2.2.1 ++ pjs n 0 v.2.2.2.2.1 ++ l.drop (v.2.2.2.1 + v.2.2.2.2.1)))], []⟩)
   | none => Ask.of (ownE n env O o h z) fun q => Ask.of (elT P t) fun c => if c.1 = q.1.t ∧ q.2.2.1 = q.1.t then
    Ask.of (opT P env G q.2.2.1 y) fun u => .ret ⟨.undef, [⟨.sl q.2.2.1, q.2.2.2.set q.2.1.toNat u, none⟩], 0, [(o, .oa h n)], []⟩ else .fail
  | .oef o h z => Ask.of (lkE env z) fun ez => match ez.src with
   | some (.fl ye fo) => Ask.of (ownE n env O o h ye) fun q => Ask.of (opC G y) fun cs => match q with
    | ⟨⟨.st k', d, s⟩, ix, ⟨.st k2, l⟩⟩ => if hk : k2 = k' then
     Ask.of (atsD env (((PTab.split (P := P) k' d).drop fo).map (·.t) |>.take cs.length) cs) fun Ds => Ask.when (Nat.beq Ds.length k && Nat.ble (fo + Ds.length) (SRep.rep k').size)
      (Ask.of (putD P k' d fo Ds) fun u => .ret ⟨.undef, [⟨.sl (.st k2), l.set ix.toNat (hk ▸ u), none⟩], 0, [(o, .oa h n)], []⟩) else .fail
    | _ => .fail
   | _ => .fail
  | _ => .fail
theorem storeE_ok (hw : WF n env) {t : TypeId} {x y : Operand} : AskOk (OpOk P E N (.store t x y) ty n env G O) (storeE P n env G O t x y) :=
  AskOk.of fun k hk => AskOk.of fun a ha => by
    have hx := fun η => opA_rp (c := ⟨n, env, η⟩) ha
    split
    · rename_i o h off
      refine AskOk.of fun l hl => AskOk.of fun cs hcs => AskOk.when fun hb => ?_
      obtain ⟨hbl, hlt, hj⟩ := varC_ok (env := env) hl
      simp only [Bool.and_eq_true] at hb
      refine OpOk.setC hw (X := Unit) hlt hbl fun η => ?_
      have h1 := hx η
      rw [ptr_rp (c := ⟨n, env, η⟩) hbl] at h1
      exact s_cstore (E := E) (N := N) (ty := ty) (sizeT_ok hk) h1 (hj η) (opC_part hcs) (by simpa using hb.1) (by simpa using hb.2) (by simp)
    · rename_i o h z
      split
      · rename_i v hv
        obtain ⟨ki, zz, ix, d⟩ := v
        obtain ⟨⟨ds, he⟩, hi, hbl, hlt, hj⟩ := vecE_ok hw hv
        refine AskOk.when fun hk1 => AskOk.of fun u hu => ?_
        obtain rfl := Nat.eq_of_beq_eq_true hk1
        refine OpOk.setV hw (X := Unit) hbl fun η => ?_
        have h1 := hx η
        simp only [At.rp, he, hbl, cond_true] at h1
        exact s_vstore (E := E) (N := N) (ty := ty) hi (sizeT_ok hk) h1 (hj η) (opT_part hu)
      split
      · rename_i v hv
        obtain ⟨ki, zz, ix, off, len, d⟩ := v
        obtain ⟨ds, he, hi, hil, hbl, hlt, ⟨s, hs⟩, l, hvar, hrun, hj⟩ := runE_ok hw hv
        refine AskOk.when fun hk1 => AskOk.of fun u hu => AskOk.of fun l' hl' => ?_
        obtain rfl : l = l' := by rw [hvar] at hl'; exact Option.some.inj hl'
        obtain rfl := Nat.eq_of_beq_eq_true hk1
        obtain ⟨h0, hd⟩ := idx_get hi
        have hil2 : ix.toNat < len := by have h3 : ix < (len : Int) := hil; have h4 : 0 ≤ ix := h0; omega
        refine OpOk.setR hw (X := Unit) (ix := ix.toNat) hbl hs hrun hil2 (List.getElem?_eq_some_iff.1 hd).1 fun η => ?_
        have h1 := hx η
        simp only [At.rp, he, hbl, cond_true] at h1
        refine s_cstore (E := E) (N := N) (ty := ty) (sizeT_ok hk) h1 (hj η) (opT_part hu) rfl ?_ rfl
        have h2 := (List.getElem?_eq_some_iff.1 (hrun ix.toNat (by omega))).1
        exact Nat.ble_eq_true_of_le (by rw [List.length_map]; omega)
      refine AskOk.of fun q hq => AskOk.of fun c hc => ?_
      split
      · rename_i hct
        refine AskOk.of fun u hu => ?_
        obtain ⟨e, ix, pl⟩ := q
        obtain ⟨he, ⟨ds, hsrc⟩, l, rfl, hi, hbl, hlt, hj⟩ := ownE_ok hw hq
        obtain ⟨c1, c2⟩ := c
        simp only at hct
        obtain ⟨rfl, _⟩ := hct
        refine OpOk.setD hw (X := Unit) hbl fun η => ?_
        have h1 := hx η
        obtain ⟨t', d', s'⟩ := e
        simp only at hsrc
        subst hsrc
        simp only [At.rp, he, hbl, cond_true] at h1
        exact s_ostore (E := E) (N := N) (ty := ty) hi (elT_ok hc) h1 (hj η) (opT_part hu)
      · trivial
    · rename_i o h z
      refine AskOk.of fun ez hez => ?_
      split
      · rename_i ye fo hsz
        refine AskOk.of fun q hq => AskOk.of fun cs hcs => ?_
        split
        · rename_i k' d s ix k2 l
          split
          · rename_i hkk
            subst hkk
            refine AskOk.of fun Ds hDs => AskOk.when fun hb => AskOk.of fun u hu => ?_
            obtain ⟨he, ⟨ds, hsrc⟩, l', hl', hi, hbl, hlt, hj⟩ := ownE_ok hw hq
            cases hl'
            simp only [Bool.and_eq_true] at hb
            have hDl : Ds.length = k := Nat.eq_of_beq_eq_true hb.1
            refine OpOk.setD hw (X := Unit) hbl fun η => ?_
            have h1 := hx η
            obtain ⟨tz, dz, sz⟩ := ez
            simp only at hsz hsrc
            subst hsz; subst hsrc
            simp only [At.rp, hez, he, hbl, cond_true] at h1
            have hsp : (SRep.rep k2).cp d = (PTab.split (P := P) k2 d).map Dyn.rp := PTab.split_ok k2 d
            have hju : (SRep.rep k2).cp u = ((PTab.split (P := P) k2 d).take fo ++ Ds ++ (PTab.split (P := P) k2 d).drop (fo + Ds.length)).map Dyn.rp := PTab.join_ok k2 _ u hu
            exact s_fostore (E := E) (N := N) (ty := ty) (ρ := (Ty.st k2).rep) (u := u) (φs := Ds.map Dyn.rp) hi (by rw [List.length_map, hDl]; exact sizeT_ok hk) h1 (hj η)
              ((opC_part hcs).imp (atsD_imp (c := ⟨n, env, η⟩) hDs))
              (by show (SRep.rep k2).cp u = List.take fo ((SRep.rep k2).cp d) ++ _ ++ List.drop _ ((SRep.rep k2).cp d)
                  rw [hju, hsp]; simp [List.map_take, List.map_drop])
              (by rw [List.length_map]; exact hb.2)
          · trivial
        · trivial
      · trivial
    · trivial
end Go.Dc

namespace Go.Dc
variable [SRep]

def zerA (k : IntKind) : At → Bool
 | .ci k' x => k' == k && x == 0
 | _ => false
theorem zerA_ok {k : IntKind} {c : Cx} : ∀ {l : List At}, l.all (zerA k) = true → l.map (At.rp c) = (List.replicate l.length (0 : Int)).map (iv k)
 | [], _ => rfl
 | a :: l, h => by
  simp only [List.all_cons, Bool.and_eq_true] at h
  rw [List.map_cons, zerA_ok h.2, List.length_cons, List.replicate_succ, List.map_cons]
  congr 1
  have h1 := h.1
  unfold zerA at h1
  split at h1
  ·rename_i k' x
   simp only [Bool.and_eq_true] at h1
   obtain rfl := eq_of_beq h1.1
   have := h1.2
   obtain rfl : x = 0 := by simpa using this
   rfl
  ·cases h1
def zeroRun (k : IntKind) : List At → Nat
 | a :: l => bif zerA k a then zeroRun k l + 1 else 0
 | [] => 0
theorem zeroRun_le {k : IntKind} : ∀ {l : List At}, zeroRun k l ≤ l.length
 | [] => Nat.le_refl _
 | a :: l => by
  simp only [zeroRun]
  cases zerA k a with
  | true => simp only [cond_true, List.length_cons]; have := zeroRun_le (k := k) (l := l); omega
  | false => simp
theorem zeroRun_all {k : IntKind} : ∀ {l : List At}, (l.take (zeroRun k l)).all (zerA k) = true
 | [] => rfl
 | a :: l => by
  simp only [zeroRun]
  cases h : zerA k a with
  | true => simp only [cond_true, List.take_succ_cons, List.all_cons, h, Bool.true_and]; exact zeroRun_all
  | false => rfl
def packZ (n : Nat) : Nat → List At → List At × List Ent
 | 0, l => (l, [])
 | _, [] => ([], [])
 | f + 1, .ci k x :: l => bif Nat.blt 8 (zeroRun k (.ci k x :: l))
   then (pjs n 0 (zeroRun k (.ci k x :: l)) ++ (packZ (n + 1) f ((At.ci k x :: l).drop (zeroRun k (.ci k x :: l)))).1, ⟨.vec k, List.replicate (zeroRun k (.ci k x :: l)) (0 : Int), none⟩ :: (packZ (n + 1) f ((At.ci k x :: l).drop (zeroRun k (.ci k x :: l)))).2)
   else (.ci k x :: (packZ n f l).1, (packZ n f l).2)
 | f + 1, a :: l => (a :: (packZ n f l).1, (packZ n f l).2)
theorem pj_rpS {c : Cx} {i j : Nat} {k : IntKind} {d : List Int} {s : Option Src} {x : Int} (he : lkE c.env i = some ⟨.vec k, d, s⟩) (hx : d[j]? = some x) : (At.pj i j).rp c = iv k x := by
 simp only [At.rp, he, pjG, hx]
theorem pjs_rp {c : Cx} {i : Nat} {k : IntKind} {d : List Int} {s : Option Src} (he : lkE c.env i = some ⟨.vec k, d, s⟩) : (pjs i 0 d.length).map (At.rp c) = d.map (iv k) := by
 refine List.ext_getElem? fun q => ?_
 rw [List.getElem?_map, List.getElem?_map]
 by_cases hq : q < d.length
 ·rw [pjs_get hq, Nat.zero_add, List.getElem?_eq_getElem hq, Option.map_some, Option.map_some, pj_rpS he (List.getElem?_eq_getElem hq)]
 ·rw [List.getElem?_eq_none (by rw [pjs_len]; omega), List.getElem?_eq_none (by omega)]; rfl
theorem packZ_ok {c c' : Cx} (hx : Ext c c') {F : FP} {w : World} : ∀ {f n : Nat} {l : List At} {vs : List Value}, (∀ i e, (packZ n f l).2[i]? = some e → lkE c'.env (n + i) = some e) → AllP F w (l.map (At.rp c)) vs → ((packZ n f l).1).map (At.rp c') = l.map (At.rp c)
 | 0, n, l, vs, _, h => atl_eq hx h
 | f + 1, n, [], vs, _, h => rfl
 | f + 1, n, a :: l, v :: vs, hE, ⟨h1, h2⟩ => by
  have plain : (packZ n (f + 1) (a :: l)) = (a :: (packZ n f l).1, (packZ n f l).2) → ((packZ n (f + 1) (a :: l)).1).map (At.rp c') = (a :: l).map (At.rp c) := fun e => by
   rw [e] at hE ⊢
   rw [List.map_cons, List.map_cons, At.rp_eq hx h1, packZ_ok hx (fun i e' he' => hE i e' he') h2]
  cases a with
  | ci k x =>
   cases hb : Nat.blt 8 (zeroRun k (.ci k x :: l)) with
   | false => exact plain (by simp only [packZ, hb, cond_false])
   | true =>
    simp only [packZ, hb, cond_true] at hE ⊢
    generalize hm : zeroRun k (.ci k x :: l) = m at hE ⊢
    have hall : AllP F w (((At.ci k x :: l).map (At.rp c)).drop m) ((v :: vs).drop m) := AllP.drop m ⟨h1, h2⟩
    rw [← List.map_drop] at hall
    have he0 := hE 0 _ rfl
    rw [Nat.add_zero] at he0
    have hz : ((At.ci k x :: l).take m).map (At.rp c) = (List.replicate m (0 : Int)).map (iv k) := by
     have e1 := zerA_ok (k := k) (c := c) (l := (At.ci k x :: l).take m) (by rw [← hm]; exact zeroRun_all)
     rw [e1, List.length_take, Nat.min_eq_left (by rw [← hm]; exact zeroRun_le)]
    have hp : (pjs n 0 m).map (At.rp c') = (List.replicate m (0 : Int)).map (iv k) := by
     have := pjs_rp (c := c') he0
     rwa [List.length_replicate] at this
    rw [List.map_append, hp, ← hz, packZ_ok hx (fun i e' he' => by have := hE (i + 1) e' he'; rwa [show n + (i + 1) = n + 1 + i from by omega] at this) hall, ← List.map_append, List.take_append_drop]
  | _ => exact plain rfl
 | f + 1, n, _ :: _, [], _, h => h.elim
theorem packZ_src : ∀ {f n : Nat} {l : List At}, noSrc (packZ n f l).2
 | 0, _, _ => fun e he => by simp [packZ] at he
 | f + 1, n, [] => fun e he => by simp [packZ] at he
 | f + 1, n, a :: l => by
  have plain : (packZ n (f + 1) (a :: l)) = (a :: (packZ n f l).1, (packZ n f l).2) → noSrc (packZ n (f + 1) (a :: l)).2 := fun e => by rw [e]; exact packZ_src
  cases a with
  | ci k x =>
   cases hb : Nat.blt 8 (zeroRun k (.ci k x :: l)) with
   | false => exact plain (by simp only [packZ, hb, cond_false])
   | true =>
    simp only [packZ, hb, cond_true]
    intro e he
    rcases List.mem_cons.1 he with h | h
    ·rw [h]
    ·exact packZ_src e h
  | _ => exact plain rfl
end Go.Dc

namespace Go.Dc
variable [DrawMode] {R : Type} {P : Program} [PTab P] {E : Env} {N : Nat} {K : KT R} {m : Option R} {op : Op} {ty : TypeId} {n : Nat} {env : List (Nat × Ent)} {G : List (Nat × Sh)} {O : List MO}

def zAt : Value → Option At
 | .int k n => some (.ci k n)
 | .bool b => some (.cb b)
 | .string s => some (.ck s)
 | .slice none 0 0 => some .nl
 | .pointer none => some .nilp
 | .nilFunc => some .nilf
 | .map none => some .junk
 | _ => none
theorem zAt_rp {v : Value} {a : At} (h : zAt v = some a) {c : Cx} {F : FP} {w : World} : (a.rp c).h F w v := by
 unfold zAt at h
 split at h <;> first | (cases h; rfl) | cases h
def zAts : List Value → Option (List At)
 | [] => some []
 | v :: vs => (zAt v).bind fun a => (zAts vs).map (a :: ·)
theorem zAts_rp {c : Cx} {F : FP} {w : World} : ∀ {vs : List Value} {l : List At}, zAts vs = some l → AllP F w (l.map (At.rp c)) vs
 | [], _, h => by cases h; trivial
 | v :: vs, l, h => by
  simp only [zAts] at h
  obtain ⟨a, h1, h2⟩ := Option.bind_eq_some_iff.1 h
  obtain ⟨l', h3, rfl⟩ := Option.map_eq_some_iff.1 h2
  exact ⟨zAt_rp h1, zAts_rp h3⟩
def zeroT (P : Program) (t : TypeId) : Option (List At) := (P.info? t).bind fun i => i.zero.bind fun z => zAts z.cells.toList
theorem zeroT_ok {t : TypeId} {l : List At} (h : zeroT P t = some l) : ∃ i z, P.info? t = some i ∧ i.zero = some z ∧ ∀ c F w, AllP F w (l.map (At.rp c)) z.cells.toList := by
 obtain ⟨i, hi, h⟩ := Option.bind_eq_some_iff.1 h
 obtain ⟨z, hz, h⟩ := Option.bind_eq_some_iff.1 h
 exact ⟨i, z, hi, hz, fun c F w => zAts_rp h⟩

def vecT (P : Program) (t : TypeId) : Option IntKind := match P.underlying t with
 | some (.array len e) => bif Nat.blt 8 len then (match P.underlying e with
  | some (.int k) => some k
  | _ => none) else none
 | _ => none
theorem OpOk.newP (hw : WF n env) {l : List At} (h : ∀ η, St P E N op ty (gma ⟨n, env, η⟩ G) (oma ⟨n, env, η⟩ O) [] (fun b : Nat => pv (ptr b 0)) (fun b => oma ⟨n, env, η⟩ O ++ [oc b (l.map (At.rp ⟨n, env, η⟩))])) :
  OpOk P E N op ty n env G O ⟨.vl false [.ptr O.length (n + (packZ n l.length l).2.length) 0], (packZ n l.length l).2, 1, [], [.oc (n + (packZ n l.length l).2.length) (packZ n l.length l).1]⟩ := by
 have hsrc : ∀ e ∈ (packZ n l.length l).2, SrcOk env e := packZ_src.ok
 refine ⟨hsrc, (fun _ _ h => by cases h), fun η => ?_⟩
 have h := h η
 generalize hes : (packZ n l.length l).2 = es at hsrc ⊢
 generalize hls : (packZ n l.length l).1 = ls
 refine h.to' fun b a w hs => ?_
 have hx := OpOk.ext hw (r := ⟨.vl false [.ptr O.length (n + es.length) 0], es, 1, [], [.oc (n + es.length) ls]⟩) hsrc ⟨updH η (n + es.length) ⟨.bool true, [], b, rfl, fun _ => nilB⟩, fun k hk => updH_lt (by omega)⟩
 refine ⟨⟨updH η (n + es.length) ⟨.bool true, [], b, rfl, fun _ => nilB⟩, fun k hk => updH_lt (by omega)⟩, ?_, ?_⟩
 ·simp only [OpR.O', updO]
  refine oma_add hx ?_ hs
  obtain ⟨cells, ty', _, hl⟩ := hs.mem_ob (o := oc b (l.map (At.rp ⟨n, env, η⟩))) (by simp)
  have h1 := packZ_ok (n := n) (f := l.length) hx (fun i e he => by rw [hes] at he; exact lkE_keyed he) hl
  rw [hls] at h1
  simp only [MO.ob]
  rw [h1]
  simp only [OpR.cx', OpR.n', updH_at]
  rw [show Nat.blt (n + es.length) (n + es.length + 1) = true from by simp [Nat.blt_eq]]
  rfl
 ·simp only [Sh.rp, vrp, cond_false, List.map_cons, List.headD_cons, At.rp, OpR.cx', OpR.n', updH_at]
  rw [show Nat.blt (n + es.length) (n + es.length + 1) = true from by simp [Nat.blt_eq]]
  rfl
def newC (n : Nat) (O : List MO) (l : List At) : OpR := ⟨.vl false [.ptr O.length (n + (packZ n l.length l).2.length) 0], (packZ n l.length l).2, 1, [], [.oc (n + (packZ n l.length l).2.length) (packZ n l.length l).1]⟩

def allocE (P : Program) (own : Bool) (n : Nat) (O : List MO) (t : TypeId) : Ask OpR := Ask.of (zeroT P t) fun l => match (bif own then none else vecT P t) with
 | some k => Ask.when (l.all (zerA k)) (.ret ⟨.vl false [.ptr O.length (n + 1) 0], [⟨.vec k, List.replicate l.length (0 : Int), none⟩], 1, [], [.oa (n + 1) n]⟩)
 | none => .ret (newC n O l)
theorem allocE_ok (hw : WF n env) {own : Bool} {t : TypeId} : AskOk (OpOk P E N (.alloc t) ty n env G O) (allocE P own n O t) :=
 AskOk.of fun l hl => by
  obtain ⟨i, z, hi, hz, h⟩ := zeroT_ok hl
  split
  ·rename_i k hk
   refine AskOk.when fun hz0 => OpOk.newV hw fun η => ?_
   rw [← zerA_ok (c := ⟨n, env, η⟩) hz0]
   exact s_alloc ⟨i, z, hi, hz, fun F w => h _ F w⟩
  ·exact OpOk.newP hw fun η => s_alloc ⟨i, z, hi, hz, fun F w => h _ F w⟩

def boxE (n : Nat) (G : List (Nat × Sh)) (O : List MO) (x : Operand) : Ask OpR := Ask.of (opC G x) fun l => .ret (newC n O l)
theorem boxE_ok (hw : WF n env) {t : TypeId} {x : Operand} : AskOk (OpOk P E N (.box t x) ty n env G O) (boxE n G O x) :=
 AskOk.of fun l hl => OpOk.newP hw fun η => (s_box (opC_part hl))

def placesT (P : Program) (fs : List Go.Field) : Option (List (Nat × Nat)) := match fs with
 | [] => some []
 | f :: fs => (sizeT P f.type).bind fun k => (placesT P fs).map ((f.offset, k) :: ·)
theorem placesT_ok : ∀ {fs : List Go.Field} {l : List (Nat × Nat)}, placesT P fs = some l → ∀ w, (fs.mapM (fun (f : Go.Field) => do pure (f.offset, ← Go.sizeOf f.type)) : Sem (List (Nat × Nat))).run P w = .ok l w
 | [], _, h, w => by cases h; rfl
 | f :: fs, l, h, w => by
  simp only [placesT] at h
  obtain ⟨k, h1, h2⟩ := Option.bind_eq_some_iff.1 h
  obtain ⟨l', h3, rfl⟩ := Option.map_eq_some_iff.1 h2
  have h4 := placesT_ok h3 w
  rw [List.mapM_cons]
  simp [sizeT_ok h1] at h4 ⊢
  rw [h4]; rfl

def fillA (places : List (Nat × Nat)) (l : List At) : List (Nat × List At) → Option (List At)
 | [] => some l
 | (i, cs) :: r => match places[i]? with
  | some (off, size) => bif Nat.beq cs.length size && Nat.ble (off + size) l.length then fillA places (l.take off ++ cs ++ l.drop (off + size)) r else none
  | none => none
theorem fillA_ok {f : At → RP} {places : List (Nat × Nat)} : ∀ {rs : List (Nat × List At)} {l out : List At}, fillA places l rs = some out →
  fitRP (fun i => places[i]?) l.length (rs.map fun p => (p.1, p.2.map f)) = true ∧ fillRP (fun i => places[i]?) (l.map f) (rs.map fun p => (p.1, p.2.map f)) = out.map f
 | [], l, out, h => by cases h; exact ⟨rfl, rfl⟩
 | (i, cs) :: r, l, out, h => by
  simp only [fillA] at h
  split at h
  ·rename_i off size hp
   cases hb : Nat.beq cs.length size && Nat.ble (off + size) l.length with
   | false => rw [hb] at h; cases h
   | true =>
    rw [hb] at h
    obtain ⟨h1, h2⟩ := fillA_ok (f := f) h
    simp only [Bool.and_eq_true] at hb
    have hs := Nat.eq_of_beq_eq_true hb.1
    have hle : off + size ≤ l.length := Nat.le_of_ble_eq_true hb.2
    have hlen : (l.take off ++ cs ++ l.drop (off + size)).length = l.length := by simp; omega
    rw [hlen] at h1
    refine ⟨?_, ?_⟩
    ·simp only [List.map_cons, fitRP, hp, List.length_map]
     rw [hb.1, hb.2, h1]; rfl
    ·simp only [List.map_cons, fillRP, hp]
     rw [← h2]; simp [List.map_take, List.map_drop]
  ·cases h

def partsC (G : List (Nat × Sh)) : List (Nat × Operand) → Option (List (Nat × List At))
 | [] => some []
 | (i, x) :: r => (opC G x).bind fun l => (partsC G r).map ((i, l) :: ·)
theorem partsC_ok {c : Cx} {Ω : List OB} : ∀ {ps : List (Nat × Operand)} {rs : List (Nat × List At)}, partsC G ps = some rs → PartsOk E N (gma c G) Ω ps (rs.map fun p => (p.1, p.2.map (At.rp c)))
 | [], _, h => by cases h; trivial
 | (i, x) :: r, rs, h => by
  simp only [partsC] at h
  obtain ⟨l, h1, h2⟩ := Option.bind_eq_some_iff.1 h
  obtain ⟨rs', h3, rfl⟩ := Option.map_eq_some_iff.1 h2
  exact ⟨rfl, opC_part h1, partsC_ok h3⟩

def buildE (P : Program) (G : List (Nat × Sh)) (t : TypeId) (ps : List (Nat × Operand)) : Ask OpR := match P.underlying t with
 | some (.struct fs) => Ask.of (zeroT P t) fun zs => Ask.of (placesT P fs.toList) fun pl => Ask.of (partsC G ps) fun rs => Ask.of (fillA pl zs rs) fun out => .ret (resS (.vl true out))
 | _ => .fail
theorem buildE_ok (hw : WF n env) {t : TypeId} {ps : List (Nat × Operand)} : AskOk (OpOk P E N (.build t ps.toArray) ty n env G O) (buildE P G t ps) := by
 unfold buildE
 split
 ·rename_i fs hu
  refine AskOk.of fun zs hz => AskOk.of fun pl hpl => AskOk.of fun rs hrs => AskOk.of fun out hout => OpOk.same hw fun η => ?_
  obtain ⟨i, z, hi, hz', hall⟩ := zeroT_ok hz
  have hzl : z.cells.size = zs.length := by
   have := (hall ⟨0, [], fun _ => ⟨.bool true, [], 0, rfl, fun _ => nilB⟩⟩ (fun _ => True) default).length
   simpa using this
  obtain ⟨h1, h2⟩ := fillA_ok (f := At.rp ⟨n, env, η⟩) hout
  refine r_build (E := E) (N := N) (Ω := oma ⟨n, env, η⟩ O) (ty := ty) (n := zs.length) (places := pl) (zs := zs.map (At.rp ⟨n, env, η⟩)) (rs := rs.map fun p => (p.1, p.2.map (At.rp ⟨n, env, η⟩))) ⟨fs, hu, ⟨i, z, hi, hz', hzl⟩, fun w => ?_⟩ (fun i' z' hi' hz'' F w => ?_) (partsC_ok hrs) (by rw [List.length_map]; exact h1) ?_
  ·have := placesT_ok hpl w
   rw [Array.mapM_eq_mapM_toList]
   simp at this ⊢
   rw [this]; rfl
  ·rw [hi] at hi'; cases hi'; rw [hz'] at hz''; cases hz''; exact hall _ F w
  ·rw [h2]
 ·trivial
end Go.Dc

namespace Go.Dc
variable [DrawMode] {R : Type} {P : Program} [PTab P] {E : Env} {N : Nat} {K : KT R} {m : Option R} {op : Op} {ty : TypeId} {n : Nat} {env : List (Nat × Ent)} {G : List (Nat × Sh)} {O : List MO}

def isEnum : Nat → List (Nat × Operand) → Bool
 | _, [] => true
 | k, (i, _) :: r => Nat.beq i k && isEnum (k + 1) r
theorem isEnum_ok : ∀ {k : Nat} {l : List (Nat × Operand)}, isEnum k l = true → l = enumP k (l.map (·.2))
 | _, [], _ => rfl
 | k, (i, x) :: r, h => by
  simp only [isEnum, Bool.and_eq_true] at h
  obtain rfl := Nat.eq_of_beq_eq_true h.1
  simp only [List.map_cons, enumP]
  rw [← isEnum_ok h.2]
def opTs (P : Program) [PTab P] (env : List (Nat × Ent)) (G : List (Nat × Sh)) (c : Ty) : List Operand → Option (List c.den)
 | [] => some []
 | x :: xs => (opT P env G c x).bind fun d => (opTs P env G c xs).map (d :: ·)
theorem opTs_ok {η : Nat → Hd} {Ω : List OB} {c : Ty} : ∀ {xs : List Operand} {ds : List c.den}, opTs P env G c xs = some ds → AllPart E N (gma ⟨n, env, η⟩ G) Ω c.rep xs ds
 | [], _, h => by cases h; trivial
 | x :: xs, ds, h => by
  simp only [opTs] at h
  obtain ⟨d, h1, h2⟩ := Option.bind_eq_some_iff.1 h
  obtain ⟨ds', h3, rfl⟩ := Option.map_eq_some_iff.1 h2
  exact ⟨opT_part h1, opTs_ok h3⟩

def bsliceE (P : Program) [PTab P] (n : Nat) (env : List (Nat × Ent)) (G : List (Nat × Sh)) (O : List MO) (own : Bool) (t : TypeId) (k : Nat) (ps : List (Nat × Operand)) : Ask OpR := match P.underlying t with
 | some (.slice e) => Ask.of (elT P e) fun c => Ask.when (isEnum 0 ps) (Ask.of (opTs P env G c.1 (ps.map (·.2))) fun ds =>
   Ask.when (Nat.beq k ds.length && Nat.ble (ds.length * c.1.rep.size) 16777216)
    (bif own then .ret ⟨.vl false [.own O.length (n + 1)], [⟨.sl c.1, ds, none⟩], 1, [], [.oa (n + 1) n]⟩ else .ret (resD n (.sl c.1) ds)))
 | _ => .fail
theorem bsliceE_ok (hw : WF n env) {own : Bool} {t : TypeId} {k : Nat} {ps : List (Nat × Operand)} : AskOk (OpOk P E N (.buildSlice t k ps.toArray) ty n env G O) (bsliceE P n env G O own t k ps) := by
 unfold bsliceE
 split
 ·rename_i e hu
  refine AskOk.of fun c hc => AskOk.when fun hen => AskOk.of fun ds hds => AskOk.when fun hb => ?_
  simp only [Bool.and_eq_true] at hb
  have h1 := Nat.eq_of_beq_eq_true hb.1
  have h2 := Nat.le_of_ble_eq_true hb.2
  rw [isEnum_ok hen]
  cases own with
  | true => exact OpOk.newA hw fun η => (s_bsliceO hu (elT_ok hc) h1 h2 (opTs_ok hds))
  | false => exact OpOk.newD hw rfl (t := .sl c.1) rfl fun η => (s_bslice hu (elT_ok hc) h1 h2 (opTs_ok hds))
 ·trivial

def sameAt : At → At → Bool
 | .vr i, .vr j => Nat.beq i j
 | .ci k a, .ci k' b => decide (k = k') && decide (a = b)
 | _, _ => false
theorem sameAt_ok {a b : At} (h : sameAt a b = true) : a = b := by
 unfold sameAt at h
 split at h
 ·rw [Nat.eq_of_beq_eq_true h]
 ·simp only [Bool.and_eq_true, decide_eq_true_eq] at h; rw [h.1, h.2]
 ·cases h

def makeE (P : Program) [PTab P] (n : Nat) (env : List (Nat × Ent)) (G : List (Nat × Sh)) (O : List MO) (t : TypeId) (x y : Operand) : Ask OpR := match P.underlying t with
 | some (.slice e) => Ask.of (elT P e) fun c => Ask.of (opA G x) fun a => Ask.of (opA G y) fun b => Ask.when (sameAt a b) (Ask.of (opI env G x) fun l =>
   Ask.of ((zeroT P e).bind (celD P env c.1)) fun z => .bind (mkM c.2 z l.2) fun d => .ret ⟨.vl false [.own O.length (n + 1)], [⟨.sl c.1, d, none⟩], 1, [], [.oa (n + 1) n]⟩)
 | _ => .fail
theorem zeroD_ok {e : TypeId} {c : Ty} {z : c.den} (h : (zeroT P e).bind (celD P env c) = some z) : ZeroT P e c.rep z := by
 obtain ⟨l, h1, h2⟩ := Option.bind_eq_some_iff.1 h
 obtain ⟨i, zv, hi, hz, hall⟩ := zeroT_ok h1
 exact ⟨i, zv, hi, hz, fun F w => (celD_imp (c := ⟨0, env, fun _ => ⟨.bool true, [], 0, rfl, fun _ => nilB⟩⟩) h2).all (hall _ F w)⟩
theorem makeE_ok (hw : WF n env) {t : TypeId} {x y : Operand} : AskOk (OpOk P E N (.makeSlice t x y) ty n env G O) (makeE P n env G O t x y) := by
 unfold makeE
 split
 ·rename_i e hu
  refine AskOk.of fun c hc => AskOk.of fun a ha => AskOk.of fun b hb => AskOk.when fun hab => AskOk.of fun l hl => AskOk.of fun z hz => fun d hd => ?_
  have hs := sameAt_ok hab
  subst hs
  have hy : ∀ η, lkO (gma ⟨n, env, η⟩ G) y = some (iv l.1 l.2) := fun η => by rw [opA_rp hb, ← opA_rp (c := ⟨n, env, η⟩) ha]; exact opI_rp hl
  exact OpOk.newA hw fun η => (s_make hd hu (elT_ok hc) (zeroD_ok hz) (opI_rp hl) (hy η))
 ·trivial

def bdE (env : List (Nat × Ent)) (G : List (Nat × Sh)) (d : Int) : Option Operand → Option Int
 | none => some d
 | some x => (opI env G x).map (·.2)
theorem bdE_ok {η : Nat → Hd} {d i : Int} {x : Option Operand} (h : bdE env G d x = some i) : BdOk (gma ⟨n, env, η⟩ G) d x i := by
 cases x with
 | none => cases h; exact .dft
 | some x =>
  simp only [bdE] at h
  obtain ⟨p, h1, rfl⟩ := Option.map_eq_some_iff.1 h
  exact .of (opI_rp h1)

def vsM (len : Nat) (h : Int) : Option Int := if 0 ≤ h ∧ h ≤ (len : Int) then some h else none
theorem r_aslice {t e : TypeId} {x y : Operand} {Γ : List (Nat × RP)} {Ω : List OB} {b off len sz : Nat} {k : IntKind} {h l : Int} (hl : vsM len h = some l) (h0 : 0 < len) (hu : P.underlying t = some (.array len e)) (hs : ∀ w, (Go.sizeOf e).run P w = .ok sz w)
  (hx : lkO Γ x = some (pv (Dc.ptr b off))) (hy : lkO Γ y = some (iv k h)) : Rd P E N (.slice t x none (some y) none) ty Γ Ω [] (pv (.slice (some ⟨b, off, none⟩) l.toNat len)) := .mk fun a w hs' => by
 have h1 : a.eval x = Dc.ptr b off := hs'.op hx
 have h2 : a.eval y = .int k h := hs'.op hy
 unfold vsM at hl
 split at hl
 ·rename_i hr
  cases hl
  refine ⟨_, rfl, fun w' o ho _ => ?_⟩
  simp [execOp, ho, h1, h2, Instr.sliceAt, run_underlying hu, Instr.sureAddr, Dc.ptr, Instr.sliceBounds, Instr.sliceBound, asIntOf, hr.1, hr.2, hs, Addr.add]
 ·cases hl

def sliceE (P : Program) [PTab P] (own : Bool) (n : Nat) (env : List (Nat × Ent)) (G : List (Nat × Sh)) (O : List MO) (t : TypeId) (x : Operand) (lo hi : Option Operand) : Ask OpR :=
 Ask.of (bdE env G 0 lo) fun l => match P.underlying t with
 | some .string => Ask.of (opS env G x) fun s => Ask.of (bdE env G s.size hi) fun h => .bind (ssubM s l h) fun r => .ret (resD n .str r)
 | some (.slice e) => Ask.of (elT P e) fun c => Ask.of (opA G x) fun a => match a with
  | .own o h => Ask.of (ownA n env O o h) fun q => if c.1 = q.2.1 then Ask.of (bdE env G q.2.2.length hi) fun m => .bind (slM q.2.2 l m) fun d =>
    bif own then .ret ⟨.vl false [.sb o h n (n + 1) q.2.1.rep.size], [⟨.int .i64, l, none⟩, ⟨.int .i64, m, none⟩], 0, [], []⟩ else .ret ⟨.vl false [.own o (n + 1)], [⟨.sl q.2.1, d, none⟩], 1, [(o, .oa (n + 1) n)], []⟩ else .fail
  | .nl => match lo, hi with
   | none, some y => Ask.of (opI env G y) fun p => if p.2 = 0 ∧ opLit G y = true then .ret (resS (.vl false [.nl])) else .fail
   | _, _ => .fail
  | _ => Ask.of (opL env G x) fun q => if c.1 = q.1 then Ask.of (bdE env G q.2.length hi) fun m => .bind (slM q.2 l m) fun d => .ret (resD n (.sl q.1) d) else .fail
 | some (.array len e) => Ask.of (sizeT P e) fun sz => Ask.of (opA G x) fun a => match a, lo, hi with
  | .ptr o h off, none, some y => Ask.when (Nat.blt h n && Nat.blt 0 len) (Ask.of (opI env G y) fun p => .bind (vsM len p.2) fun l => .ret ⟨.vl false [.vs o h off n len], [⟨.int .i64, l, none⟩], 0, [], []⟩)
  | _, _, _ => .fail
 | _ => .fail
theorem sliceE_ok (hw : WF n env) {own : Bool} {t : TypeId} {x : Operand} {lo hi : Option Operand} : AskOk (OpOk P E N (.slice t x lo hi none) ty n env G O) (sliceE P own n env G O t x lo hi) :=
 AskOk.of fun l hl => by
  split
  ·rename_i hu
   exact AskOk.of fun s hs => AskOk.of fun h hh => fun r hr => OpOk.dat hw rfl fun η => (r_ssub hr hu (opS_rp hs) (bdE_ok hl) (bdE_ok hh))
  ·rename_i e hu
   refine AskOk.of fun c hc => AskOk.of fun a ha => ?_
   have hx := fun η => opA_rp (c := ⟨n, env, η⟩) ha
   split
   ·rename_i o h
    refine AskOk.of fun q hq => ?_
    split
    ·rename_i hct
     refine AskOk.of fun m hm => fun d hd => ?_
     obtain ⟨i0, t', l'⟩ := q
     obtain ⟨c1, c2⟩ := c
     simp only at hct
     subst hct
     obtain ⟨hb, hlt, ⟨s, he⟩, hj⟩ := ownA_ok hq
     cases own with
     | true =>
      refine OpOk.rd' hw (fun e' he' => by
       rcases List.mem_cons.1 he' with rfl | he'
       ·exact .none rfl
       ·rw [List.mem_singleton.1 he']; exact .none rfl) fun η => ?_
      have h1 := hx η
      rw [own_rp (c := ⟨n, env, η⟩) hb] at h1
      have h2 := r_osub (E := E) (N := N) (Ω := oma ⟨n, env, η⟩ O) (ty := ty) hd hu (elT_ok hc) h1 (hj η) (bdE_ok (η := η) hl) (bdE_ok (η := η) hm)
      have e0 : lkE (keyed n [(⟨.int .i64, l, none⟩ : Ent), ⟨.int .i64, m, none⟩] env) n = some ⟨.int .i64, l, none⟩ := by simp only [keyed, lkE_cons, if_true]; rw [if_neg (by omega)]
      have e1 : lkE (keyed n [(⟨.int .i64, l, none⟩ : Ent), ⟨.int .i64, m, none⟩] env) (n + 1) = some ⟨.int .i64, m, none⟩ := by simp only [keyed, lkE_cons, if_true]
      simp only [Sh.rp, vrp, cond_false, List.map_cons, List.headD_cons, At.rp, e0, e1]
      rw [blt_mono hb (show n ≤ n + [(⟨.int .i64, l, none⟩ : Ent), ⟨.int .i64, m, none⟩].length from by omega)]
      exact h2
     | false =>
     refine OpOk.chgA hw (fun η => (s_oslice hd hu (elT_ok hc) ?_ (hj η) (bdE_ok hl) (bdE_ok hm))) hlt
     have h1 := hx η
     rw [own_rp (c := ⟨n, env, η⟩) hb] at h1
     exact h1
    ·trivial
   ·split
    ·rename_i y
     refine AskOk.of fun p hp => ?_
     split
     ·rename_i hp0
      refine OpOk.same hw fun η => (r_sliceN (k := p.1) hu (elT_ok hc) (hx η) ?_)
      rw [opI_rp (k := p.1) (i := p.2) hp, hp0.1]
     ·trivial
    ·trivial
   ·refine AskOk.of fun q hq => ?_
    split
    ·rename_i hct
     refine AskOk.of fun m hm => fun d hd => ?_
     obtain ⟨t', l'⟩ := q
     obtain ⟨c1, c2⟩ := c
     simp only at hct
     subst hct
     exact OpOk.dat hw (t := .sl c1) rfl fun η => (r_slice hd hu (elT_ok hc) (opL_rp hq) (bdE_ok hl) (bdE_ok hm))
    ·trivial
  ·rename_i len e hu
   refine AskOk.of fun sz hsz => AskOk.of fun a ha => ?_
   have hx := fun η => opA_rp (c := ⟨n, env, η⟩) ha
   split
   ·rename_i o h off y
    refine AskOk.when fun hb => AskOk.of fun p hp => fun d hd => ?_
    simp only [Bool.and_eq_true] at hb
    obtain ⟨hb, h0⟩ := hb
    refine OpOk.rd' hw (fun e' he' => by rw [List.mem_singleton.1 he']; exact .none rfl) fun η => ?_
    have h1 := hx η
    rw [ptr_rp (c := ⟨n, env, η⟩) hb] at h1
    have h2 := r_aslice (E := E) (N := N) (Ω := oma ⟨n, env, η⟩ O) (ty := ty) (k := p.1) hd (by simpa [Nat.blt_eq] using h0) hu (sizeT_ok hsz) h1 (opI_rp (η := η) hp)
    simp only [Sh.rp, vrp, cond_false, List.map_cons, List.headD_cons, At.rp, keyed, lkE_cons, if_true]
    rw [blt_mono hb (show n ≤ n + [(⟨.int .i64, d, none⟩ : Ent)].length from by omega)]
    exact h2
   ·trivial
  ·trivial

theorem r_vslen {t e : TypeId} {x : Operand} {Γ : List (Nat × RP)} {Ω : List OB} {ad : Option Addr} {l c : Nat} (hu : P.underlying t = some (.slice e)) (hx : lkO Γ x = some (pv (.slice ad l c))) : Rd P E N (.call ⟨.builtin .len, #[x], #[t]⟩) ty Γ Ω [] (iv .i64 (l : Int)) := .mk fun a w hs => by
 have hv : a.eval x = .slice ad l c := hs.op hx
 exact ⟨.int .i64 l, rfl, fun w' o ho _ => by simp [execOp, ho, resolve, invoke, builtin, Builtin.len_, hv, run_underlying hu, goInt]⟩
def lenE (P : Program) [PTab P] (n : Nat) (env : List (Nat × Ent)) (G : List (Nat × Sh)) (O : List MO) (t : TypeId) (x : Operand) : Ask OpR := match P.underlying t with
 | some .string => Ask.of (opS env G x) fun s => .ret (resD n (.int .i64) (s.size : Int))
 | some (.slice e) => Ask.of (opA G x) fun a => match a with
  | .nl => .ret (resS (.vl false [.ci .i64 0]))
  | .own o h => Ask.of (ownA n env O o h) fun q => .ret (resD n (.int .i64) (q.2.2.length : Int))
  | .vs o h off i cp => Ask.of ((lkE env i).bind entI) fun l => Ask.when (Nat.blt h n) (.ret (resD n (.int .i64) (l.toNat : Int)))
  | _ => Ask.of (opL env G x) fun q => .ret (resD n (.int .i64) (q.2.length : Int))
 | _ => .fail
theorem lenE_ok (hw : WF n env) {t : TypeId} {x : Operand} : AskOk (OpOk P E N (.call ⟨.builtin .len, #[x], #[t]⟩) ty n env G O) (lenE P n env G O t x) := by
 unfold lenE
 split
 ·rename_i hu
  exact AskOk.of fun s hs => OpOk.dat hw rfl fun η => (r_slen hu (opS_rp hs))
 ·rename_i e hu
  refine AskOk.of fun a ha => ?_
  have hx := fun η => opA_rp (c := ⟨n, env, η⟩) ha
  split
  ·exact OpOk.same hw fun η => (r_lenN hu (hx η))
  ·rename_i o h
   refine AskOk.of fun q hq => ?_
   obtain ⟨i0, t', l'⟩ := q
   obtain ⟨hb, hlt, ⟨s, he⟩, hj⟩ := ownA_ok hq
   refine OpOk.dat hw rfl fun η => (r_olen hu ?_ (hj η))
   have h1 := hx η
   rw [own_rp (c := ⟨n, env, η⟩) hb] at h1
   exact h1
  ·rename_i o h off i cp
   refine AskOk.of fun l hl => AskOk.when fun hb => OpOk.dat hw rfl fun η => ?_
   obtain ⟨ej, hej, hl⟩ := Option.bind_eq_some_iff.1 hl
   obtain ⟨sj, rfl⟩ := entI_eq hl
   have h1 := hx η
   simp only [At.rp, hej, hb, cond_true] at h1
   exact r_vslen hu h1
  ·exact AskOk.of fun q hq => OpOk.dat hw rfl fun η => (r_len hu (opL_rp hq))
 ·trivial

def minE (n : Nat) (env : List (Nat × Ent)) (G : List (Nat × Sh)) (mx : Bool) (x y : Operand) : Ask OpR :=
 Ask.of (opI env G x) fun u => Ask.of (opI env G y) fun v => if v.1 = u.1 then .ret (resD n (.int u.1) (bif mx then imax u.2 v.2 else imin u.2 v.2)) else .fail
theorem minE_ok (hw : WF n env) {x y : Operand} {t1 t2 : TypeId} : AskOk (OpOk P E N (.call ⟨.builtin .min, #[x, y], #[t1, t2]⟩) ty n env G O) (minE n env G false x y) :=
 AskOk.of fun u hu => AskOk.of fun v hv => by
  split
  ·rename_i h
   obtain ⟨k, i⟩ := u; obtain ⟨k', j⟩ := v
   simp only at h; subst h
   exact OpOk.dat hw rfl fun η => (r_min (opI_rp hu) (opI_rp hv))
  ·trivial
theorem maxE_ok (hw : WF n env) {x y : Operand} {t1 t2 : TypeId} : AskOk (OpOk P E N (.call ⟨.builtin .max, #[x, y], #[t1, t2]⟩) ty n env G O) (minE n env G true x y) :=
 AskOk.of fun u hu => AskOk.of fun v hv => by
  split
  ·rename_i h
   obtain ⟨k, i⟩ := u; obtain ⟨k', j⟩ := v
   simp only at h; subst h
   exact OpOk.dat hw rfl fun η => (r_max (opI_rp hu) (opI_rp hv))
  ·trivial

def fullE (P : Program) [PTab P] (n : Nat) (env : List (Nat × Ent)) (G : List (Nat × Sh)) (t : TypeId) (x hi mx : Operand) : Ask OpR := match P.underlying t with
 | some (.slice e) => Ask.of (elT P e) fun c => Ask.of (opL env G x) fun q => Ask.of (opI env G hi) fun p => Ask.of (opI env G mx) fun m => if c.1 = q.1 then
   .cond ((p.2 == (q.2.length : Int)) && (m.2 == (q.2.length : Int))) (.ret ⟨.vl false [.fu n], [⟨.sl q.1, q.2, none⟩], 0, [], []⟩) .fail else .fail
 | _ => .fail
theorem fullE_ok (hw : WF n env) {t : TypeId} {x hi mx : Operand} : AskOk (OpOk P E N (.slice t x none (some hi) (some mx)) ty n env G O) (fullE P n env G t x hi mx) := by
 unfold fullE
 split
 ·rename_i e hu
  refine AskOk.of fun c hc => AskOk.of fun q hq => AskOk.of fun p hp => AskOk.of fun m hm => ?_
  split
  ·rename_i hct
   obtain ⟨t', l⟩ := q
   obtain ⟨c1, c2⟩ := c
   simp only at hct
   subst hct
   refine ⟨fun hb => ?_, fun _ => trivial⟩
   simp only [Bool.and_eq_true, beq_iff_eq] at hb
   obtain ⟨h1, h2⟩ := hb
   refine OpOk.rd' hw (fun e' he' => by rw [List.mem_singleton.1 he']; exact .none rfl) fun η => ?_
   simp only [Sh.rp, vrp, cond_false, List.map_cons, List.headD_cons, At.rp, keyed, lkE_cons, if_true]
   exact r_full (k1 := p.1) (k2 := m.1) hu (elT_ok hc) (opL_rp hq) (by rw [← h1]; exact opI_rp hp) (by rw [← h2]; exact opI_rp hm)
  ·trivial
 ·trivial

def appE (P : Program) [PTab P] (n : Nat) (env : List (Nat × Ent)) (G : List (Nat × Sh)) (O : List MO) (t : TypeId) (x y : Operand) : Ask OpR := match P.underlying t with
 | some (.slice e) => Ask.of (elT P e) fun c => Ask.of (opL env G y) fun l => if hl : l.1 = c.1 then Ask.of (opA G x) fun a => match a with
  | .nl => .bind (appM c.2 ([] : List l.1.den) l.2) fun d => .ret ⟨.vl false [.own O.length (n + 1)], [⟨.sl l.1, d, none⟩], 1, [], [.oa (n + 1) n]⟩
  | .own o h => Ask.of (ownA n env O o h) fun q => if hq : q.2.1 = l.1 then .bind (appM c.2 (hq ▸ q.2.2 : List l.1.den) l.2) fun d => .ret ⟨.vl false [.own o (n + 1)], [⟨.sl l.1, d, none⟩], 1, [(o, .oa (n + 1) n)], []⟩ else .fail
  | .fu i => Ask.of ((lkE env i).bind Ent.asSl) fun q => if hq : q.1 = l.1 then Ask.when (Nat.ble 1 l.2.length) (.bind (appM c.2 (hq ▸ q.2 : List l.1.den) l.2) fun d => .ret ⟨.vl false [.own O.length (n + 1)], [⟨.sl l.1, d, none⟩], 1, [], [.oa (n + 1) n]⟩) else .fail
  | _ => .fail else .fail
 | _ => .fail
theorem appE_ok (hw : WF n env) {t : TypeId} {x y : Operand} : AskOk (OpOk P E N (.call ⟨.builtin .append, #[x, y], #[t, t]⟩) ty n env G O) (appE P n env G O t x y) := by
 unfold appE
 split
 ·rename_i e hu
  refine AskOk.of fun c hc => AskOk.of fun l hl => ?_
  split
  ·rename_i hlc
   obtain ⟨t', l⟩ := l
   obtain ⟨c1, c2⟩ := c
   simp only at hlc
   subst hlc
   refine AskOk.of fun a ha => ?_
   have hx := fun η => opA_rp (c := ⟨n, env, η⟩) ha
   split
   ·exact fun d hd => OpOk.newA hw fun η => (s_appendN hd hu (elT_ok hc) (hx η) (opL_rp hl))
   ·rename_i o h
    refine AskOk.of fun q hq => ?_
    split
    ·rename_i hqt
     obtain ⟨i0, t2, l2⟩ := q
     simp only at hqt
     subst hqt
     obtain ⟨hb, hlt, ⟨s, he⟩, hj⟩ := ownA_ok hq
     refine fun d hd => OpOk.chgA hw (fun η => (s_append hd hu (elT_ok hc) ?_ (hj η) (opL_rp hl))) hlt
     have h1 := hx η
     rw [own_rp (c := ⟨n, env, η⟩) hb] at h1
     exact h1
    ·trivial
   ·rename_i i
    refine AskOk.of fun q hq => ?_
    split
    ·rename_i hqt
     obtain ⟨t2, l2⟩ := q
     simp only at hqt
     subst hqt
     refine AskOk.when fun hne => fun d hd => OpOk.newA hw fun η => ?_
     obtain ⟨en, he, hs⟩ := Option.bind_eq_some_iff.1 hq
     obtain ⟨s, rfl⟩ := asSl_eq hs
     have h1 := hx η
     simp only [At.rp, he] at h1
     exact s_appendF hd hne hu (elT_ok hc) h1 (opL_rp hl)
    ·trivial
   ·trivial
  ·trivial
 ·trivial
theorem St.imp {X : Type} {Γ : List (Nat × RP)} {Ω : List OB} {js : List Nat} {φ ψ : X → RP} {Ω' : X → List OB} (h : St P E N op ty Γ Ω js φ Ω') (hi : ∀ x F w v, (φ x).h F w v → (ψ x).h F w v) : St P E N op ty Γ Ω js ψ Ω' := by
 intro a w hs o ho ht
 refine (h a w hs o ho ht).mono ?_
 rintro v w' ⟨x, h1, h2, h3⟩
 exact ⟨x, h1, hi x _ _ _ h2, h3⟩
def clearE (P : Program) [PTab P] (n : Nat) (env : List (Nat × Ent)) (G : List (Nat × Sh)) (O : List MO) (t : TypeId) (x : Operand) : Ask OpR := match P.underlying t with
 | some (.slice e) => Ask.of (elT P e) fun c => Ask.of (opA G x) fun a => match a with
  | .sb o h a b sz => Ask.of (ownA n env O o h) fun q => Ask.of ((lkE env a).bind entI) fun l => Ask.of ((lkE env b).bind entI) fun m => if c.1 = q.2.1 ∧ sz = q.2.1.rep.size then Ask.of ((zeroT P e).bind (celD P env q.2.1)) fun z =>
    .bind (slM q.2.2 l m) fun _ =>   .ret ⟨.tup [], [⟨.sl q.2.1, q.2.2.take (Int.toNat l) ++ List.replicate (Int.toNat m - Int.toNat l) z ++ q.2.2.drop (Int.toNat m), none⟩], 0, [(o, .oa h n)], []⟩ else .fail
  | _ => .fail
 | _ => .fail
theorem clearE_ok (hw : WF n env) {t : TypeId} {x : Operand} : AskOk (OpOk P E N (.call ⟨.builtin .clear, #[x], #[t]⟩) ty n env G O) (clearE P n env G O t x) := by
 unfold clearE
 split
 ·rename_i e hu
  refine AskOk.of fun c hc => AskOk.of fun a ha => ?_
  have hx := fun η => opA_rp (c := ⟨n, env, η⟩) ha
  split
  ·rename_i o h a b sz
   refine AskOk.of fun q hq => AskOk.of fun l hl => AskOk.of fun m hm => ?_
   split
   ·rename_i hct
    refine AskOk.of fun z hz => fun d' hd => ?_
    obtain ⟨i0, t', l'⟩ := q
    obtain ⟨c1, c2⟩ := c
    simp only at hct
    obtain ⟨rfl, rfl⟩ := hct
    obtain ⟨hb, hlt, ⟨s, he⟩, hj⟩ := ownA_ok hq
    obtain ⟨ea, hea, hl⟩ := Option.bind_eq_some_iff.1 hl
    obtain ⟨eb, heb, hm⟩ := Option.bind_eq_some_iff.1 hm
    obtain ⟨sa, rfl⟩ := entI_eq hl
    obtain ⟨sb, rfl⟩ := entI_eq hm
    have hsrc : ∀ e ∈ [(⟨.sl c1, l'.take (Int.toNat l) ++ List.replicate (Int.toNat m - Int.toNat l) z ++ l'.drop (Int.toNat m), none⟩ : Ent)], SrcOk env e := fun e he => by rw [List.mem_singleton.1 he]; exact .none rfl
    refine ⟨hsrc, (fun _ h => by cases h), fun η => ?_⟩
    have h1 := hx η
    simp only [At.rp, hea, heb, hb, cond_true] at h1
    have h2 := s_clear (E := E) (N := N) (ty := ty) (ρ := c1.rep) hd hu (elT_ok hc) (zeroD_ok hz) h1 (hj η)
    refine (h2.imp (ψ := fun _ => Dc.tup []) fun _ F w v hv => ⟨#[], hv, trivial⟩).to' fun x a w hs => ⟨⟨η, fun _ _ => rfl⟩, ?_, rfl⟩
    simp only [OpR.O', updO, List.append_nil]
    refine oma_set (OpOk.ext hw (r := ⟨.tup [], [⟨.sl c1, l'.take (Int.toNat l) ++ List.replicate (Int.toNat m - Int.toNat l) z ++ l'.drop (Int.toNat m), none⟩], 0, [(o, .oa h n)], []⟩) hsrc ⟨η, fun _ _ => rfl⟩) ?_ hs
    simp only [MO.ob, OpR.cx', OpR.n', OpR.env', keyed, lkE_cons, if_true, Dyn.ob]
    rw [blt_mono hb (show n ≤ n + [(⟨.sl c1, l'.take (Int.toNat l) ++ List.replicate (Int.toNat m - Int.toNat l) z ++ l'.drop (Int.toNat m), none⟩ : Ent)].length + 0 from by omega)]
    rfl
   ·trivial
  ·trivial
 ·trivial
end Go.Dc

namespace Go.Dc
variable [DrawMode]

def Tup [SDen] : List Ty → Type
 | [] => Unit
 | [t] => t.den
 | t :: u :: ts => t.den × Tup (u :: ts)

def tupGet [SDen] : (ts : List Ty) → Tup ts → Nat → Option Dyn
 | [], _, _ => none
 | [t], a, 0 => some ⟨t, a⟩
 | [_], _, _ + 1 => none
 | t :: _ :: _, a, 0 => some ⟨t, a.1⟩
 | _ :: u :: ts, a, j + 1 => tupGet (u :: ts) a.2 j

def tupMk [SDen] : (ts : List Ty) → ((k : Nat) → (t : Ty) → Option t.den) → Nat → Option (Tup ts)
 | [], _, _ => some ()
 | [t], f, j => f j t
 | t :: u :: ts, f, j => (f j t).bind fun x => (tupMk (u :: ts) f (j + 1)).map fun y => (x, y)

theorem tupMk_get [SDen] {f : (k : Nat) → (t : Ty) → Option t.den} : ∀ {ts : List Ty} {j : Nat} {a : Tup ts}, tupMk ts f j = some a → ∀ {i : Nat} {D : Dyn}, tupGet ts a i = some D → f (j + i) D.t = some D.d
 | [], _, _, _, i, D, h => by cases h
 | [t], j, a, ha, 0, D, h => by cases h; exact ha
 | [t], j, a, ha, i + 1, D, h => by cases h
 | t :: u :: ts, j, a, ha, 0, D, h => by
  simp only [tupMk] at ha
  obtain ⟨x, h1, h2⟩ := Option.bind_eq_some_iff.1 ha
  obtain ⟨y, h3, rfl⟩ := Option.map_eq_some_iff.1 h2
  cases h; exact h1
 | t :: u :: ts, j, a, ha, i + 1, D, h => by
  simp only [tupMk] at ha
  obtain ⟨x, h1, h2⟩ := Option.bind_eq_some_iff.1 ha
  obtain ⟨y, h3, rfl⟩ := Option.map_eq_some_iff.1 h2
  have := tupMk_get h3 (i := i) (D := D) h
  rw [show j + (i + 1) = j + 1 + i from by omega]
  exact this

def leaves (P : Program) [PTab P] (D : Dyn) : List Dyn := match D with
 | ⟨.st k, d⟩ => PTab.split (P := P) k d
 | D => [D]
def leaf (P : Program) [PTab P] (ts : List Ty) (a : Tup ts) (j q : Nat) : Option Dyn := (tupGet ts a j).bind fun D => (leaves P D)[q]?

section
variable [SRep]
inductive KA where
 | d (j q : Nat)
 | own (k : Nat)
 | ptr (k : Nat)
 | mp (k : Nat)
 | fn (f : Nat) (cs : List (Option Nat))
 | nl
 | nilp
 | nilf
 | pj (j q : Nat)
 | vs (k off j q c : Nat)
 | fx (a : At)
inductive KO where
 | dead
 | same
 | oa (k : Nat) (w : KA)
 | oc (k : Nat) (l : List KA)

def kcap (hs : Nat → Hd) : Option Nat → Value
 | some k => Dc.ptr (hs k).b 0
 | none => .pointer none

def KA.rp (c0 : Cx) (L : Nat → Nat → Option Dyn) (hs : Nat → Hd) : KA → RP
 | .fx a => a.rp c0
 | .d j q => match L j q with
  | some D => D.rp
  | none => RP.no
 | .own k => pv (hs k).hv
 | .ptr k => pv (Dc.ptr (hs k).b 0)
 | .mp k => pv (.map (some (hs k).b))
 | .fn f cs => pv (fnV f (cs.map (kcap hs)))
 | .nl => pv (.slice none 0 0)
 | .nilp => pv (.pointer none)
 | .nilf => pv .nilFunc
 | .pj j q => match L j 0 with
  | some ⟨.vec k, dd⟩ => (match pjG dd q with
   | some x => iv k x
   | none => RP.no)
  | _ => RP.no
 | .vs k off j q c => match L j q with
  | some ⟨.int _, l⟩ => pv (.slice (some ⟨(hs k).b, off, none⟩) (Int.toNat l) c)
  | _ => RP.no
def KA.sl (c0 : Cx) (L : Nat → Nat → Option Dyn) : KA → Option Dyn
 | .d j q => L j q
 | .fx (.vr i) => (lkE c0.env i).map fun e => ⟨e.t, e.d⟩
 | _ => none
def kvrp (c0 : Cx) (L : Nat → Nat → Option Dyn) (hs : Nat → Hd) (v : Bool × List KA) : RP := bif v.1 then ag (v.2.map (KA.rp c0 L hs)) else (v.2.map (KA.rp c0 L hs)).headD RP.no
def KO.ob (c0 : Cx) (L : Nat → Nat → Option Dyn) (hs : Nat → Hd) : KO → OB
 | .dead => Dc.dead
 | .same => OB.no
 | .oa k w => match w.sl c0 L with
  | some D => D.ob (hs k)
  | none => OB.no
 | .oc k l => Dc.oc (hs k).b (l.map (KA.rp c0 L hs))
def cx0 : Cx := ⟨0, [], fun _ => ⟨.bool true, [], 0, rfl, fun _ => nilB⟩⟩
theorem cx0_ext (c : Cx) : Ext cx0 c := ⟨Nat.zero_le _, fun i e h => (by cases h), fun h hh => absurd hh (Nat.not_lt_zero _)⟩
def KO.isDead : KO → Bool
 | .dead => true
 | _ => false

end

structure Con [SDen] where
 ins : List Ty
 outs : List Ty
 m : Tup ins → Option (Tup outs)
 ps : List (Bool × List KA)
 os : List KO
 rs : List (Bool × List KA)
 os' : List KO
 /-- handles: those that are given, and all of them -/
 nh : Nat
 nh' : Nat

variable {P : Program} [PTab P]
def Con.args (C : Con) (a : Tup C.ins) (hs : Nat → Hd) : List RP := C.ps.map (kvrp cx0 (leaf P C.ins a) hs)
def Con.Ω0 (C : Con) (a : Tup C.ins) (hs : Nat → Hd) : List OB := C.os.map (KO.ob cx0 (leaf P C.ins a) hs)
def Con.res (C : Con) (r : Tup C.outs) (hs : Nat → Hd) : List RP := C.rs.map (kvrp cx0 (leaf P C.outs r) hs)
def kafter (Li Lo : Nat → Nat → Option Dyn) (hs0 hs : Nat → Hd) : List KO → List KO → List OB
 | i :: is, .same :: os => i.ob cx0 Li hs0 :: kafter Li Lo hs0 hs is os
 | _ :: is, o :: os => o.ob cx0 Lo hs :: kafter Li Lo hs0 hs is os
 | [], o :: os => o.ob cx0 Lo hs :: kafter Li Lo hs0 hs [] os
 | _, [] => []
def kmask : List KO → List Bool := List.map fun o => !o.isDead
def Con.Ω2 (C : Con) (a : Tup C.ins) (r : Tup C.outs) (hs0 hs : Nat → Hd) : List OB := kafter (leaf P C.ins a) (leaf P C.outs r) hs0 hs C.os C.os'
def Con.Ω1 (C : Con) (a : Tup C.ins) (r : Tup C.outs) (hs0 hs : Nat → Hd) : List OB := keepB (kmask C.os') (C.Ω2 (P := P) a r hs0 hs)

def ConOk (P : Program) [PTab P] (f : FuncId) (C : Con) : Prop :=
 ∀ a r, C.m a = some r → ∀ hs, FnOk P f (C.args (P := P) a hs) (C.Ω0 (P := P) a hs) (fun x : Agr C.nh hs => C.res (P := P) r x.1) (fun x => C.Ω1 (P := P) a r hs x.1)

section
variable [SRep]
structure Mt where
 ws : List ((Nat × Nat) × Dyn)
 om : List (Nat × (Nat × Nat))

def lkW : List ((Nat × Nat) × Dyn) → Nat → Nat → Option Dyn
 | [], _, _ => none
 | ((j, q), D) :: r, i, p => bif Nat.beq j i && Nat.beq q p then some D else lkW r i p
def lkM : List (Nat × (Nat × Nat)) → Nat → Option (Nat × Nat)
 | [], _ => none
 | (k, x) :: r, i => bif Nat.beq k i then some x else lkM r i

def Mt.obj (M : Mt) (k o h : Nat) : Option Mt := match lkM M.om k with
 | some (o', h') => bif Nat.beq o o' && Nat.beq h h' then some M else none
 | none => some ⟨M.ws, (k, (o, h)) :: M.om⟩
def Mt.word (M : Mt) (j q : Nat) (D : Dyn) : Option Mt := match lkW M.ws j q with
 | some _ => none
 | none => some ⟨((j, q), D) :: M.ws, M.om⟩

structure Mt.Le (M M' : Mt) : Prop where
 w : ∀ j q D, lkW M.ws j q = some D → lkW M'.ws j q = some D
 o : ∀ k x, lkM M.om k = some x → lkM M'.om k = some x
theorem Mt.Le.refl (M : Mt) : Mt.Le M M := ⟨fun _ _ _ h => h, fun _ _ h => h⟩
theorem Mt.Le.trans {A B C : Mt} (h : Mt.Le A B) (k : Mt.Le B C) : Mt.Le A C := ⟨fun j q D e => k.w j q D (h.w j q D e), fun i x e => k.o i x (h.o i x e)⟩

theorem Mt.obj_ok {M M' : Mt} {k o h : Nat} (hm : M.obj k o h = some M') : Mt.Le M M' ∧ lkM M'.om k = some (o, h) := by
 unfold Mt.obj at hm
 split at hm
 ·rename_i o' h' hl
  cases hb : Nat.beq o o' && Nat.beq h h' with
  | false => rw [hb] at hm; cases hm
  | true =>
   rw [hb] at hm; cases hm
   simp only [Bool.and_eq_true] at hb
   obtain rfl := Nat.eq_of_beq_eq_true hb.1
   obtain rfl := Nat.eq_of_beq_eq_true hb.2
   exact ⟨.refl _, hl⟩
 ·rename_i hl
  cases hm
  refine ⟨⟨fun _ _ _ h => h, fun i x hi => ?_⟩, by simp [lkM]⟩
  simp only [lkM]
  by_cases e : k = i
  ·subst e; rw [hl] at hi; cases hi
  ·rw [beq_ne e]; exact hi
theorem Mt.word_ok {M M' : Mt} {j q : Nat} {D : Dyn} (hm : M.word j q D = some M') : Mt.Le M M' ∧ lkW M'.ws j q = some D := by
 unfold Mt.word at hm
 split at hm
 ·cases hm
 ·rename_i hl
  cases hm
  refine ⟨⟨fun i p x hi => ?_, fun _ _ h => h⟩, by simp [lkW]⟩
  simp only [lkW]
  cases hb : Nat.beq j i && Nat.beq q p with
  | false => exact hi
  | true =>
   simp only [Bool.and_eq_true] at hb
   obtain rfl := Nat.eq_of_beq_eq_true hb.1
   obtain rfl := Nat.eq_of_beq_eq_true hb.2
   rw [hl] at hi; cases hi

def capEq : List Cap → List Cap → Bool
 | [], [] => true
 | .ptr o h :: r, .ptr o' h' :: r' => Nat.beq o o' && Nat.beq h h' && capEq r r'
 | .fn f :: r, .fn f' :: r' => Nat.beq f f' && capEq r r'
 | .nilp :: r, .nilp :: r' => capEq r r'
 | _, _ => false
theorem capEq_ok : ∀ {l l' : List Cap}, capEq l l' = true → l = l'
 | [], [], _ => rfl
 | .ptr o h :: r, .ptr o' h' :: r', e => by
  simp only [capEq, Bool.and_eq_true] at e
  rw [Nat.eq_of_beq_eq_true e.1.1, Nat.eq_of_beq_eq_true e.1.2, capEq_ok e.2]
 | .fn f :: r, .fn f' :: r', e => by
  simp only [capEq, Bool.and_eq_true] at e
  rw [Nat.eq_of_beq_eq_true e.1, capEq_ok e.2]
 | .nilp :: r, .nilp :: r', e => by rw [capEq_ok (l := r) (l' := r') e]
 | [], _ :: _, e => by cases e
 | _ :: _, [], e => by simp [capEq] at e
 | .ptr _ _ :: _, .fn _ :: _, e => by cases e
 | .ptr _ _ :: _, .nilp :: _, e => by cases e
 | .fn _ :: _, .ptr _ _ :: _, e => by cases e
 | .fn _ :: _, .nilp :: _, e => by cases e
 | .nilp :: _, .ptr _ _ :: _, e => by cases e
 | .nilp :: _, .fn _ :: _, e => by cases e
def atEq : At → At → Bool
 | .vr i, .vr j => Nat.beq i j
 | .ci k a, .ci k' b => decide (k = k') && decide (a = b)
 | .cb a, .cb b => a == b
 | .ck a, .ck b => decide (a.data = b.data)
 | .nl, .nl => true
 | .own o h, .own o' h' => Nat.beq o o' && Nat.beq h h'
 | .ptr o h f, .ptr o' h' f' => Nat.beq o o' && Nat.beq h h' && Nat.beq f f'
 | .mp o h, .mp o' h' => Nat.beq o o' && Nat.beq h h'
 | .fn f c, .fn f' c' => Nat.beq f f' && capEq c c'
 | .nilf, .nilf => true
 | .nilp, .nilp => true
 | .ea i, .ea j => Nat.beq i j
 | .fu i, .fu j => Nat.beq i j
 | .pj i j, .pj i' j' => Nat.beq i i' && Nat.beq j j'
 | .inn o h y, .inn o' h' y' => Nat.beq o o' && Nat.beq h h' && Nat.beq y y'
 | .vs o h f i c, .vs o' h' f' i' c' => Nat.beq o o' && Nat.beq h h' && Nat.beq f f' && Nat.beq i i' && Nat.beq c c'
 | _, _ => false
theorem atEq_ok {a b : At} (hh : atEq a b = true) : a = b := by
 cases a <;> cases b <;> first
  | rfl
  | (simp only [atEq] at hh; cases hh; done)
  | (simp only [atEq] at hh; rw [Nat.eq_of_beq_eq_true hh]; done)
  | (simp only [atEq, Bool.and_eq_true, decide_eq_true_eq] at hh; rw [hh.1, hh.2]; done)
  | (simp only [atEq, Bool.and_eq_true] at hh; rw [Nat.eq_of_beq_eq_true hh.1, Nat.eq_of_beq_eq_true hh.2]; done)
  | (simp only [atEq, Bool.and_eq_true] at hh; rw [Nat.eq_of_beq_eq_true hh.1.1, Nat.eq_of_beq_eq_true hh.1.2, Nat.eq_of_beq_eq_true hh.2]; done)
  | (simp only [atEq, Bool.and_eq_true] at hh; rw [Nat.eq_of_beq_eq_true hh.1.1.1.1, Nat.eq_of_beq_eq_true hh.1.1.1.2, Nat.eq_of_beq_eq_true hh.1.1.2, Nat.eq_of_beq_eq_true hh.1.2, Nat.eq_of_beq_eq_true hh.2]; done)
  | (simp only [atEq, Bool.and_eq_true] at hh; rw [Nat.eq_of_beq_eq_true hh.1, capEq_ok hh.2]; done)
  | (rename_i x y; simp only [atEq, decide_eq_true_eq] at hh; cases x; cases y; simp only at hh; rw [hh]; done)
  | (simp only [atEq, beq_iff_eq] at hh; rw [hh]; done)
theorem atsEq_ok : ∀ {l l' : List At}, Nat.beq l.length l'.length = true → ((l.zip l').all fun x => atEq x.1 x.2) = true → l = l'
 | [], [], _, _ => rfl
 | a :: l, b :: l', h, h2 => by
  simp only [List.zip_cons_cons, List.all_cons, Bool.and_eq_true] at h2
  rw [atEq_ok h2.1, atsEq_ok (by simpa using h) h2.2]
 | [], _ :: _, h, _ => by simp at h
 | _ :: _, [], h, _ => by simp at h
def At.clo (n : Nat) (env : List (Nat × Ent)) : At → Bool
 | .vr i => (lkE env i).isSome
 | .own _ h => Nat.blt h n
 | .ptr _ h _ => Nat.blt h n
 | .mp _ h => Nat.blt h n
 | .fn _ cs => cs.all (Cap.ok n)
 | .ea i => (lkE env i).isSome
 | .fu i => (lkE env i).isSome
 | .oea _ _ _ => false
 | .oef _ _ _ => false
 | .pj i _ => (lkE env i).isSome
 | .vs _ h _ i _ => Nat.blt h n && (lkE env i).isSome
 | .sb _ _ _ _ _ => false
 | .inn _ h y => Nat.blt h n && (match lkE env y with | some ⟨_, _, some (.dl _ _ _)⟩ => true | _ => false)
 | _ => true
theorem At.clo_ok {c c' : Cx} (hx : Ext c c') {a : At} (h : a.clo c.n c.env = true) : a.rp c' = a.rp c := by
 cases a with
 | vr i =>
  simp only [At.clo] at h
  obtain ⟨e, he⟩ := Option.isSome_iff_exists.1 h
  simp only [At.rp, he, hx.env i e he]
 | ea i =>
  simp only [At.clo] at h
  obtain ⟨e, he⟩ := Option.isSome_iff_exists.1 h
  simp only [At.rp, he, hx.env i e he]
 | fu i =>
  simp only [At.clo] at h
  obtain ⟨e, he⟩ := Option.isSome_iff_exists.1 h
  simp only [At.rp, he, hx.env i e he]
 | pj i j =>
  simp only [At.clo] at h
  obtain ⟨e, he⟩ := Option.isSome_iff_exists.1 h
  simp only [At.rp, he, hx.env i e he]
 | vs o k f i cp =>
  simp only [At.clo, Bool.and_eq_true] at h
  obtain ⟨e, he⟩ := Option.isSome_iff_exists.1 h.2
  simp only [At.rp, he, hx.env i e he, h.1, blt_mono h.1 hx.n, hx.η k (by simpa [Nat.blt_eq] using h.1)]
 | sb _ _ _ _ _ => cases h
 | inn o k y =>
  simp only [At.clo, Bool.and_eq_true] at h
  obtain ⟨h1, h2⟩ := h
  split at h2
  ·rename_i e t d i kk jx he
   have hv : innV c k y = some ((c.η k).subs jx.toNat).v := by unfold innV; rw [he]; simp only [h1, cond_true]
   simp only [At.rp, hv, innV_ext hx hv]
  ·cases h2
 | own o k => simp only [At.clo] at h; rw [own_rp h, own_rp (blt_mono h hx.n), hx.η k (by simpa [Nat.blt_eq] using h)]
 | ptr o k f => simp only [At.clo] at h; rw [ptr_rp h, ptr_rp (blt_mono h hx.n), hx.η k (by simpa [Nat.blt_eq] using h)]
 | mp o k => simp only [At.clo] at h; simp only [At.rp, h, blt_mono h hx.n, cond_true, hx.η k (by simpa [Nat.blt_eq] using h)]
 | fn f cs =>
  simp only [At.clo] at h
  have h1 : ∀ x ∈ cs, Cap.ok c.n x = true := List.all_eq_true.1 h
  have h2 : cs.all (Cap.ok c'.n) = true := List.all_eq_true.2 fun x hx' => by
   have := h1 x hx'
   cases x with
   | ptr o k => exact blt_mono this hx.n
   | _ => exact this
  have h3 : cs.map (Cap.val c'.η) = cs.map (Cap.val c.η) := List.map_congr_left fun x hx' => by
   have := h1 x hx'
   cases x with
   | ptr o k => simp only [Cap.val]; rw [hx.η k (by simpa [Cap.ok, Nat.blt_eq] using this)]
   | _ => rfl
  simp only [At.rp, h, h2, cond_true, h3]
 | oea _ _ _ => cases h
 | oef _ _ _ => cases h
 | _ => rfl

theorem fmEq_ok : ∀ {l l' : List (Int × At)}, Nat.beq l.length l'.length = true → ((l.zip l').all fun x => decide (x.1.1 = x.2.1) && atEq x.1.2 x.2.2) = true → l = l'
 | [], [], _, _ => rfl
 | (i, a) :: l, (j, b) :: l', h, h2 => by
  simp only [List.zip_cons_cons, List.all_cons, Bool.and_eq_true, decide_eq_true_eq] at h2
  obtain ⟨⟨h3, h4⟩, h5⟩ := h2
  rw [h3, atEq_ok h4, fmEq_ok (by simpa using h) h5]
 | [], _ :: _, h, _ => by simp at h
 | _ :: _, [], h, _ => by simp at h
def moEq : MO → MO → Bool
 | .dead, .dead => true
 | .oa h i, .oa h' i' => Nat.beq h h' && Nat.beq i i'
 | .oc h l, .oc h' l' => Nat.beq h h' && (Nat.beq l.length l'.length && (l.zip l').all fun x => atEq x.1 x.2)
 | .pin a b c, .pin a' b' c' => Nat.beq a a' && (Nat.beq b b' && Nat.beq c c')
 | .eqv a b, .eqv a' b' => Nat.beq a a' && Nat.beq b b'
 | .fm h l, .fm h' l' => Nat.beq h h' && (Nat.beq l.length l'.length && (l.zip l').all fun x => decide (x.1.1 = x.2.1) && atEq x.1.2 x.2.2)
 | _, _ => false
theorem moEq_ok {m m' : MO} (h : moEq m m' = true) : m = m' := by
 cases m with
 | dead => cases m' <;> first | rfl | cases h
 | oa a b =>
  cases m' with
  | oa a' b' => simp only [moEq, Bool.and_eq_true] at h; rw [Nat.eq_of_beq_eq_true h.1, Nat.eq_of_beq_eq_true h.2]
  | _ => cases h
 | oc a l =>
  cases m' with
  | oc a' l' => simp only [moEq, Bool.and_eq_true] at h; rw [Nat.eq_of_beq_eq_true h.1, atsEq_ok h.2.1 h.2.2]
  | _ => cases h
 | pin a b c =>
  cases m' with
  | pin a' b' c' => simp only [moEq, Bool.and_eq_true] at h; rw [Nat.eq_of_beq_eq_true h.1, Nat.eq_of_beq_eq_true h.2.1, Nat.eq_of_beq_eq_true h.2.2]
  | _ => cases h
 | eqv a b =>
  cases m' with
  | eqv a' b' => simp only [moEq, Bool.and_eq_true] at h; rw [Nat.eq_of_beq_eq_true h.1, Nat.eq_of_beq_eq_true h.2]
  | _ => cases h
 | fm a l =>
  cases m' with
  | fm a' l' => simp only [moEq, Bool.and_eq_true] at h; rw [Nat.eq_of_beq_eq_true h.1, fmEq_ok h.2.1 h.2.2]
  | _ => cases h

def MO.clo (n : Nat) (env : List (Nat × Ent)) : MO → Bool
 | .dead => true
 | .oa h i => Nat.blt h n && ((lkE env i).isSome)
 | .oc h l => Nat.blt h n && l.all (At.clo n env)
 | .pin h h' e0 => Nat.blt h n && (Nat.blt h' n && ((lkE env e0).isSome))
 | .eqv h h' => Nat.blt h n && Nat.blt h' n
 | .fm h l => Nat.blt h n && l.all fun x => x.2.isFn n
theorem MO.clo_ok {c c' : Cx} (hx : Ext c c') {m : MO} (h : m.clo c.n c.env = true) : m.ob c' = m.ob c := by
 cases m with
 | dead => rfl
 | oa k i =>
  simp only [MO.clo, Bool.and_eq_true] at h
  obtain ⟨e, he⟩ := Option.isSome_iff_exists.1 h.2
  simp only [MO.ob, he, hx.env i e he, h.1, blt_mono h.1 hx.n, hx.η k (by simpa [Nat.blt_eq] using h.1)]
 | oc k l =>
  simp only [MO.clo, Bool.and_eq_true] at h
  have h3 : l.map (At.rp c') = l.map (At.rp c) := List.map_congr_left fun a ha => At.clo_ok hx (List.all_eq_true.1 h.2 a ha)
  simp only [MO.ob, h.1, blt_mono h.1 hx.n, hx.η k (by simpa [Nat.blt_eq] using h.1), h3]
 | pin k k' e0 =>
  simp only [MO.clo, Bool.and_eq_true] at h
  obtain ⟨h1, h2, h3⟩ := h
  obtain ⟨e, he⟩ := Option.isSome_iff_exists.1 h3
  simp only [MO.ob, he, hx.env e0 e he, h1, h2, blt_mono h1 hx.n, blt_mono h2 hx.n, hx.η k (by simpa [Nat.blt_eq] using h1), hx.η k' (by simpa [Nat.blt_eq] using h2)]
 | eqv k k' =>
  simp only [MO.clo, Bool.and_eq_true] at h
  obtain ⟨h1, h2⟩ := h
  simp only [MO.ob, h1, h2, blt_mono h1 hx.n, blt_mono h2 hx.n, hx.η k (by simpa [Nat.blt_eq] using h1), hx.η k' (by simpa [Nat.blt_eq] using h2)]
 | fm k l =>
  simp only [MO.clo, Bool.and_eq_true] at h
  obtain ⟨h2, h3⟩ := fm_ext hx h.2
  simp only [MO.ob, h.1, h.2, h2, h3, blt_mono h.1 hx.n, hx.η k (by simpa [Nat.blt_eq] using h.1)]

def mtCaps : Mt → List (Option Nat) → List Cap → Option Mt
 | M, [], [] => some M
 | M, some k :: ks, .ptr o h :: cs => (M.obj k o h).bind fun M => mtCaps M ks cs
 | M, none :: ks, .nilp :: cs => mtCaps M ks cs
 | _, _, _ => none

def mtA (n0 : Nat) (env0 : List (Nat × Ent)) (n : Nat) (env : List (Nat × Ent)) (nilT : Option Ty) (M : Mt) : KA → At → Option Mt
 | .fx a, b => bif atEq a b && a.clo n0 env0 then some M else none
 | .d j q, .nl => match nilT with
  | some t => M.word j q ⟨.sl t, []⟩
  | none => none
 | .d j q, a => (rdD env a).bind fun D => M.word j q D
 | .own k, .own o h => bif Nat.blt h n then M.obj k o h else none
 | .ptr k, .ptr o h 0 => bif Nat.blt h n then M.obj k o h else none
 | .mp k, .mp o h => bif Nat.blt h n then M.obj k o h else none
 | .fn f cs, .fn g ds => bif Nat.beq f g && ds.all (Cap.ok n) then mtCaps M cs ds else none
 | .nl, .nl => some M
 | .nilp, .nilp => some M
 | .nilf, .nilf => some M
 | .vs k off j q c, .vs o h off' i c' => bif Nat.blt h n && (Nat.beq off off' && Nat.beq c c') then (rdD env (.vr i)).bind fun D => (M.word j q D).bind fun M => M.obj k o h else none
 | _, _ => none

structure MtSay (L : Nat → Nat → Option Dyn) (hs η : Nat → Hd) (M : Mt) : Prop where
 w : ∀ j q D, lkW M.ws j q = some D → L j q = some D
 o : ∀ k o h, lkM M.om k = some (o, h) → hs k = η h
theorem MtSay.le {L : Nat → Nat → Option Dyn} {hs η : Nat → Hd} {M M' : Mt} (h : MtSay L hs η M') (hl : Mt.Le M M') : MtSay L hs η M := ⟨fun j q D e => h.w j q D (hl.w j q D e), fun k o x e => h.o k o x (hl.o k _ e)⟩

theorem mtCaps_ok {n : Nat} : ∀ {ks : List (Option Nat)} {cs : List Cap} {M M' : Mt}, mtCaps M ks cs = some M' → Mt.Le M M' ∧ ∀ {L : Nat → Nat → Option Dyn} {hs η : Nat → Hd}, MtSay L hs η M' → ks.map (kcap hs) = cs.map (Cap.val η)
 | [], [], M, M', h => by cases h; exact ⟨.refl _, fun _ => rfl⟩
 | some k :: ks, .ptr o x :: cs, M, M', h => by
  simp only [mtCaps] at h
  obtain ⟨M1, h1, h2⟩ := Option.bind_eq_some_iff.1 h
  obtain ⟨h3, h4⟩ := Mt.obj_ok h1
  obtain ⟨h5, h6⟩ := mtCaps_ok (n := n) h2
  refine ⟨h3.trans h5, fun hs => ?_⟩
  rw [List.map_cons, List.map_cons, h6 hs]
  have := hs.o k o x (h5.o _ _ h4)
  simp only [kcap, Cap.val, this]
 | none :: ks, .nilp :: cs, M, M', h => by
  simp only [mtCaps] at h
  obtain ⟨h5, h6⟩ := mtCaps_ok (n := n) h
  refine ⟨h5, fun hs => ?_⟩
  rw [List.map_cons, List.map_cons, h6 hs]; rfl
 | [], _ :: _, _, _, h => by simp [mtCaps] at h
 | some _ :: _, [], _, _, h => by simp [mtCaps] at h
 | none :: _, [], _, _, h => by simp [mtCaps] at h
 | some _ :: _, .fn _ :: _, _, _, h => by simp [mtCaps] at h
 | some _ :: _, .nilp :: _, _, _, h => by simp [mtCaps] at h
 | none :: _, .ptr _ _ :: _, _, _, h => by simp [mtCaps] at h
 | none :: _, .fn _ :: _, _, _, h => by simp [mtCaps] at h

theorem mtA_ok {c0 : Cx} {n : Nat} {env : List (Nat × Ent)} {nt : Option Ty} {M M' : Mt} {k : KA} {a : At} (h : mtA c0.n c0.env n env nt M k a = some M') :
  Mt.Le M M' ∧ ∀ {L : Nat → Nat → Option Dyn} {hs η : Nat → Hd}, Ext c0 ⟨n, env, η⟩ → MtSay L hs η M' → (∀ {F w v}, (a.rp ⟨n, env, η⟩).h F w v → (k.rp c0 L hs).h F w v) ∧ (nt = none → a.rp ⟨n, env, η⟩ = k.rp c0 L hs) := by
 have both : ∀ {φ ψ : RP}, φ = ψ → (∀ {F w v}, φ.h F w v → ψ.h F w v) ∧ (nt = none → φ = ψ) := fun e => ⟨fun h => e ▸ h, fun _ => e⟩
 unfold mtA at h
 split at h
 ·rename_i b
  cases hb : atEq b a && b.clo c0.n c0.env with
  | false => rw [hb] at h; cases h
  | true =>
   rw [hb] at h; cases h
   simp only [Bool.and_eq_true] at hb
   obtain rfl := atEq_ok hb.1
   exact ⟨.refl _, fun hx _ => both (At.clo_ok hx hb.2)⟩
 ·rename_i j q
  split at h
  ·rename_i t
   obtain ⟨h1, h2⟩ := Mt.word_ok h
   refine ⟨h1, fun hx hs => ⟨fun hv => ?_, fun e => by cases e⟩⟩
   simp only [KA.rp, hs.w _ _ _ h2]
   exact nil_sl hv
  ·cases h
 ·rename_i j q
  obtain ⟨D, hD, h⟩ := Option.bind_eq_some_iff.1 h
  obtain ⟨h1, h2⟩ := Mt.word_ok h
  refine ⟨h1, fun {L hs η} hx hs => both ?_⟩
  simp only [KA.rp, hs.w _ _ _ h2]
  rw [(rdD_rp (c := ⟨n, env, η⟩) hD).1]
 ·rename_i k o x
  cases hb : Nat.blt x n with
  | false => rw [hb] at h; cases h
  | true =>
   rw [hb] at h
   obtain ⟨h1, h2⟩ := Mt.obj_ok h
   refine ⟨h1, fun {L hs η} hx hs => both ?_⟩
   rw [own_rp (c := ⟨n, env, η⟩) hb]
   simp only [KA.rp, hs.o _ _ _ h2]
 ·rename_i k o x
  cases hb : Nat.blt x n with
  | false => rw [hb] at h; cases h
  | true =>
   rw [hb] at h
   obtain ⟨h1, h2⟩ := Mt.obj_ok h
   refine ⟨h1, fun {L hs η} hx hs => both ?_⟩
   rw [ptr_rp (c := ⟨n, env, η⟩) hb]
   simp only [KA.rp, hs.o _ _ _ h2]
 ·rename_i k o x
  cases hb : Nat.blt x n with
  | false => rw [hb] at h; cases h
  | true =>
   rw [hb] at h
   obtain ⟨h1, h2⟩ := Mt.obj_ok h
   refine ⟨h1, fun {L hs η} hx hs => both ?_⟩
   simp only [At.rp, hb, cond_true, KA.rp, hs.o _ _ _ h2]
 ·rename_i f cs g ds
  cases hb : Nat.beq f g && ds.all (Cap.ok n) with
  | false => rw [hb] at h; cases h
  | true =>
   rw [hb] at h
   simp only [Bool.and_eq_true] at hb
   obtain rfl := Nat.eq_of_beq_eq_true hb.1
   obtain ⟨h1, h2⟩ := mtCaps_ok (n := n) h
   refine ⟨h1, fun {L hs η} hx hs => both ?_⟩
   simp only [At.rp, hb.2, cond_true, KA.rp, h2 hs]
 ·cases h; exact ⟨.refl _, fun _ _ => both rfl⟩
 ·cases h; exact ⟨.refl _, fun _ _ => both rfl⟩
 ·cases h; exact ⟨.refl _, fun _ _ => both rfl⟩
 ·rename_i k off j q c o x off' i c'
  cases hb : Nat.blt x n && (Nat.beq off off' && Nat.beq c c') with
  | false => rw [hb] at h; cases h
  | true =>
   rw [hb] at h
   simp only [Bool.and_eq_true] at hb
   obtain ⟨hb, h1, h2⟩ := hb
   obtain rfl := Nat.eq_of_beq_eq_true h1
   obtain rfl := Nat.eq_of_beq_eq_true h2
   obtain ⟨D, hD, h⟩ := Option.bind_eq_some_iff.1 h
   obtain ⟨M1, h3, h4⟩ := Option.bind_eq_some_iff.1 h
   obtain ⟨h5, h6⟩ := Mt.word_ok h3
   obtain ⟨h7, h8⟩ := Mt.obj_ok h4
   refine ⟨h5.trans h7, fun {L hs η} hx hsay => both ?_⟩
   simp only [rdD] at hD
   obtain ⟨e, he, hD⟩ := Option.bind_eq_some_iff.1 hD
   cases ho : e.t.one with
   | false => rw [ho] at hD; cases hD
   | true =>
    rw [ho] at hD; cases hD
    obtain ⟨t, d, s⟩ := e
    simp only [KA.rp, At.rp, he, hsay.w _ _ _ (h7.w _ _ _ h6), hsay.o _ _ _ h8]
    cases t with
    | int kd => simp only [hb, cond_true, Dyn.nrm]
    | _ => rfl
 ·cases h
end
end Go.Dc

namespace Go.Dc
variable [DrawMode] {P : Program} [PTab P] {E : Env} {N : Nat} {n : Nat} {env : List (Nat × Ent)} {G : List (Nat × Sh)} {O : List MO}

def wordT (P : Program) [PTab P] (ts : List Ty) (j q : Nat) : Option Ty := (ts[j]?).bind fun t => match t with
 | .st k => (PTab.fts P k)[q]?
 | t => match q with
  | 0 => some t
  | _ + 1 => none
def nilOf (P : Program) [PTab P] (ts : List Ty) (strict : Bool) (k : KA) : Option Ty := bif strict then none else match k with
 | .d j q => match wordT P ts j q with
  | some (.sl t) => some t
  | _ => none
 | _ => none

def mtP (n : Nat) (env : List (Nat × Ent)) (cur : Option (Nat × Nat)) (M : Mt) (j q i q' : Nat) : Option Mt := bif Nat.beq q q' then (match q with
  | 0 => (match lkE env i with
   | some ⟨.vec k, d, _⟩ => M.word j 0 ⟨.vec k, d⟩
   | _ => none)
  | _ + 1 => match cur with
   | some (j0, i0) => bif Nat.beq j0 j && Nat.beq i0 i then some M else none
   | none => none) else none
def CurOk (env : List (Nat × Ent)) (cur : Option (Nat × Nat)) (M : Mt) : Prop := ∀ j i, cur = some (j, i) → ∃ k d s, lkE env i = some ⟨.vec k, d, s⟩ ∧ lkW M.ws j 0 = some ⟨.vec k, d⟩
theorem mtP_ok {cur : Option (Nat × Nat)} {M M' : Mt} {j q i q' : Nat} (h : mtP n env cur M j q i q' = some M') (hc : CurOk env cur M) :
  Mt.Le M M' ∧ CurOk env (some (j, i)) M' ∧ ∀ {c0 : Cx} {L : Nat → Nat → Option Dyn} {hs η : Nat → Hd}, MtSay L hs η M' → (At.pj i q').rp ⟨n, env, η⟩ = (KA.pj j q).rp c0 L hs := by
 have say : ∀ {k : IntKind} {d : List Int} {s : Option Src} {M' : Mt} {q : Nat}, lkE env i = some ⟨.vec k, d, s⟩ → lkW M'.ws j 0 = some ⟨.vec k, d⟩ → ∀ {c0 : Cx} {L : Nat → Nat → Option Dyn} {hs η : Nat → Hd}, MtSay L hs η M' → (At.pj i q).rp ⟨n, env, η⟩ = (KA.pj j q).rp c0 L hs := by
  intro k d s M' q he hw c0 L hs η hsay
  simp only [At.rp, KA.rp, he, hsay.w _ _ _ hw]
  rfl
 unfold mtP at h
 cases hq : Nat.beq q q' with
 | false => rw [hq] at h; cases h
 | true =>
  rw [hq] at h
  obtain rfl := Nat.eq_of_beq_eq_true hq
  simp only [cond_true] at h
  split at h
  ·split at h
   ·rename_i k d s he
    obtain ⟨h1, h2⟩ := Mt.word_ok h
    exact ⟨h1, fun j' i' e => by cases e; exact ⟨k, d, s, he, h2⟩, say he h2⟩
   ·cases h
  ·split at h
   ·rename_i j0 i0
    cases hb : Nat.beq j0 j && Nat.beq i0 i with
    | false => rw [hb] at h; cases h
    | true =>
     rw [hb] at h; cases h
     simp only [Bool.and_eq_true] at hb
     obtain rfl := Nat.eq_of_beq_eq_true hb.1
     obtain rfl := Nat.eq_of_beq_eq_true hb.2
     obtain ⟨k, d, s, he, hw⟩ := hc _ _ rfl
     exact ⟨.refl _, hc, say he hw⟩
   ·cases h
theorem CurOk.none {env : List (Nat × Ent)} {M : Mt} : CurOk env none M := fun _ _ e => by cases e

def mtAsC (P : Program) [PTab P] (ts : List Ty) (strict : Bool) (n0 : Nat) (env0 : List (Nat × Ent)) (n : Nat) (env : List (Nat × Ent)) : Option (Nat × Nat) → Mt → List KA → List At → Option Mt
 | _, M, [], [] => some M
 | cur, M, k :: ks, a :: as_ => match k, a with
  | .pj j q, .pj i q' => (mtP n env cur M j q i q').bind fun M => mtAsC P ts strict n0 env0 n env (some (j, i)) M ks as_
  | k, a => (mtA n0 env0 n env (nilOf P ts strict k) M k a).bind fun M => mtAsC P ts strict n0 env0 n env none M ks as_
 | _, _, _, _ => none

theorem mtAsC_ok {c0 : Cx} {ts : List Ty} {strict : Bool} : ∀ {ks : List KA} {as_ : List At} {cur : Option (Nat × Nat)} {M M' : Mt}, mtAsC P ts strict c0.n c0.env n env cur M ks as_ = some M' → CurOk env cur M →
  Mt.Le M M' ∧ ∀ {L : Nat → Nat → Option Dyn} {hs η : Nat → Hd}, Ext c0 ⟨n, env, η⟩ → MtSay L hs η M' → ImpAll (as_.map (At.rp ⟨n, env, η⟩)) (ks.map (KA.rp c0 L hs)) ∧ (strict = true → as_.map (At.rp ⟨n, env, η⟩) = ks.map (KA.rp c0 L hs))
 | [], [], _, M, M', h, _ => by cases h; exact ⟨.refl _, fun _ _ => ⟨trivial, fun _ => rfl⟩⟩
 | k :: ks, a :: as_, cur, M, M', h, hcur => by
  unfold mtAsC at h
  split at h
  ·rename_i j q i q'
   obtain ⟨M1, h1, h2⟩ := Option.bind_eq_some_iff.1 h
   obtain ⟨h3, hc1, h4⟩ := mtP_ok h1 hcur
   obtain ⟨h5, h6⟩ := mtAsC_ok h2 hc1
   refine ⟨h3.trans h5, fun {L hs η} hx hs' => ?_⟩
   obtain ⟨h7, h8⟩ := h6 hx hs'
   have h9 : (At.pj i q').rp ⟨n, env, η⟩ = (KA.pj j q).rp c0 L hs := h4 (hs'.le h5)
   refine ⟨⟨fun {F w v} hv => by rw [← h9]; exact hv, h7⟩, fun e => ?_⟩
   rw [List.map_cons, List.map_cons, h8 e, h9]
  ·obtain ⟨M1, h1, h2⟩ := Option.bind_eq_some_iff.1 h
   obtain ⟨h3, h4⟩ := mtA_ok h1
   obtain ⟨h5, h6⟩ := mtAsC_ok h2 .none
   refine ⟨h3.trans h5, fun hx hs => ?_⟩
   obtain ⟨h7, h8⟩ := h6 hx hs
   obtain ⟨h9, h10⟩ := h4 hx (hs.le h5)
   refine ⟨⟨h9, h7⟩, fun e => ?_⟩
   rw [List.map_cons, List.map_cons, h8 e, h10 (by subst e; rfl)]
 | [], _ :: _, _, _, _, h, _ => by simp [mtAsC] at h
 | _ :: _, [], _, _, _, h, _ => by simp [mtAsC] at h
def mtAs (P : Program) [PTab P] (ts : List Ty) (strict : Bool) (n0 : Nat) (env0 : List (Nat × Ent)) (n : Nat) (env : List (Nat × Ent)) (M : Mt) (ks : List KA) (as_ : List At) : Option Mt := mtAsC P ts strict n0 env0 n env none M ks as_
theorem mtAs_ok {c0 : Cx} {ts : List Ty} {strict : Bool} {ks : List KA} {as_ : List At} {M M' : Mt} (h : mtAs P ts strict c0.n c0.env n env M ks as_ = some M') :
  Mt.Le M M' ∧ ∀ {L : Nat → Nat → Option Dyn} {hs η : Nat → Hd}, Ext c0 ⟨n, env, η⟩ → MtSay L hs η M' → ImpAll (as_.map (At.rp ⟨n, env, η⟩)) (ks.map (KA.rp c0 L hs)) ∧ (strict = true → as_.map (At.rp ⟨n, env, η⟩) = ks.map (KA.rp c0 L hs)) := mtAsC_ok h .none

def mtV (P : Program) [PTab P] (ts : List Ty) (strict : Bool) (n0 : Nat) (env0 : List (Nat × Ent)) (n : Nat) (env : List (Nat × Ent)) (M : Mt) (k : Bool × List KA) : Sh → Option Mt
 | .vl g as_ => bif k.1 == g && (g || Nat.beq as_.length 1) then mtAs P ts strict n0 env0 n env M k.2 as_ else none
 | _ => none
theorem mtV_ok {c0 : Cx} {ts : List Ty} {strict : Bool} {M M' : Mt} {k : Bool × List KA} {s : Sh} (h : mtV P ts strict c0.n c0.env n env M k s = some M') :
  Mt.Le M M' ∧ ∀ {L : Nat → Nat → Option Dyn} {hs η : Nat → Hd}, Ext c0 ⟨n, env, η⟩ → MtSay L hs η M' → (∀ {F w v}, (s.rp ⟨n, env, η⟩).h F w v → (kvrp c0 L hs k).h F w v) ∧ (strict = true → s.rp ⟨n, env, η⟩ = kvrp c0 L hs k) := by
 unfold mtV at h
 split at h
 ·rename_i g as_
  cases hb : (k.1 == g && (g || Nat.beq as_.length 1)) with
  | false => rw [hb] at h; cases h
  | true =>
   rw [hb] at h
   simp only [Bool.and_eq_true, beq_iff_eq] at hb
   obtain ⟨hg, hlen⟩ := hb
   obtain ⟨h1, h2⟩ := mtAs_ok h
   refine ⟨h1, fun {L hs η} hx hsay => ?_⟩
   obtain ⟨h3, h4⟩ := h2 hx hsay
   obtain ⟨kg, ks⟩ := k
   simp only at hg h3 h4
   subst hg
   cases kg with
   | true =>
    refine ⟨fun hv => ?_, fun e => ?_⟩
    ·obtain ⟨cs, e1, h5⟩ := hv; exact ⟨cs, e1, h3.all h5⟩
    ·simp only [Sh.rp, vrp, kvrp, cond_true]; rw [h4 e]
   | false =>
    simp only [Bool.false_or] at hlen
    obtain ⟨a, rfl⟩ := List.length_eq_one_iff.1 (Nat.eq_of_beq_eq_true hlen)
    match ks, h3 with
    | [k], ⟨h3, _⟩ =>
     refine ⟨fun hv => h3 hv, fun e => ?_⟩
     have := h4 e
     simp only [List.map_cons, List.map_nil, List.cons.injEq, and_true] at this
     exact this
 ·cases h

def mtVs (P : Program) [PTab P] (ts : List Ty) (strict : Bool) (n0 : Nat) (env0 : List (Nat × Ent)) (n : Nat) (env : List (Nat × Ent)) : Mt → List (Bool × List KA) → List Sh → Option Mt
 | M, [], [] => some M
 | M, k :: ks, s :: ss => (mtV P ts strict n0 env0 n env M k s).bind fun M => mtVs P ts strict n0 env0 n env M ks ss
 | _, _, _ => none
theorem mtVs_ok {c0 : Cx} {ts : List Ty} {strict : Bool} : ∀ {ks : List (Bool × List KA)} {ss : List Sh} {M M' : Mt}, mtVs P ts strict c0.n c0.env n env M ks ss = some M' →
  Mt.Le M M' ∧ ∀ {L : Nat → Nat → Option Dyn} {hs η : Nat → Hd}, Ext c0 ⟨n, env, η⟩ → MtSay L hs η M' → ImpAll (ss.map (Sh.rp ⟨n, env, η⟩)) (ks.map (kvrp c0 L hs)) ∧ (strict = true → ss.map (Sh.rp ⟨n, env, η⟩) = ks.map (kvrp c0 L hs))
 | [], [], M, M', h => by cases h; exact ⟨.refl _, fun _ _ => ⟨trivial, fun _ => rfl⟩⟩
 | k :: ks, a :: as_, M, M', h => by
  simp only [mtVs] at h
  obtain ⟨M1, h1, h2⟩ := Option.bind_eq_some_iff.1 h
  obtain ⟨h3, h4⟩ := mtV_ok h1
  obtain ⟨h5, h6⟩ := mtVs_ok h2
  refine ⟨h3.trans h5, fun hx hs => ?_⟩
  obtain ⟨h7, h8⟩ := h6 hx hs
  obtain ⟨h9, h10⟩ := h4 hx (hs.le h5)
  refine ⟨⟨h9, h7⟩, fun e => ?_⟩
  rw [List.map_cons, List.map_cons, h8 e, h10 e]
 | [], _ :: _, _, _, h => by simp [mtVs] at h
 | _ :: _, [], _, _, h => by simp [mtVs] at h

def KO.key : KO → Option Nat
 | .oa k _ => some k
 | .oc k _ => some k
 | _ => none
def mtO (P : Program) [PTab P] (ts : List Ty) (n0 : Nat) (env0 : List (Nat × Ent)) (n : Nat) (env : List (Nat × Ent)) (O : List MO) (M : Mt) : KO → Option Mt
 | .oa k (.d j q) => (lkM M.om k).bind fun x => (anyA n env O x.1 x.2).bind fun p => M.word j q p.2
 | .oa k (.fx (.vr i)) => (lkM M.om k).bind fun x => (anyA n env O x.1 x.2).bind fun p => bif Nat.beq p.1 i && (lkE env0 i).isSome then some M else none
 | .oc k l => (lkM M.om k).bind fun x => (varC n O x.1 x.2).bind fun as_ => mtAs P ts true n0 env0 n env M l as_
 | _ => none
theorem mtO_ok {c0 : Cx} {ts : List Ty} {M M' : Mt} {o : KO} (h : mtO P ts c0.n c0.env n env O M o = some M') :
  Mt.Le M M' ∧ ∃ k p x, o.key = some k ∧ lkM M.om k = some (p, x) ∧ p < O.length ∧ Nat.blt x n = true ∧ ∀ {L : Nat → Nat → Option Dyn} {hs η : Nat → Hd}, Ext c0 ⟨n, env, η⟩ → MtSay L hs η M' → (oma ⟨n, env, η⟩ O)[p]? = some (o.ob c0 L hs) := by
 unfold mtO at h
 split at h
 ·rename_i k j q
  obtain ⟨⟨p, x⟩, h1, h⟩ := Option.bind_eq_some_iff.1 h
  obtain ⟨⟨i, D⟩, h2, h⟩ := Option.bind_eq_some_iff.1 h
  obtain ⟨h3, h4⟩ := Mt.word_ok h
  obtain ⟨hb, hlt, _, hj⟩ := anyA_ok h2
  refine ⟨h3, k, p, x, rfl, h1, hlt, hb, fun {L hs η} hx hsay => ?_⟩
  rw [hj η]
  simp only [KO.ob, KA.sl, hsay.w _ _ _ h4, hsay.o _ _ _ (h3.o _ _ h1)]
 ·rename_i k i0
  obtain ⟨⟨p, x⟩, h1, h⟩ := Option.bind_eq_some_iff.1 h
  obtain ⟨⟨i, D⟩, h2, h⟩ := Option.bind_eq_some_iff.1 h
  cases hbi : Nat.beq (i, D).1 i0 && (lkE c0.env i0).isSome with
  | false => rw [hbi] at h; cases h
  | true =>
   rw [hbi] at h; cases h
   simp only [Bool.and_eq_true] at hbi
   obtain rfl : i = i0 := Nat.eq_of_beq_eq_true hbi.1
   obtain ⟨e, he⟩ := Option.isSome_iff_exists.1 hbi.2
   obtain ⟨hb, hlt, ⟨s, hse⟩, hj⟩ := anyA_ok h2
   refine ⟨.refl _, k, p, x, rfl, h1, hlt, hb, fun {L hs η} hx hsay => ?_⟩
   have he' := hx.env i e he
   simp only at he'
   rw [hse] at he'
   obtain rfl := Option.some.inj he'
   rw [hj η]
   simp only [KO.ob, KA.sl, he, Option.map_some, hsay.o _ _ _ h1]
 ·rename_i k l
  obtain ⟨⟨p, x⟩, h1, h⟩ := Option.bind_eq_some_iff.1 h
  obtain ⟨as_, h2, h⟩ := Option.bind_eq_some_iff.1 h
  obtain ⟨h3, h4⟩ := mtAs_ok h
  obtain ⟨hb, hlt, hj⟩ := varC_ok (env := env) h2
  refine ⟨h3, k, p, x, rfl, h1, hlt, hb, fun {L hs η} hx hsay => ?_⟩
  rw [hj η]
  simp only [KO.ob, hsay.o _ _ _ (h3.o _ _ h1)]
  rw [(h4 hx hsay).2 rfl]
 ·cases h

def mtOs (P : Program) [PTab P] (ts : List Ty) (n0 : Nat) (env0 : List (Nat × Ent)) (n : Nat) (env : List (Nat × Ent)) (O : List MO) : Mt → List KO → Option Mt
 | M, [] => some M
 | M, o :: os => (mtO P ts n0 env0 n env O M o).bind fun M => mtOs P ts n0 env0 n env O M os
def posOs (M : Mt) : List KO → Option (List (Nat × Nat))
 | [] => some []
 | o :: os => (o.key.bind (lkM M.om)).bind fun x => (posOs M os).map (x :: ·)

theorem mtOs_ok {c0 : Cx} {ts : List Ty} : ∀ {os : List KO} {M M' : Mt}, mtOs P ts c0.n c0.env n env O M os = some M' →
  Mt.Le M M' ∧ ∀ {ps : List (Nat × Nat)}, posOs M' os = some ps → ps.length = os.length ∧ (∀ x ∈ ps, x.1 < O.length ∧ Nat.blt x.2 n = true) ∧ ∀ {L : Nat → Nat → Option Dyn} {hs η : Nat → Hd}, Ext c0 ⟨n, env, η⟩ → MtSay L hs η M' → ∀ (i : Nat) (p : Nat × Nat) (o : KO), ps[i]? = some p → os[i]? = some o → (oma ⟨n, env, η⟩ O)[p.1]? = some (o.ob c0 L hs)
 | [], M, M', h => by cases h; exact ⟨.refl _, fun hp => by cases hp; exact ⟨rfl, by simp, fun _ _ i p o h => by simp at h⟩⟩
 | o :: os, M, M', h => by
  simp only [mtOs] at h
  obtain ⟨M1, h1, h2⟩ := Option.bind_eq_some_iff.1 h
  obtain ⟨h3, k, p, x, hk, hm, hlt, hb, hat⟩ := mtO_ok h1
  obtain ⟨h5, h6⟩ := mtOs_ok h2
  refine ⟨h3.trans h5, fun {ps} hp => ?_⟩
  simp only [posOs, hk, Option.bind_some, h5.o _ _ (h3.o _ _ hm)] at hp
  obtain ⟨ps', hp', rfl⟩ := Option.map_eq_some_iff.1 hp
  obtain ⟨h7, h8, h9⟩ := h6 hp'
  refine ⟨by simp [h7], fun y hy => ?_, fun hx hsay i q o' hq ho' => ?_⟩
  ·rcases List.mem_cons.1 hy with e | e
   ·rw [e]; exact ⟨hlt, hb⟩
   ·exact h8 y e
  ·cases i with
   | zero =>
    simp only [List.getElem?_cons_zero, Option.some.injEq] at hq ho'
    subst hq; subst ho'
    exact hat hx (hsay.le h5)
   | succ i => exact h9 hx hsay i q o' (by simpa using hq) (by simpa using ho')

def wordsN (ws : List ((Nat × Nat) × Dyn)) (j : Nat) : Nat → Nat → Option (List Dyn)
 | _, 0 => some []
 | q, k + 1 => (lkW ws j q).bind fun D => (wordsN ws j (q + 1) k).map (D :: ·)
theorem wordsN_get {ws : List ((Nat × Nat) × Dyn)} {j : Nat} : ∀ {k q : Nat} {l : List Dyn}, wordsN ws j q k = some l → l.length = k ∧ ∀ i, i < k → l[i]? = lkW ws j (q + i)
 | 0, q, l, h => by cases h; exact ⟨rfl, fun i hi => by omega⟩
 | k + 1, q, l, h => by
  simp only [wordsN] at h
  obtain ⟨D, h1, h2⟩ := Option.bind_eq_some_iff.1 h
  obtain ⟨l', h3, rfl⟩ := Option.map_eq_some_iff.1 h2
  obtain ⟨h4, h5⟩ := wordsN_get h3
  refine ⟨by simp [h4], fun i hi => ?_⟩
  cases i with
  | zero => simp [h1]
  | succ i => simp only [List.getElem?_cons_succ]; rw [h5 i (by omega)]; congr 1; omega

def comp (P : Program) [PTab P] (ws : List ((Nat × Nat) × Dyn)) (j : Nat) (t : Ty) : Option t.den := match t with
 | .st k => (wordsN ws j 0 (PTab.fts P k).length).bind (PTab.join (P := P) k)
 | t => (lkW ws j 0).bind fun D => if h : D.t = t then some (h ▸ D.d) else none
def nleaf (P : Program) [PTab P] : Ty → Nat
 | .st k => (PTab.fts P k).length
 | _ => 1
theorem comp_get {ws : List ((Nat × Nat) × Dyn)} {j q : Nat} {t : Ty} {d : t.den} {D : Dyn} (h : comp P ws j t = some d) (hD : lkW ws j q = some D) (hq : q < nleaf P t) : (leaves P ⟨t, d⟩)[q]? = some D := by
 have one : ∀ {t : Ty} {d : t.den}, ((lkW ws j 0).bind fun D => if h : D.t = t then some (h ▸ D.d) else none) = some d → q < 1 → ([(⟨t, d⟩ : Dyn)])[q]? = some D := by
  intro t d h hq
  obtain rfl : q = 0 := by omega
  rw [hD] at h
  simp only [Option.bind_some] at h
  split at h
  ·rename_i e; subst e; cases h; rfl
  ·cases h
 cases t with
 | st k =>
  simp only [comp] at h
  obtain ⟨l, h1, h2⟩ := Option.bind_eq_some_iff.1 h
  have h3 : PTab.split (P := P) k d = l := PTab.join_ok' k l d h2
  show (PTab.split (P := P) k d)[q]? = _
  rw [h3, (wordsN_get h1).2 q hq, Nat.zero_add, hD]
 | int k => exact one h hq
 | bool => exact one h hq
 | str => exact one h hq
 | sl t => exact one h hq
 | op t => exact one h hq
 | mp k v => exact one h hq
 | vec k => exact one h hq
 | dp t => exact one h hq
 | dh t => exact one h hq

def wsOk (P : Program) [PTab P] (ts : List Ty) : List ((Nat × Nat) × Dyn) → Bool
 | [] => true
 | ((j, q), _) :: r => (match ts[j]? with | some t => Nat.blt q (nleaf P t) | none => false) && wsOk P ts r
theorem wsOk_get {ts : List Ty} : ∀ {ws : List ((Nat × Nat) × Dyn)}, wsOk P ts ws = true → ∀ {j q : Nat} {D : Dyn}, lkW ws j q = some D → ∃ t, ts[j]? = some t ∧ q < nleaf P t
 | [], _, j, q, D, h => by cases h
 | ((j', q'), D') :: r, hw, j, q, D, h => by
  simp only [wsOk, Bool.and_eq_true] at hw
  simp only [lkW] at h
  cases hb : Nat.beq j' j && Nat.beq q' q with
  | false => rw [hb] at h; exact wsOk_get hw.2 h
  | true =>
   simp only [Bool.and_eq_true] at hb
   obtain rfl := Nat.eq_of_beq_eq_true hb.1
   obtain rfl := Nat.eq_of_beq_eq_true hb.2
   have h1 := hw.1
   split at h1
   ·rename_i t ht; exact ⟨t, ht, by simpa [Nat.blt_eq] using h1⟩
   ·cases h1

theorem tupGet_ty : ∀ {ts : List Ty} {a : Tup ts} {j : Nat} {t : Ty}, ts[j]? = some t → ∃ d, tupGet ts a j = some ⟨t, d⟩
 | [], _, _, _, h => by simp at h
 | [t], a, 0, _, h => by simp at h; subst h; exact ⟨a, rfl⟩
 | [t], a, j + 1, _, h => by simp at h
 | t :: u :: ts, a, 0, _, h => by simp at h; subst h; exact ⟨a.1, rfl⟩
 | t :: u :: ts, a, j + 1, _, h => tupGet_ty (ts := u :: ts) (a := a.2) (j := j) (by simpa using h)

def Mt.tup (P : Program) [PTab P] (M : Mt) (ts : List Ty) : Option (Tup ts) := bif wsOk P ts M.ws then tupMk ts (fun j t => comp P M.ws j t) 0 else none
theorem Mt.tup_ok {M : Mt} {ts : List Ty} {a : Tup ts} (h : M.tup P ts = some a) {j q : Nat} {D : Dyn} (hD : lkW M.ws j q = some D) : leaf P ts a j q = some D := by
 unfold Mt.tup at h
 cases hb : wsOk P ts M.ws with
 | false => rw [hb] at h; cases h
 | true =>
  rw [hb] at h
  obtain ⟨t, ht, hq⟩ := wsOk_get hb hD
  obtain ⟨d, hd⟩ := tupGet_ty (a := a) ht
  have h1 := tupMk_get h hd
  rw [Nat.zero_add] at h1
  unfold leaf
  rw [hd]
  exact comp_get h1 hD hq

def Mt.hs (M : Mt) (η : Nat → Hd) : Nat → Hd := fun k => match lkM M.om k with
 | some x => η x.2
 | none => ⟨.bool true, [], 0, rfl, fun _ => nilB⟩
theorem Mt.say {M : Mt} {ts : List Ty} {a : Tup ts} (h : M.tup P ts = some a) (η : Nat → Hd) : MtSay (leaf P ts a) (M.hs η) η M :=
 ⟨fun j q D hD => M.tup_ok h hD, fun k o x hk => by simp only [Mt.hs, hk]⟩
end Go.Dc

namespace Go.Dc
section
variable [DrawMode] {P : Program} [PTab P] {E : Env} {N : Nat} {op : Op} {ty : TypeId} {n : Nat} {env : List (Nat × Ent)} {G : List (Nat × Sh)} {O : List MO}

def opds (G : List (Nat × Sh)) : List Operand → Option (List Sh)
 | [] => some []
 | x :: xs => (opd G x).bind fun s => (opds G xs).map (s :: ·)
def capSh : Cap → Sh
 | .ptr o h => .vl false [.ptr o h 0]
 | .fn f => .vl false [.fn f []]
 | .nilp => .vl false [.nilp]
theorem capSh_ok {c : Cx} {k : Cap} (h : Cap.ok c.n k = true) {F : FP} {w : World} : ((capSh k).rp c).h F w (k.val c.η) := by
 cases k with
 | ptr o x =>
  have hb : Nat.blt x c.n = true := h
  show ((At.ptr o x 0).rp c).h F w _
  rw [ptr_rp hb]; rfl
 | fn f =>
  have hb : Nat.blt f fnB = true := h
  show Cap.val c.η (.fn f) = fnV f []
  rw [fnV_un hb]; rfl
 | nilp => rfl
def fnT (f : Nat) : Nat := bif Nat.blt f fnB then f else f - fnB
def fnA {α : Type} (f : Nat) (l cs : List α) : List α := bif Nat.blt f fnB then l ++ cs else cs ++ l
theorem run_callV {f : Nat} {x : Operand} {args : List Operand} {ats : Array TypeId} {a : Act} {w : World} {caps : List Value}
  (hcall : ∀ args w, (callFunc (fnT f) args).run P w = .ok (.enter (fnT f) args) w) (hx : a.eval x = fnV f caps) (o : Oper) (ho : o.op = .call ⟨.value x, args.toArray, ats⟩) :
  (execOp a.eval o).run P w = .ok (.enter (fnT f) ((fnA f args (caps.map .const)).map a.eval).toArray) w := by
 have e : (caps.map Operand.const).map a.eval = caps := by rw [List.map_map]; exact List.map_id'' (fun _ => rfl) caps
 unfold fnV at hx
 cases hb : Nat.blt f fnB with
 | true =>
  rw [hb] at hx
  have ht : fnT f = f := by unfold fnT; rw [hb]; rfl
  rw [ht] at hcall ⊢
  simp only [fnA, hb, cond_true, List.map_append, e]
  rw [run_call hcall hx o ho]; simp
 | false =>
  rw [hb] at hx
  have ht : fnT f = f - fnB := by unfold fnT; rw [hb]; rfl
  rw [ht] at hcall ⊢
  have hx' : a.eval x = .func (.func (f - fnB)) caps.toArray #[] := hx
  simp only [fnA, hb, cond_false, List.map_append, e]
  simp [execOp, ho, resolve, hx', Deferred.ofValue, invoke, hcall]
theorem argsOk {c : Cx} {Ω : List OB} : ∀ {xs : List Operand} {cs : List Cap} {ss : List Sh} {φs : List RP}, opds G xs = some ss → cs.all (Cap.ok c.n) = true → ImpAll ((ss ++ cs.map capSh).map (Sh.rp c)) φs →
  ArgsOk E N (gma c G) Ω frF (xs ++ (cs.map (Cap.val c.η)).map .const) φs
 | [], [], ss, φs, h, _, hi => by
  cases h
  match φs, hi with
  | [], _ => trivial
 | [], k :: cs, ss, φs, h, hc, hi => by
  cases h
  simp only [List.all_cons, Bool.and_eq_true] at hc
  match φs, hi with
  | φ :: φs, ⟨h1, h2⟩ => exact ⟨fun a w hs => h1 (capSh_ok (c := c) hc.1), argsOk (xs := []) (ss := []) rfl hc.2 h2⟩
 | x :: xs, cs, ss, φs, h, hc, hi => by
  simp only [opds] at h
  obtain ⟨s, h1, h2⟩ := Option.bind_eq_some_iff.1 h
  obtain ⟨ss', h3, rfl⟩ := Option.map_eq_some_iff.1 h2
  match φs, hi with
  | φ :: φs, ⟨h4, h5⟩ => exact ⟨fun a w hs => h4 (hs.op (opd_rp h1)), argsOk h3 hc h5⟩

theorem argsOkB {c : Cx} {Ω : List OB} {xs : List Operand} {ss : List Sh} (hss : opds G xs = some ss) : ∀ {cs : List Cap} {φs : List RP}, cs.all (Cap.ok c.n) = true → ImpAll ((cs.map capSh ++ ss).map (Sh.rp c)) φs →
  ArgsOk E N (gma c G) Ω frF ((cs.map (Cap.val c.η)).map .const ++ xs) φs
 | [], φs, _, hi => by
  have h := argsOk (E := E) (N := N) (c := c) (Ω := Ω) (cs := []) (φs := φs) hss rfl (by simpa using hi)
  simpa using h
 | k :: cs, φs, hc, hi => by
  simp only [List.all_cons, Bool.and_eq_true] at hc
  match φs, hi with
  | φ :: φs, ⟨h1, h2⟩ => exact ⟨fun a w hs => h1 (capSh_ok (c := c) hc.1), argsOkB hss hc.2 h2⟩
theorem argsOkV {c : Cx} {Ω : List OB} {f : Nat} {xs : List Operand} {ss : List Sh} {cs : List Cap} {φs : List RP} (hss : opds G xs = some ss) (hcs : cs.all (Cap.ok c.n) = true) (hi : ImpAll ((fnA f ss (cs.map capSh)).map (Sh.rp c)) φs) :
  ArgsOk E N (gma c G) Ω frF (fnA f xs ((cs.map (Cap.val c.η)).map .const)) φs := by
 unfold fnA at hi ⊢
 cases hb : Nat.blt f fnB with
 | true => rw [hb] at hi; exact argsOk hss hcs hi
 | false => rw [hb] at hi; exact argsOkB hss hcs hi

def KA.words : KA → List (Nat × Nat)
 | .d j q => [(j, q)]
 | .pj j 0 => [(j, 0)]
 | .vs _ _ j q _ => [(j, q)]
 | _ => []
def KO.words : KO → List (Nat × Nat)
 | .oa _ w => w.words
 | .oc _ l => l.flatMap KA.words
 | _ => []
def Con.wl [SDen] (C : Con) : List (Nat × Nat) := C.rs.flatMap (fun v => v.2.flatMap KA.words) ++ C.os'.flatMap KO.words
def leafs (P : Program) [PTab P] (ts : List Ty) (r : Tup ts) : List (Nat × Nat) → Option (List Dyn)
 | [] => some []
 | (j, q) :: l => (leaf P ts r j q).bind fun D => (leafs P ts r l).map (D :: ·)
theorem leafs_get {ts : List Ty} {r : Tup ts} : ∀ {l : List (Nat × Nat)} {Ds : List Dyn}, leafs P ts r l = some Ds → Ds.length = l.length ∧ ∀ {i : Nat} {p : Nat × Nat}, l[i]? = some p → ∃ D, Ds[i]? = some D ∧ leaf P ts r p.1 p.2 = some D
 | [], _, h => by cases h; exact ⟨rfl, fun h => by simp at h⟩
 | (j, q) :: l, Ds, h => by
  simp only [leafs] at h
  obtain ⟨D, h1, h2⟩ := Option.bind_eq_some_iff.1 h
  obtain ⟨Ds', h3, rfl⟩ := Option.map_eq_some_iff.1 h2
  obtain ⟨h4, h5⟩ := leafs_get h3
  refine ⟨by simp [h4], fun {i p} hp => ?_⟩
  cases i with
  | zero => simp only [List.getElem?_cons_zero, Option.some.injEq] at hp; subst hp; exact ⟨D, rfl, h1⟩
  | succ i => exact h5 (by simpa using hp)
def ixW : List (Nat × Nat) → Nat → Nat → Nat → Option Nat
 | [], _, _, _ => none
 | (j, q) :: l, i, p, k => bif Nat.beq j i && Nat.beq q p then some k else ixW l i p (k + 1)
theorem ixW_get : ∀ {l : List (Nat × Nat)} {j q k i : Nat}, ixW l j q k = some i → k ≤ i ∧ l[i - k]? = some (j, q)
 | [], _, _, _, _, h => by cases h
 | (j', q') :: l, j, q, k, i, h => by
  simp only [ixW] at h
  cases hb : Nat.beq j' j && Nat.beq q' q with
  | true =>
   rw [hb] at h; cases h
   simp only [Bool.and_eq_true] at hb
   obtain rfl := Nat.eq_of_beq_eq_true hb.1
   obtain rfl := Nat.eq_of_beq_eq_true hb.2
   exact ⟨Nat.le_refl _, by simp⟩
  | false =>
   rw [hb] at h
   obtain ⟨h1, h2⟩ := ixW_get h
   refine ⟨by omega, ?_⟩
   rw [show i - k = (i - (k + 1)) + 1 from by omega]
   simpa using h2

end
section
variable [SRep] [DrawMode]
structure Bk where
 n0 : Nat
 env0 : List (Nat × Ent)
 n : Nat
 wl : List (Nat × Nat)
 om : List (Nat × (Nat × Nat))
 nh : Nat
 nh' : Nat
 pos : Nat → Nat
def Bk.hid (B : Bk) (k : Nat) : Option Nat := bif Nat.blt k B.nh then (match lkM B.om k with
  | some (_, h) => bif Nat.blt h B.n then some h else none
  | none => none) else bif Nat.blt k B.nh' then some (B.n + B.wl.length + (k - B.nh)) else none
def Bk.caps (B : Bk) : List (Option Nat) → Option (List Cap)
 | [] => some []
 | none :: l => (B.caps l).map (.nilp :: ·)
 | some k :: l => (B.hid k).bind fun h => (B.caps l).map (.ptr (B.pos k) h :: ·)
def Bk.at (B : Bk) : KA → Option At
 | .d j q => (ixW B.wl j q 0).map fun i => .vr (B.n + i)
 | .own k => (B.hid k).map fun h => .own (B.pos k) h
 | .ptr k => (B.hid k).map fun h => .ptr (B.pos k) h 0
 | .mp k => (B.hid k).map fun h => .mp (B.pos k) h
 | .fn f cs => (B.caps cs).map (.fn f)
 | .nl => some .nl
 | .nilp => some .nilp
 | .nilf => some .nilf
 | .pj j q => (ixW B.wl j 0 0).map fun i => .pj (B.n + i) q
 | .vs k off j q c => (B.hid k).bind fun h => (ixW B.wl j q 0).map fun i => .vs (B.pos k) h off (B.n + i) c
 | .fx a => bif a.clo B.n0 B.env0 then some a else none
def Bk.ats (B : Bk) : List KA → Option (List At)
 | [] => some []
 | k :: l => (B.at k).bind fun a => (B.ats l).map (a :: ·)
def Bk.vals (B : Bk) : List (Bool × List KA) → Option (List (Bool × List At))
 | [] => some []
 | (g, l) :: r => (B.ats l).bind fun as_ => (B.vals r).map ((g, as_) :: ·)
def Bk.obj (B : Bk) : KO → Option MO
 | .dead => some .dead
 | .same => none
 | .oa k (.d j q) => (B.hid k).bind fun h => (ixW B.wl j q 0).map fun i => .oa h (B.n + i)
 | .oa k (.fx (.vr i)) => (B.hid k).bind fun h => bif (lkE B.env0 i).isSome then some (.oa h i) else none
 | .oa _ _ => none
 | .oc k l => (B.hid k).bind fun h => (B.ats l).map fun as_ => .oc h as_
def Bk.objs (B : Bk) (O : List MO) : List Nat → List KO → Option (List MO × List MO)
 | p :: ps, .same :: os => (O[p]?).bind fun o => (B.objs O ps os).map fun r => (o :: r.1, r.2)
 | _ :: ps, o :: os => (B.obj o).bind fun m => (B.objs O ps os).map fun r => (m :: r.1, r.2)
 | [], o :: os => (B.obj o).bind fun m => (B.objs O [] os).map fun r => (r.1, m :: r.2)
 | [], [] => some ([], [])
 | _ :: _, [] => none

structure BkSay (B : Bk) (L : Nat → Nat → Option Dyn) (hs : Nat → Hd) (c0 c : Cx) : Prop where
 n0 : B.n0 = c0.n
 env0 : B.env0 = c0.env
 x : Ext c0 c
 w : ∀ j q i, ixW B.wl j q 0 = some i → ∃ D, lkE c.env (B.n + i) = some ⟨D.t, D.d, none⟩ ∧ L j q = some D ∧ D.t.one = true
 h : ∀ k x, B.hid k = some x → c.η x = hs k ∧ Nat.blt x c.n = true

section
variable {B : Bk} {L : Nat → Nat → Option Dyn} {hs : Nat → Hd} {c0 c : Cx}
theorem BkSay.caps (H : BkSay B L hs c0 c) : ∀ {l : List (Option Nat)} {cs : List Cap}, B.caps l = some cs → cs.map (Cap.val c.η) = l.map (kcap hs) ∧ cs.all (Cap.ok c.n) = true
 | [], _, h => by cases h; exact ⟨rfl, rfl⟩
 | none :: l, cs, h => by
  simp only [Bk.caps] at h
  obtain ⟨cs', h1, rfl⟩ := Option.map_eq_some_iff.1 h
  obtain ⟨h2, h3⟩ := H.caps h1
  exact ⟨by rw [List.map_cons, List.map_cons, h2]; rfl, by simp [h3, Cap.ok]⟩
 | some k :: l, cs, h => by
  simp only [Bk.caps] at h
  obtain ⟨x, h0, h⟩ := Option.bind_eq_some_iff.1 h
  obtain ⟨cs', h1, rfl⟩ := Option.map_eq_some_iff.1 h
  obtain ⟨h2, h3⟩ := H.caps h1
  obtain ⟨h4, h5⟩ := H.h _ _ h0
  refine ⟨by rw [List.map_cons, List.map_cons, h2]; simp only [kcap, Cap.val, h4], ?_⟩
  rw [List.all_cons, h3]
  show (Nat.blt x c.n && true) = true
  rw [h5]; rfl
theorem BkSay.at (H : BkSay B L hs c0 c) {k : KA} {a : At} (h : B.at k = some a) : a.rp c = k.rp c0 L hs := by
 cases k with
 | d j q =>
  simp only [Bk.at] at h
  obtain ⟨i, h1, rfl⟩ := Option.map_eq_some_iff.1 h
  obtain ⟨D, h2, h3, h4⟩ := H.w _ _ _ h1
  simp only [At.rp, h2, h4, cond_true, KA.rp, h3, Dyn.rp]
 | own k =>
  obtain ⟨x, h1, rfl⟩ := Option.map_eq_some_iff.1 h
  obtain ⟨h2, h3⟩ := H.h _ _ h1
  rw [own_rp h3, h2]; rfl
 | ptr k =>
  obtain ⟨x, h1, rfl⟩ := Option.map_eq_some_iff.1 h
  obtain ⟨h2, h3⟩ := H.h _ _ h1
  rw [ptr_rp h3, h2]; rfl
 | mp k =>
  obtain ⟨x, h1, rfl⟩ := Option.map_eq_some_iff.1 h
  obtain ⟨h2, h3⟩ := H.h _ _ h1
  simp only [At.rp, h3, cond_true, h2]; rfl
 | fn f cs =>
  obtain ⟨ds, h1, rfl⟩ := Option.map_eq_some_iff.1 h
  obtain ⟨h2, h3⟩ := H.caps h1
  simp only [At.rp, h3, cond_true, h2]; rfl
 | nl => cases h; rfl
 | nilp => cases h; rfl
 | nilf => cases h; rfl
 | pj j q =>
  obtain ⟨i, h1, rfl⟩ := Option.map_eq_some_iff.1 h
  obtain ⟨⟨t, d⟩, h2, h3, h4⟩ := H.w _ _ _ h1
  simp only [At.rp, h2, KA.rp, h3]
  cases t <;> rfl
 | vs k off j q cp =>
  simp only [Bk.at] at h
  obtain ⟨x, h0, h⟩ := Option.bind_eq_some_iff.1 h
  obtain ⟨i, h1, rfl⟩ := Option.map_eq_some_iff.1 h
  obtain ⟨⟨t, d⟩, h2, h3, h4⟩ := H.w _ _ _ h1
  obtain ⟨h5, h6⟩ := H.h _ _ h0
  simp only [At.rp, h2, KA.rp, h3]
  cases t with
  | int kd => simp only [h6, cond_true, h5]
  | _ => rfl
 | fx a' =>
  simp only [Bk.at] at h
  cases hb : a'.clo B.n0 B.env0 with
  | false => rw [hb] at h; cases h
  | true =>
   rw [hb] at h; cases h
   rw [H.n0, H.env0] at hb
   exact At.clo_ok H.x hb
theorem BkSay.ats (H : BkSay B L hs c0 c) : ∀ {l : List KA} {as_ : List At}, B.ats l = some as_ → as_.map (At.rp c) = l.map (KA.rp c0 L hs)
 | [], _, h => by cases h; rfl
 | k :: l, as_, h => by
  simp only [Bk.ats] at h
  obtain ⟨a, h1, h2⟩ := Option.bind_eq_some_iff.1 h
  obtain ⟨as_', h3, rfl⟩ := Option.map_eq_some_iff.1 h2
  rw [List.map_cons, List.map_cons, H.at h1, H.ats h3]
theorem BkSay.vals (H : BkSay B L hs c0 c) : ∀ {l : List (Bool × List KA)} {vs : List (Bool × List At)}, B.vals l = some vs → (vs.map fun x => vrp c x.1 x.2) = l.map (kvrp c0 L hs)
 | [], _, h => by cases h; rfl
 | (g, l) :: r, vs, h => by
  simp only [Bk.vals] at h
  obtain ⟨as_, h1, h2⟩ := Option.bind_eq_some_iff.1 h
  obtain ⟨vs', h3, rfl⟩ := Option.map_eq_some_iff.1 h2
  rw [List.map_cons, List.map_cons, H.vals h3]
  simp only [vrp, kvrp]
  rw [H.ats h1]
theorem BkSay.obj (H : BkSay B L hs c0 c) {o : KO} {m : MO} (h : B.obj o = some m) : m.ob c = o.ob c0 L hs := by
 cases o with
 | dead => cases h; rfl
 | same => cases h
 | oa k w =>
  unfold Bk.obj at h
  split at h
  ·rename_i e0; cases e0
  ·cases h
  ·rename_i k j q e0
   cases e0
   obtain ⟨x, h1, h2⟩ := Option.bind_eq_some_iff.1 h
   obtain ⟨i, h3, rfl⟩ := Option.map_eq_some_iff.1 h2
   obtain ⟨h4, h5⟩ := H.h _ _ h1
   obtain ⟨D, h6, h7, _⟩ := H.w _ _ _ h3
   simp only [MO.ob, h6, KO.ob, KA.sl, h7, h5, cond_true, h4]
  ·rename_i k i e0
   cases e0
   obtain ⟨x, h1, h2⟩ := Option.bind_eq_some_iff.1 h
   cases hb : (lkE B.env0 i).isSome with
   | false => rw [hb] at h2; cases h2
   | true =>
    rw [hb] at h2; cases h2
    rw [H.env0] at hb
    obtain ⟨e, he⟩ := Option.isSome_iff_exists.1 hb
    obtain ⟨h4, h5⟩ := H.h _ _ h1
    simp only [MO.ob, H.x.env i e he, KO.ob, KA.sl, he, Option.map_some, h5, cond_true, h4]
  ·cases h
  ·rename_i e0; cases e0
 | oc k l =>
  simp only [Bk.obj] at h
  obtain ⟨x, h1, h2⟩ := Option.bind_eq_some_iff.1 h
  obtain ⟨as_, h3, rfl⟩ := Option.map_eq_some_iff.1 h2
  obtain ⟨h4, h5⟩ := H.h _ _ h1
  simp only [MO.ob, h5, cond_true, h4, KO.ob, H.ats h3]
end

end
section
variable [DrawMode] {P : Program} [PTab P] {E : Env} {N : Nat} {op : Op} {ty : TypeId} {n : Nat} {env : List (Nat × Ent)} {G : List (Nat × Sh)} {O : List MO}
theorem setAll_self : ∀ {js : List Nat} {os Ω : List OB} {i j : Nat} {o : OB}, js[i]? = some j → os[i]? = some o → hasN (js.drop (i + 1)) j = false → j < Ω.length → (setAll js os Ω)[j]? = some o
 | [], _, _, i, _, _, h, _, _, _ => by simp at h
 | _ :: _, [], _, i, _, _, _, h, _, _ => by simp at h
 | k :: js, p :: os, Ω, 0, j, o, h1, h2, h3, h4 => by
  simp only [List.getElem?_cons_zero, Option.some.injEq] at h1 h2
  subst h1; subst h2
  simp only [setAll]
  rw [setAll_out (fun hh => by simp only [List.drop_succ_cons, List.drop_zero] at h3; rw [hasN_iff.2 hh] at h3; cases h3), List.getElem?_set_self h4]
 | k :: js, p :: os, Ω, i + 1, j, o, h1, h2, h3, h4 => by
  simp only [setAll]
  exact setAll_self (i := i) (by simpa using h1) (by simpa using h2) (by simpa using h3) (by simpa using h4)

def nodupN : List Nat → Bool
 | [] => true
 | j :: js => !hasN js j && nodupN js
theorem nodupN_drop : ∀ {js : List Nat}, nodupN js = true → ∀ {i j : Nat}, js[i]? = some j → hasN (js.drop (i + 1)) j = false
 | [], _, i, j, h => by simp at h
 | k :: js, hn, 0, j, h => by
  simp only [nodupN, Bool.and_eq_true, Bool.not_eq_true'] at hn
  simp only [List.getElem?_cons_zero, Option.some.injEq] at h
  subst h; simpa using hn.1
 | k :: js, hn, i + 1, j, h => by
  simp only [nodupN, Bool.and_eq_true] at hn
  simpa using nodupN_drop hn.2 (i := i) (by simpa using h)

theorem updO_len : ∀ {l : List (Nat × MO)} {O : List MO}, (updO l O).length = O.length
 | [], _ => rfl
 | (j, o) :: l, O => by simp only [updO]; rw [updO_len]; simp
theorem updO_out {i : Nat} : ∀ {l : List (Nat × MO)} {O : List MO}, i ∉ l.map (·.1) → (updO l O)[i]? = O[i]?
 | [], _, _ => rfl
 | (j, o) :: l, O, h => by
  simp only [List.map_cons, List.mem_cons, not_or] at h
  simp only [updO]
  rw [updO_out h.2, List.getElem?_set_ne (Ne.symm h.1)]
theorem updO_self : ∀ {js : List Nat} {ms : List MO} {O : List MO} {i j : Nat} {m : MO}, js[i]? = some j → ms[i]? = some m → hasN (js.drop (i + 1)) j = false → j < O.length → js.length = ms.length → (updO (js.zip ms) O)[j]? = some m
 | [], _, _, i, _, _, h, _, _, _, _ => by simp at h
 | _ :: _, [], _, i, _, _, _, h, _, _, _ => by simp at h
 | k :: js, p :: ms, O, 0, j, m, h1, h2, h3, h4, h5 => by
  simp only [List.getElem?_cons_zero, Option.some.injEq] at h1 h2
  subst h1; subst h2
  simp only [List.zip_cons_cons, updO]
  rw [updO_out, List.getElem?_set_self h4]
  intro hm
  simp only [List.drop_succ_cons, List.drop_zero] at h3
  have : k ∈ js := by
   obtain ⟨x, hx, e⟩ := List.mem_map.1 hm
   rw [← e]; exact (List.of_mem_zip hx).1
  rw [hasN_iff.2 this] at h3; cases h3
 | k :: js, p :: ms, O, i + 1, j, m, h1, h2, h3, h4, h5 => by
  simp only [List.zip_cons_cons, updO]
  exact updO_self (i := i) (by simpa using h1) (by simpa using h2) (by simpa using h3) (by simpa using h4) (by simpa using h5)

theorem oma_setAll {c c' : Cx} (hx : Ext c c') {O : List MO} {Γ : List (Nat × RP)} {a : Act} {w : World} {js : List Nat} {ms : List MO} {obs : List OB} {new : List MO} {ex : List OB} (hnd : nodupN js = true) (hlt : ∀ j ∈ js, j < O.length)
  (hl : js.length = ms.length) (hl' : js.length = obs.length) (hm : ∀ (i : Nat) (m : MO) (o : OB), ms[i]? = some m → obs[i]? = some o → m.ob c' = o) (hn : new.map (MO.ob c') = ex)
  (hs : Sat E N Γ (setAll js obs (oma c O) ++ ex) a w) : oma c' (updO (js.zip ms) O ++ new) = setAll js obs (oma c O) ++ ex := by
 unfold oma at hs ⊢
 rw [List.map_append, hn]
 congr 1
 refine List.ext_getElem? fun j => ?_
 rw [List.getElem?_map]
 by_cases hj : j ∈ js
 ·obtain ⟨i, hi⟩ := List.mem_iff_getElem?.1 hj
  have hil : i < js.length := (List.getElem?_eq_some_iff.1 hi).1
  obtain ⟨m, hm1⟩ : ∃ m, ms[i]? = some m := ⟨ms[i]'(by omega), List.getElem?_eq_getElem (by omega)⟩
  obtain ⟨o, ho1⟩ : ∃ o, obs[i]? = some o := ⟨obs[i]'(by omega), List.getElem?_eq_getElem (by omega)⟩
  rw [updO_self hi hm1 (nodupN_drop hnd hi) (hlt j hj) hl, setAll_self hi ho1 (nodupN_drop hnd hi) (by simpa using hlt j hj)]
  simp only [Option.map_some]
  rw [hm i m o hm1 ho1]
 ·rw [updO_out, setAll_out hj, List.getElem?_map]
  ·cases ho : O[j]? with
   | none => rfl
   | some q =>
    simp only [Option.map_some]
    have hq : (setAll js obs (O.map (MO.ob c)) ++ ex)[j]? = some (q.ob c) := by
     rw [List.getElem?_append_left (by rw [setAll_len, List.length_map]; exact (List.getElem?_eq_some_iff.1 ho).1), setAll_out hj, List.getElem?_map, ho]; rfl
    rw [MO.ob_eq hx (hs.ob _ (List.mem_of_getElem? hq))]
  ·intro hm
   obtain ⟨x, hx', e⟩ := List.mem_map.1 hm
   exact hj (by rw [← e]; exact (List.of_mem_zip hx').1)
end
end Go.Dc
