/- Part Dc.Cpt of a proof: lemmas. -/
import Derived.Test.YtcopohboenimpaaGreatDoorMDrawP
import Derived.Test.YtcopohboenimpaaGreatDoorDcEqS
import Derived.Scope
import Derived.Test.YtcopohboenimpaaGreatDoorDcSub
import Derived.Shelf.SlSortCmp.InsertionK
import Derived.Shelf.SlSortCmp.Kit1
import Derived.Shelf.Spec.TrailingZeros
import Derived.Shelf.Slices.CompactI
set_option linter.unusedSectionVars false
set_option linter.unusedVariables false
/-! Regions whose order is drawn: at most one loud operation is ready at a time. -/
namespace Go.Dc

section
variable [SRep] [DrawMode]
/-- reads that are still to come are not disturbed -/
def Calm (Ω Ω' : List OB) : Prop := (ow Ω).Nodup → (ow Ω').Nodup ∧ ∀ (b : Nat) (J : List Nat), (b ∉ ow Ω ∨ ∃ j ∈ J, ∃ ob, Ω[j]? = some ob ∧ b ∈ ob.S) → (b ∉ ow Ω' ∨ ∃ j ∈ J, ∃ ob, Ω'[j]? = some ob ∧ b ∈ ob.S)
theorem Calm.refl (Ω : List OB) : Calm Ω Ω := fun h => ⟨h, fun _ _ h => h⟩
theorem Calm.trans {A B C : List OB} (h : Calm A B) (k : Calm B C) : Calm A C := fun hn => ⟨(k (h hn).1).1, fun b J hb => (k (h hn).1).2 b J ((h hn).2 b J hb)⟩

theorem calm_map {c : Cx} {f : At → At} {O : List MO} : Calm (oma c O) (oma c (mapO f O)) := fun hn => by
  refine ⟨by rw [ow_mapO]; exact hn, fun b J h => ?_⟩
  rw [ow_mapO]
  refine h.imp id fun ⟨j, hj, ob, h1, h2⟩ => ?_
  simp only [oma, List.getElem?_map] at h1
  obtain ⟨m, hm, rfl⟩ := Option.map_eq_some_iff.1 h1
  exact ⟨j, hj, (m.map f).ob c, by simp [oma, mapO, hm], by rw [map_S]; exact h2⟩
theorem calm_dead {Ω : List OB} {j : Nat} {o : OB} (hj : Ω[j]? = some o) : Calm Ω (Ω.set j dead) := fun hn => by
  refine ⟨?_, dead_keeps hj hn⟩
  obtain ⟨A, B, rfl, rfl⟩ := ow_split hj
  rw [set_split, ow_mid]
  rw [ow_mid] at hn
  simp only [dead, List.nil_append]
  exact hn.sublist (List.Sublist.append (List.Sublist.refl _) (List.sublist_append_right _ _))

theorem frz_calm {st st' : MSt} {o : Nat} (h : frzSt st o = some st') (η : Nat → Hd) : Calm (oma ⟨st.n, st.env, η⟩ st.O) (oma ⟨st.n, st.env, η⟩ st'.O) := by
  unfold frzSt at h
  split at h
  · rename_i k i ho
    cases hb : Nat.blt k st.n && ((lkE st.env i).bind Ent.asSl).isSome with
    | false => rw [hb] at h; cases h
    | true =>
      rw [hb] at h; cases h
      refine (calm_map (f := frzA k i)).trans ?_
      rw [oma_setD]
      have hlt : o < (mapO (frzA k i) st.O).length := by simp only [mapO, List.length_map]; exact (List.getElem?_eq_some_iff.1 ho).1
      exact calm_dead (o := ((mapO (frzA k i) st.O)[o]).ob ⟨st.n, st.env, η⟩) (by simp [oma, hlt])
  · cases h
theorem frzAll_calm : ∀ {os : List Nat} {st st' : MSt}, frzAll os st = some st' → ∀ η, Calm (oma ⟨st.n, st.env, η⟩ st.O) (oma ⟨st.n, st.env, η⟩ st'.O)
  | [], st, st', h, η => by cases h; exact .refl _
  | o :: os, st, st', h, η => by
    unfold frzAll at h
    split at h
    · exact frzAll_calm h η
    · obtain ⟨s1, h1, h2⟩ := Option.bind_eq_some_iff.1 h
      have h3 := frzAll_calm h2 η
      have hk := frz_keeps' h1
      rw [hk.1, hk.2.1] at h3
      exact (frz_calm h1 η).trans h3
theorem mapG_cb {f : At → At} (hf : ∀ c : Bool, f (.cb c) = .cb c) {G : List (Nat × Sh)} {t : Nat} {c : Bool} (h : lkG G t = some (.vl false [.cb c])) : lkG (mapG f G) t = some (.vl false [.cb c]) := by
  rw [lk_mapG, h]; simp [Sh.map, hf]
theorem frzAll_cb {t : Nat} {c : Bool} : ∀ {os : List Nat} {st st' : MSt}, frzAll os st = some st' → lkG st.G t = some (.vl false [.cb c]) → lkG st'.G t = some (.vl false [.cb c])
  | [], st, st', h, hl => by cases h; exact hl
  | o :: os, st, st', h, hl => by
    unfold frzAll at h
    split at h
    · exact frzAll_cb h hl
    · obtain ⟨s1, h1, h2⟩ := Option.bind_eq_some_iff.1 h
      refine frzAll_cb h2 ?_
      unfold frzSt at h1
      split at h1
      · rename_i k i ho
        cases hb : Nat.blt k st.n && ((lkE st.env i).bind Ent.asSl).isSome with
        | false => rw [hb] at h1; cases h1
        | true => rw [hb] at h1; cases h1; exact mapG_cb (fun _ => rfl) hl
      · cases h1
end

variable [DrawMode] {P : Program} [PTab P] {R A : Type} {E : Env} {N : Nat}

theorem prepC_calm {ss : List Sh} {args : List Operand} {cs : List Cap} {st st' : MSt} : ∀ {l : List Con}, prepC P ss args cs st l = some st' → ∀ η, Calm (oma ⟨st.n, st.env, η⟩ st.O) (oma ⟨st.n, st.env, η⟩ st'.O)
  | [], h => by cases h
  | C :: r, h => by
    unfold prepC at h
    split at h
    · rename_i s1 h1
      split at h
      · cases h; exact frzAll_calm h1
      · exact prepC_calm h
    · exact prepC_calm h
theorem prep_calm {T : FuncId → List Con} {cons : Bool} {op : Op} {st st' : MSt} (h : prep P T cons st op = some st') (η : Nat → Hd) : Calm (oma ⟨st.n, st.env, η⟩ st.O) (oma ⟨st.n, st.env, η⟩ st'.O) := by
  unfold prep at h
  split at h
  · exact frzAll_calm h η
  · split at h
    · exact frzAll_calm h η
    · exact frzAll_calm h η
    · cases h; exact .refl _
  · exact frzAll_calm h η
  · cases cons with
    | true => cases h; exact .refl _
    | false => exact frzAll_calm h η
  · split at h
    · exact frzAll_calm h η
    · cases h; exact .refl _
  · split at h
    · obtain ⟨ss, _, h⟩ := Option.bind_eq_some_iff.1 h
      exact prepC_calm h η
    · cases h
  · cases h; exact .refl _

/-- reads that are still to come -/
def calmE (n : Nat) (env : List (Nat × Ent)) (O : List MO) (pre js : List Nat) : List (Nat × List Nat) → Bool
  | [] => true
  | (p, J) :: r => (hasN pre p || J.all fun j => !hasN js j && match O[j]? with | some m => m.clo n env | none => false) && calmE n env O pre js r
theorem calmE_ok {c c' : Cx} (hx : Ext c c') {O O' : List MO} {pre js : List Nat} (hO : ∀ j, j ∉ js → j < O.length → O'[j]? = O[j]?) : ∀ {pend : List (Nat × List Nat)}, calmE c.n c.env O pre js pend = true → Safe pre js (oma c O) (oma c' O') pend
  | [], _ => trivial
  | (p, J) :: r, h => by
    simp only [calmE, Bool.and_eq_true, Bool.or_eq_true] at h
    refine ⟨?_, calmE_ok hx hO h.2⟩
    cases hp : hasN pre p with
    | true => trivial
    | false =>
      simp only [cond_false]
      have h1 : (J.all fun j => !hasN js j && match O[j]? with | some m => m.clo c.n c.env | none => false) = true := h.1.resolve_left (by simp [hp])
      clear h hp
      induction J with
      | nil => trivial
      | cons j J ih =>
        simp only [List.all_cons, Bool.and_eq_true, Bool.not_eq_true'] at h1
        refine ⟨⟨h1.1.1, ?_⟩, ih (by simpa using h1.2)⟩
        have h2 := h1.1.2
        split at h2
        · rename_i m hm
          have hlt := (List.getElem?_eq_some_iff.1 hm).1
          have h3 := hO j (fun hh => by have := h1.1.1; rw [hasN_iff.2 hh] at this; cases this) hlt
          simp only [oma, List.getElem?_map, h3, hm, Option.map_some]
          rw [MO.clo_ok hx h2]
        · cases h2

def dropP (pre : List Nat) (pend : List (Nat × List Nat)) : List (Nat × List Nat) := pend.filter fun q => !hasN pre q.1
theorem OpR.O'_out {r : OpR} {O : List MO} {j : Nat} (hj : j ∉ r.upd.map (·.1)) (hlt : j < O.length) : (r.O' O)[j]? = O[j]? := by
  unfold OpR.O'
  rw [List.getElem?_append_left (by rw [updO_len]; exact hlt), updO_out hj]

open Classical in
/-- both or nothing -/
noncomputable def meetO {A : Type} (m1 m2 : Option A) : Option A := if m1 = m2 then m1 else none
theorem meetO_some {A : Type} {m1 m2 : Option A} {r : A} (h : meetO m1 m2 = some r) : m1 = some r ∧ m2 = some r := by
  unfold meetO at h
  split at h
  · rename_i e; exact ⟨h, e ▸ h⟩
  · cases h
theorem meetO_self {A : Type} {m : Option A} : meetO m m = m := by unfold meetO; rw [if_pos rfl]
noncomputable def meetAll {A : Type} (f : Nat → Option A) : Nat → List Nat → Option A
  | i, [] => f i
  | i, j :: js => meetO (f i) (meetAll f j js)
theorem meetAll_at {A : Type} {f : Nat → Option A} {r : A} : ∀ {l : List Nat} {i : Nat}, meetAll f i l = some r → f i = some r ∧ ∀ j ∈ l, f j = some r
  | [], i, h => ⟨h, fun j hj => by simp at hj⟩
  | k :: l, i, h => by
    obtain ⟨h1, h2⟩ := meetO_some h
    obtain ⟨h3, h4⟩ := meetAll_at h2
    exact ⟨h1, fun j hj => by rcases List.mem_cons.1 hj with e | e
                              · rw [e]; exact h3
                              · exact h4 j e⟩

def putG (dst : Option Nat) (v : Sh) (G : List (Nat × Sh)) : List (Nat × Sh) := match dst with
  | some d => (d, v) :: G
  | none => G
def dnOf : Option Nat → Nat
  | some d => d
  | none => 0
def dstOk (N : Nat) : Option Nat → Bool
  | some d => Nat.blt d N
  | none => true

/-- a region in a drawn order. fl: operations that only look -/
noncomputable def evA (P : Program) [PTab P] (T : FuncId → List Con) (H : Hints) (N : Nat) (ops : Array Oper) (fl : List Nat) : Nat → Array Bool → List (Nat × List Nat) → MSt → (MSt → Option A) → Option A
  | 0, l, _, st, k => bif allIn ops.size l then k st else none
  | m + 1, l, pend, st, k => match Region.ready .any ops l with
    | [] => none
    | i0 :: is => match (i0 :: is).find? (hasN fl) with
      | some i => match ops[i]? with
        | some ⟨some d, op, ty, pos, aft, gd⟩ => bif Nat.blt d N && hasN (Region.ready .any ops l) i && hasN fl i then
            let run : MSt → Option A := fun st => (prep P T (hasN H.cons d) st op).bind fun st => bif st.O.all (MO.clo st.n st.env) then (opE P T (hasN H.own d) st.n st.env st.G st.O op).run fun r =>
              bif isQuiet op && r.upd.isEmpty && r.new.isEmpty && Nat.beq r.nh 0 then evA P T H N ops fl m (l.setIfInBounds i true) ((i, readO st.G op) :: pend) ⟨r.n' st.n, r.env' st.n st.env, (d, r.val) :: st.G, r.O' st.O⟩ k else none else none
            let skip : MSt → Option A := fun st => evA P T H N ops fl m (l.setIfInBounds i true) ((i, []) :: pend) ⟨st.n, st.env, (d, .undef) :: st.G, st.O⟩ k
            match gd with
            | none => run st
            | some (g, b) => match (ops[g]?).bind (·.dst) with
              | some t => bif Nat.blt t N then (match lkG st.G t with
                | some .undef => skip st
                | some (.vl false [.cb c]) => bif c == b then run st else skip st
                | some (.vl false [.vr v]) => match (rdD st.env (.vr v)).bind Dyn.bool with
                  | some c => bif c then (bif b then run ⟨st.n, st.env, (t, .vl false [.cb true]) :: st.G, st.O⟩ else skip ⟨st.n, st.env, (t, .vl false [.cb true]) :: st.G, st.O⟩)
                      else (bif b then skip ⟨st.n, st.env, (t, .vl false [.cb false]) :: st.G, st.O⟩ else run ⟨st.n, st.env, (t, .vl false [.cb false]) :: st.G, st.O⟩)
                  | none => none
                | _ => none) else none
              | none => none
          else none
        | _ => none
      | none => match is, ops[i0]? with
        | [], some ⟨dst, op, ty, pos, aft, gd⟩ => bif dstOk N dst && !hasN fl i0 then
            let pre := predsOf ⟨dst, op, ty, pos, aft, gd⟩
            let run : MSt → Option A := fun st => (prep P T (hasN H.cons (dnOf dst)) st op).bind fun st => (opE P T (hasN H.own (dnOf dst)) st.n st.env st.G st.O op).run fun r =>
              bif calmE st.n st.env st.O pre (r.upd.map (·.1)) pend then evA P T H N ops fl m (l.setIfInBounds i0 true) (dropP pre pend) ⟨r.n' st.n, r.env' st.n st.env, putG dst r.val st.G, r.O' st.O⟩ k else none
            let skip : MSt → Option A := fun st => bif calmE st.n st.env st.O pre [] pend then evA P T H N ops fl m (l.setIfInBounds i0 true) pend ⟨st.n, st.env, putG dst .undef st.G, st.O⟩ k else none
            match gd with
            | none => run st
            | some (g, b) => match (ops[g]?).bind (·.dst) with
              | some t => bif Nat.blt t N then (match lkG st.G t with
                | some .undef => skip st
                | some (.vl false [.cb c]) => bif c == b then run st else skip st
                | some (.vl false [.vr v]) => match (rdD st.env (.vr v)).bind Dyn.bool with
                  | some c => bif c then (bif b then run ⟨st.n, st.env, (t, .vl false [.cb true]) :: st.G, st.O⟩ else skip ⟨st.n, st.env, (t, .vl false [.cb true]) :: st.G, st.O⟩)
                      else (bif b then skip ⟨st.n, st.env, (t, .vl false [.cb false]) :: st.G, st.O⟩ else run ⟨st.n, st.env, (t, .vl false [.cb false]) :: st.G, st.O⟩)
                  | none => none
                | _ => none) else none
              | none => none
          else none
        | _ :: _, _ => meetAll (fun i => match ops[i]? with
          | some ⟨dst, op, ty, pos, aft, none⟩ => bif dstOk N dst && !hasN fl i then
              (opE P T (hasN H.own (dnOf dst)) st.n st.env st.G st.O op).run fun r =>
                bif calmE st.n st.env st.O (predsOf ⟨dst, op, ty, pos, aft, none⟩) (r.upd.map (·.1)) pend then evA P T H N ops fl m (l.setIfInBounds i true) (dropP (predsOf ⟨dst, op, ty, pos, aft, none⟩) pend) ⟨r.n' st.n, r.env' st.n st.env, putG dst r.val st.G, r.O' st.O⟩ k else none
            else none
          | _ => none) i0 is
        | _, _ => none

theorem prepC_cb {t : Nat} {c : Bool} {ss : List Sh} {args : List Operand} {cs : List Cap} {st st' : MSt} : ∀ {l : List Con}, prepC P ss args cs st l = some st' → lkG st.G t = some (.vl false [.cb c]) → lkG st'.G t = some (.vl false [.cb c])
  | [], h, _ => by cases h
  | C :: r, h, hl => by
    unfold prepC at h
    split at h
    · rename_i s1 h1
      split at h
      · cases h; exact frzAll_cb h1 hl
      · exact prepC_cb h hl
    · exact prepC_cb h hl
theorem prep_cb {T : FuncId → List Con} {cons : Bool} {op : Op} {st st' : MSt} {t : Nat} {c : Bool} (h : prep P T cons st op = some st') (hl : lkG st.G t = some (.vl false [.cb c])) : lkG st'.G t = some (.vl false [.cb c]) := by
  unfold prep at h
  split at h
  · exact frzAll_cb h hl
  · split at h
    · exact frzAll_cb h hl
    · exact frzAll_cb h hl
    · cases h; exact hl
  · exact frzAll_cb h hl
  · cases cons with
    | true => cases h; exact hl
    | false => exact frzAll_cb h hl
  · split at h
    · exact frzAll_cb h hl
    · cases h; exact hl
  · split at h
    · obtain ⟨ss, _, h⟩ := Option.bind_eq_some_iff.1 h
      exact prepC_cb h hl
    · cases h
  · cases h; exact hl

/-- a guard that is met -/
def Met (ops : Array Oper) (N : Nat) (G : List (Nat × Sh)) : Option (Nat × Bool) → Prop
  | none => True
  | some (g, b) => ∃ t, (ops[g]?).bind (·.dst) = some t ∧ Nat.blt t N = true ∧ lkG G t = some (.vl false [.cb b])

/-- the operations of a region that only look -/
def flOf (H : Hints) : Nat → List Oper → List Nat
  | _, [] => []
  | i, ⟨some d, op, _, _, _, _⟩ :: r => bif isQuiet op && !hasN H.loud d then i :: flOf H (i + 1) r else flOf H (i + 1) r
  | i, ⟨none, _, _, _, _, _⟩ :: r => flOf H (i + 1) r

theorem evA_ok {T : FuncId → List Con} (hT : TabOk P T) {H : Hints} {ops : Array Oper} {fl : List Nat} (hok : okDraw ops fl = true) {K : KT A} {k : MSt → Option A} : ∀ (m : Nat) (l : Array Bool) (pend : List (Nat × List Nat)) (st : MSt) (η : Nat → Hd), WF st.n st.env →
    (∀ st' η', WF st'.n st'.env → Ext (st.cx' η) (st'.cx' η') → RefE E N .normal (k st') (gma (st'.cx' η') st'.G) (oma (st'.cx' η') st'.O) K) →
    RefA P E N (evA P T H N ops fl m l pend st k) ops fl l pend (gma (st.cx' η) st.G) (oma (st.cx' η) st.O) K
  | 0, l, pend, st, η, hw, hk => by
    unfold evA
    cases hl : allIn ops.size l with
    | false => exact pnone
    | true => exact a_fin hok hl (hk st η hw (.refl _))
  | m + 1, l, pend, st0, η, hw0, hk0 => by
    unfold evA
    split
    · exact pnone
    · rename_i i0 is hrs
      split
      · -- an operation that only looks
        rename_i i _
        split
        · rename_i d op ty pos aft gd hi
          cases hb : Nat.blt d N && hasN (Region.ready .any ops l) i && hasN fl i with
          | false => exact pnone
          | true =>
            simp only [Bool.and_eq_true] at hb
            obtain ⟨⟨hd, hrd⟩, hf⟩ := hb
            simp only [cond_true]
            have hrun : ∀ (st : MSt), WF st.n st.env → (∀ st' η', WF st'.n st'.env → Ext (st.cx' η) (st'.cx' η') → RefE E N .normal (k st') (gma (st'.cx' η') st'.G) (oma (st'.cx' η') st'.O) K) → Met ops N st.G gd →
                RefA P E N ((prep P T (hasN H.cons d) st op).bind fun st => bif st.O.all (MO.clo st.n st.env) then (opE P T (hasN H.own d) st.n st.env st.G st.O op).run fun r =>
                  bif isQuiet op && r.upd.isEmpty && r.new.isEmpty && Nat.beq r.nh 0 then evA P T H N ops fl m (l.setIfInBounds i true) ((i, readO st.G op) :: pend) ⟨r.n' st.n, r.env' st.n st.env, (d, r.val) :: st.G, r.O' st.O⟩ k else none else none)
                  ops fl l pend (gma (st.cx' η) st.G) (oma (st.cx' η) st.O) K := by
              intro st hw hk hmet
              refine pull fun st1 h1 => ?_
              have hkp := prep_ok h1
              have hcm := prep_calm h1 η
              have hw1 : WF st1.n st1.env := by rw [hkp.1, hkp.2.1]; exact hw
              have hcx : st1.cx' η = st.cx' η := by simp only [MSt.cx', hkp.1, hkp.2.1]
              refine a_of (Γ' := gma (st1.cx' η) st1.G) (Ω' := oma (st1.cx' η) st1.O) (fun a w hs => by rw [hcx]; exact hkp.2.2 η a w hs) (fun hn => by rw [hcx]; exact (hcm hn).2) ?_
              cases hcl : st1.O.all (MO.clo st1.n st1.env) with
              | false => exact pnone
              | true =>
                simp only [cond_true]
                refine ref_ask (opE_ok (E := E) (N := N) (ty := ty) hT hw1) fun r hr => ?_
                cases hq : isQuiet op && r.upd.isEmpty && r.new.isEmpty && Nat.beq r.nh 0 with
                | false => exact pnone
                | true =>
                  simp only [Bool.and_eq_true, List.isEmpty_iff] at hq
                  obtain ⟨⟨⟨q1, q2⟩, q3⟩, q4⟩ := hq
                  have q4 := Nat.eq_of_beq_eq_true q4
                  have hrdj := hr.rd q1 q2 q3 q4 η
                  have hx1 := OpOk.ext hw1 hr.src ⟨η, fun _ _ => rfl⟩
                  have hO : oma (r.cx' st1.n st1.env η) (r.O' st1.O) = oma (st1.cx' η) st1.O := by
                    have e : r.O' st1.O = st1.O := by simp [OpR.O', q2, q3, updO]
                    rw [e]
                    exact List.map_congr_left fun o ho => MO.clo_ok hx1 (List.all_eq_true.1 hcl o ho)
                  have ih := evA_ok (H := H) hT hok (K := K) (k := k) m (l.setIfInBounds i true) ((i, readO st1.G op) :: pend) ⟨r.n' st1.n, r.env' st1.n st1.env, (d, r.val) :: st1.G, r.O' st1.O⟩ η (OpR.wf hw1 hr.src) fun st' η' hw' hx => hk st' η' hw' (by rw [← hcx]; exact hx1.trans hx)
                  have ih2 : RefA P E N (evA P T H N ops fl m (l.setIfInBounds i true) ((i, readO st1.G op) :: pend) ⟨r.n' st1.n, r.env' st1.n st1.env, (d, r.val) :: st1.G, r.O' st1.O⟩ k) ops fl (l.setIfInBounds i true) ((i, readO st1.G op) :: pend)
                      ((d, r.val.rp (r.cx' st1.n st1.env η)) :: gma (st1.cx' η) st1.G) (oma (st1.cx' η) st1.O) K := by
                    have ih' := ih
                    rw [show oma (MSt.cx' ⟨r.n' st1.n, r.env' st1.n st1.env, (d, r.val) :: st1.G, r.O' st1.O⟩ η) (r.O' st1.O) = oma (st1.cx' η) st1.O from hO] at ih'
                    exact b_of (fun a w hs => Sat.mextΓ hx1 hs rfl) ih'
                  cases gd with
                  | none => exact a_rd hok hi hrd hf hrdj hd ih2
                  | some gb =>
                    obtain ⟨g, b⟩ := gb
                    obtain ⟨t, g1, g2, g3⟩ := hmet
                    have hlk : lk (gma (st1.cx' η) st1.G) t = some (bv b) := by rw [lk_gma, prep_cb h1 g3]; rfl
                    exact a_rdOn hok hi g1 hlk g2 hrd hf hrdj hd ih2
            have hskip : ∀ (st : MSt), WF st.n st.env → (∀ st' η', WF st'.n st'.env → Ext (st.cx' η) (st'.cx' η') → RefE E N .normal (k st') (gma (st'.cx' η') st'.G) (oma (st'.cx' η') st'.O) K) →
                RefA P E N (evA P T H N ops fl m (l.setIfInBounds i true) ((i, []) :: pend) ⟨st.n, st.env, (d, .undef) :: st.G, st.O⟩ k) ops fl (l.setIfInBounds i true) ((i, []) :: pend) ((d, pv Go.undef) :: gma (st.cx' η) st.G) (oma (st.cx' η) st.O) K :=
              fun st hw hk => evA_ok (H := H) hT hok m (l.setIfInBounds i true) ((i, []) :: pend) ⟨st.n, st.env, (d, .undef) :: st.G, st.O⟩ η hw hk
            cases gd with
            | none => exact hrun st0 hw0 hk0 trivial
            | some gb =>
              obtain ⟨g, b⟩ := gb
              simp only
              split
              · rename_i t hg
                cases hN : Nat.blt t N with
                | false => exact pnone
                | true =>
                  simp only [cond_true]
                  split
                  · rename_i hl
                    have hlk : lk (gma (st0.cx' η) st0.G) t = some (pv Go.undef) := by rw [lk_gma, hl]; rfl
                    exact a_offU hok hi hg hlk hrd hf hd (hskip st0 hw0 hk0)
                  · rename_i c hl
                    have hlk : lk (gma (st0.cx' η) st0.G) t = some (bv c) := by rw [lk_gma, hl]; rfl
                    cases hcb : (c == b) with
                    | true =>
                      have : c = b := by simpa using hcb
                      subst this
                      exact hrun st0 hw0 hk0 ⟨t, hg, hN, hl⟩
                    | false => exact a_off hok hi hg hlk hN hcb hrd hf hd (hskip st0 hw0 hk0)
                  · rename_i v hl
                    split
                    · rename_i c hc
                      have hlk : lk (gma (st0.cx' η) st0.G) t = some (bv c) := by
                        rw [lk_gma, hl]
                        obtain ⟨D, h1, h2⟩ := Option.bind_eq_some_iff.1 hc
                        show some ((At.vr v).rp (st0.cx' η)) = _
                        rw [(rdD_rp (c := st0.cx' η) h1).1, Dyn.bool_rp h2]
                      have hlk' : ∀ {Γ : List (Nat × RP)} {c : Bool}, lk ((t, bv c) :: Γ) t = some (bv c) := lk_cons_eq
                      have hlG : ∀ {c : Bool}, lkG ((t, Sh.vl false [.cb c]) :: st0.G) t = some (.vl false [.cb c]) := by simp [lkG]
                      refine b_split hlk (fun hct => ?_) (fun hcf => ?_)
                      · cases b with
                        | true => exact hrun ⟨st0.n, st0.env, (t, .vl false [.cb true]) :: st0.G, st0.O⟩ hw0 hk0 ⟨t, hg, hN, hlG⟩
                        | false => exact a_off hok hi hg hlk' hN rfl hrd hf hd (hskip ⟨st0.n, st0.env, (t, .vl false [.cb true]) :: st0.G, st0.O⟩ hw0 hk0)
                      · cases b with
                        | true => exact a_off hok hi hg hlk' hN rfl hrd hf hd (hskip ⟨st0.n, st0.env, (t, .vl false [.cb false]) :: st0.G, st0.O⟩ hw0 hk0)
                        | false => exact hrun ⟨st0.n, st0.env, (t, .vl false [.cb false]) :: st0.G, st0.O⟩ hw0 hk0 ⟨t, hg, hN, hlG⟩
                    · exact pnone
                  · exact pnone
              · exact pnone
        · exact pnone
      · split
        · rename_i dst op ty pos aft gd hi h_find
          cases hb : dstOk N dst && !hasN fl i0 with
          | false => exact pnone
          | true =>
            simp only [Bool.and_eq_true, Bool.not_eq_true'] at hb
            obtain ⟨hd, hf⟩ := hb
            have hd' : ∀ d, dst = some d → Nat.blt d N = true := fun d e => by subst e; exact hd
            simp only [cond_true]
            have hput : ∀ {c c' : Cx} {G : List (Nat × Sh)} {v : Sh} {Ω : List OB} {a : Act} {w : World}, Ext c c' → Sat E N (putΓ (gma c G) dst (v.rp c')) Ω a w →
                Sat E N (gma c' (putG dst v G)) Ω a w := by
              intro c c' G v Ω a w hx hs
              cases dst with
              | some d => exact Sat.mextΓ hx hs rfl
              | none => exact Sat.mextΓ0 hx hs
            have hrun : ∀ (st : MSt), WF st.n st.env → (∀ st' η', WF st'.n st'.env → Ext (st.cx' η) (st'.cx' η') → RefE E N .normal (k st') (gma (st'.cx' η') st'.G) (oma (st'.cx' η') st'.O) K) → Met ops N st.G gd →
                RefA P E N ((prep P T (hasN H.cons (dnOf dst)) st op).bind fun st => (opE P T (hasN H.own (dnOf dst)) st.n st.env st.G st.O op).run fun r =>
                  bif calmE st.n st.env st.O (predsOf ⟨dst, op, ty, pos, aft, gd⟩) (r.upd.map (·.1)) pend then evA P T H N ops fl m (l.setIfInBounds i0 true) (dropP (predsOf ⟨dst, op, ty, pos, aft, gd⟩) pend) ⟨r.n' st.n, r.env' st.n st.env, putG dst r.val st.G, r.O' st.O⟩ k else none)
                  ops fl l pend (gma (st.cx' η) st.G) (oma (st.cx' η) st.O) K := by
              intro st hw hk hmet
              refine pull fun st1 h1 => ?_
              have hkp := prep_ok h1
              have hcm := prep_calm h1 η
              have hw1 : WF st1.n st1.env := by rw [hkp.1, hkp.2.1]; exact hw
              have hcx : st1.cx' η = st.cx' η := by simp only [MSt.cx', hkp.1, hkp.2.1]
              refine a_of (Γ' := gma (st1.cx' η) st1.G) (Ω' := oma (st1.cx' η) st1.O) (fun a w hs => by rw [hcx]; exact hkp.2.2 η a w hs) (fun hn => by rw [hcx]; exact (hcm hn).2) ?_
              refine ref_ask (opE_ok (E := E) (N := N) (ty := ty) hT hw1) fun r hr => ?_
              cases hcl : calmE st1.n st1.env st1.O (predsOf ⟨dst, op, ty, pos, aft, gd⟩) (r.upd.map (·.1)) pend with
              | false => exact pnone
              | true =>
                simp only [cond_true]
                have hsafe : ∀ x : Agr st1.n η, Safe (predsOf ⟨dst, op, ty, pos, aft, gd⟩) (r.upd.map (·.1)) (oma (st1.cx' η) st1.O) (oma (r.cx' st1.n st1.env x.1) (r.O' st1.O)) pend := fun x =>
                  calmE_ok (c := st1.cx' η) (OpOk.ext hw1 hr.src x) (fun j hj hlt => OpR.O'_out hj hlt) hcl
                have ih : ∀ x : Agr st1.n η, RefA P E N (evA P T H N ops fl m (l.setIfInBounds i0 true) (dropP (predsOf ⟨dst, op, ty, pos, aft, gd⟩) pend) ⟨r.n' st1.n, r.env' st1.n st1.env, putG dst r.val st1.G, r.O' st1.O⟩ k) ops fl (l.setIfInBounds i0 true) (dropP (predsOf ⟨dst, op, ty, pos, aft, gd⟩) pend)
                    (putΓ (gma (st1.cx' η) st1.G) dst (r.val.rp (r.cx' st1.n st1.env x.1))) (oma (r.cx' st1.n st1.env x.1) (r.O' st1.O)) K := fun x =>
                  b_of (fun a w hs => hput (OpOk.ext hw1 hr.src x) hs) (evA_ok (H := H) hT hok (K := K) (k := k) m (l.setIfInBounds i0 true) (dropP (predsOf ⟨dst, op, ty, pos, aft, gd⟩) pend) ⟨r.n' st1.n, r.env' st1.n st1.env, putG dst r.val st1.G, r.O' st1.O⟩ x.1 (OpR.wf hw1 hr.src)
                    fun st' η' hw' hx => hk st' η' hw' (by rw [← hcx]; exact (OpOk.ext hw1 hr.src x).trans hx))
                cases gd with
                | none => exact a_next hok i0 [] hrs (a_stP hok hi hf (hr.st η) hd' hsafe dropP_mem ih) trivial
                | some gb =>
                  obtain ⟨g, b⟩ := gb
                  obtain ⟨t, g1, g2, g3⟩ := hmet
                  have hlk : lk (gma (st1.cx' η) st1.G) t = some (bv b) := by rw [lk_gma, prep_cb h1 g3]; rfl
                  exact a_next hok i0 [] hrs (a_stOnP hok hi g1 hlk g2 hf (hr.st η) hd' hsafe dropP_mem ih) trivial
            have hskip : ∀ (st : MSt), WF st.n st.env → (∀ st' η', WF st'.n st'.env → Ext (st.cx' η) (st'.cx' η') → RefE E N .normal (k st') (gma (st'.cx' η') st'.G) (oma (st'.cx' η') st'.O) K) →
                (Safe (predsOf ⟨dst, op, ty, pos, aft, gd⟩) [] (oma (st.cx' η) st.O) (oma (st.cx' η) st.O) pend →
                  RefA P E N (evA P T H N ops fl m (l.setIfInBounds i0 true) pend ⟨st.n, st.env, putG dst .undef st.G, st.O⟩ k) ops fl (l.setIfInBounds i0 true) pend (putΓ (gma (st.cx' η) st.G) dst (pv Go.undef)) (oma (st.cx' η) st.O) K →
                  RefA P E N (evA P T H N ops fl m (l.setIfInBounds i0 true) pend ⟨st.n, st.env, putG dst .undef st.G, st.O⟩ k) ops fl l pend (gma (st.cx' η) st.G) (oma (st.cx' η) st.O) K) →
                RefA P E N (bif calmE st.n st.env st.O (predsOf ⟨dst, op, ty, pos, aft, gd⟩) [] pend then evA P T H N ops fl m (l.setIfInBounds i0 true) pend ⟨st.n, st.env, putG dst .undef st.G, st.O⟩ k else none) ops fl l pend (gma (st.cx' η) st.G) (oma (st.cx' η) st.O) K := by
              intro st hw hk hgo
              cases hcl : calmE st.n st.env st.O (predsOf ⟨dst, op, ty, pos, aft, gd⟩) [] pend with
              | false => exact pnone
              | true =>
                simp only [cond_true]
                refine hgo (calmE_ok (c := st.cx' η) (.refl _) (fun _ _ _ => rfl) hcl) ?_
                exact b_of (fun a w hs => hput (v := .undef) (.refl _) hs) (evA_ok (H := H) hT hok (K := K) (k := k) m (l.setIfInBounds i0 true) pend ⟨st.n, st.env, putG dst .undef st.G, st.O⟩ η hw hk)
            cases gd with
            | none => exact hrun st0 hw0 hk0 trivial
            | some gb =>
              obtain ⟨g, b⟩ := gb
              simp only
              split
              · rename_i t hg
                cases hN : Nat.blt t N with
                | false => exact pnone
                | true =>
                  simp only [cond_true]
                  have off : ∀ (st : MSt) {c : Bool}, lk (gma (st.cx' η) st.G) t = some (bv c) → (c == b) = false → WF st.n st.env → (∀ st' η', WF st'.n st'.env → Ext (st.cx' η) (st'.cx' η') → RefE E N .normal (k st') (gma (st'.cx' η') st'.G) (oma (st'.cx' η') st'.O) K) → _ :=
                    fun st c hlk hcb hw hk => hskip st hw hk fun hs h => a_next hok i0 [] hrs (a_stOff hok hi hg hlk hN hcb hf hd' hs h) trivial
                  split
                  · rename_i hl
                    have hlk : lk (gma (st0.cx' η) st0.G) t = some (pv Go.undef) := by rw [lk_gma, hl]; rfl
                    exact hskip st0 hw0 hk0 fun hs h => a_next hok i0 [] hrs (a_stOffU hok hi hg hlk hf hd' hs h) trivial
                  · rename_i c hl
                    have hlk : lk (gma (st0.cx' η) st0.G) t = some (bv c) := by rw [lk_gma, hl]; rfl
                    cases hcb : (c == b) with
                    | true =>
                      have : c = b := by simpa using hcb
                      subst this
                      exact hrun st0 hw0 hk0 ⟨t, hg, hN, hl⟩
                    | false => exact off st0 hlk hcb hw0 hk0
                  · rename_i v hl
                    split
                    · rename_i c hc
                      have hlk : lk (gma (st0.cx' η) st0.G) t = some (bv c) := by
                        rw [lk_gma, hl]
                        obtain ⟨D, h1, h2⟩ := Option.bind_eq_some_iff.1 hc
                        show some ((At.vr v).rp (st0.cx' η)) = _
                        rw [(rdD_rp (c := st0.cx' η) h1).1, Dyn.bool_rp h2]
                      have hlk' : ∀ {Γ : List (Nat × RP)} {c : Bool}, lk ((t, bv c) :: Γ) t = some (bv c) := lk_cons_eq
                      have hlG : ∀ {c : Bool}, lkG ((t, Sh.vl false [.cb c]) :: st0.G) t = some (.vl false [.cb c]) := by simp [lkG]
                      refine b_split hlk (fun hct => ?_) (fun hcf => ?_)
                      · cases b with
                        | true => exact hrun ⟨st0.n, st0.env, (t, .vl false [.cb true]) :: st0.G, st0.O⟩ hw0 hk0 ⟨t, hg, hN, hlG⟩
                        | false => exact off ⟨st0.n, st0.env, (t, .vl false [.cb true]) :: st0.G, st0.O⟩ (c := true) hlk' rfl hw0 hk0
                      · cases b with
                        | true => exact off ⟨st0.n, st0.env, (t, .vl false [.cb false]) :: st0.G, st0.O⟩ (c := false) hlk' rfl hw0 hk0
                        | false => exact hrun ⟨st0.n, st0.env, (t, .vl false [.cb false]) :: st0.G, st0.O⟩ hw0 hk0 ⟨t, hg, hN, hlG⟩
                    · exact pnone
                  · exact pnone
              · exact pnone
        · rename_i i1 is1 _ _
          have each : ∀ i : Nat, Loud P E N (match ops[i]? with
              | some ⟨dst, op, ty, pos, aft, none⟩ => bif dstOk N dst && !hasN fl i then
                  (opE P T (hasN H.own (dnOf dst)) st0.n st0.env st0.G st0.O op).run fun r =>
                    bif calmE st0.n st0.env st0.O (predsOf ⟨dst, op, ty, pos, aft, none⟩) (r.upd.map (·.1)) pend then evA P T H N ops fl m (l.setIfInBounds i true) (dropP (predsOf ⟨dst, op, ty, pos, aft, none⟩) pend) ⟨r.n' st0.n, r.env' st0.n st0.env, putG dst r.val st0.G, r.O' st0.O⟩ k else none
                else none
              | _ => none) ops fl l pend (gma (st0.cx' η) st0.G) (oma (st0.cx' η) st0.O) K i := by
            intro i
            split
            · rename_i dst op ty pos aft hi
              cases hb : dstOk N dst && !hasN fl i with
              | false => exact pnone
              | true =>
                simp only [Bool.and_eq_true, Bool.not_eq_true'] at hb
                obtain ⟨hd, hf⟩ := hb
                have hd' : ∀ d, dst = some d → Nat.blt d N = true := fun d e => by subst e; exact hd
                simp only [cond_true]
                refine ref_ask (opE_ok (E := E) (N := N) (ty := ty) hT hw0) fun r hr => ?_
                cases hcl : calmE st0.n st0.env st0.O (predsOf ⟨dst, op, ty, pos, aft, none⟩) (r.upd.map (·.1)) pend with
                | false => exact pnone
                | true =>
                  simp only [cond_true]
                  have hsafe : ∀ x : Agr st0.n η, Safe (predsOf ⟨dst, op, ty, pos, aft, none⟩) (r.upd.map (·.1)) (oma (st0.cx' η) st0.O) (oma (r.cx' st0.n st0.env x.1) (r.O' st0.O)) pend := fun x =>
                    calmE_ok (c := st0.cx' η) (OpOk.ext hw0 hr.src x) (fun j hj hlt => OpR.O'_out hj hlt) hcl
                  have hput : ∀ {c c' : Cx} {G : List (Nat × Sh)} {v : Sh} {Ω : List OB} {a : Act} {w : World}, Ext c c' → Sat E N (putΓ (gma c G) dst (v.rp c')) Ω a w → Sat E N (gma c' (putG dst v G)) Ω a w := by
                    intro c c' G v Ω a w hx hs
                    cases dst with
                    | some d => exact Sat.mextΓ hx hs rfl
                    | none => exact Sat.mextΓ0 hx hs
                  have ih : ∀ x : Agr st0.n η, RefA P E N (evA P T H N ops fl m (l.setIfInBounds i true) (dropP (predsOf ⟨dst, op, ty, pos, aft, none⟩) pend) ⟨r.n' st0.n, r.env' st0.n st0.env, putG dst r.val st0.G, r.O' st0.O⟩ k) ops fl (l.setIfInBounds i true) (dropP (predsOf ⟨dst, op, ty, pos, aft, none⟩) pend)
                      (putΓ (gma (st0.cx' η) st0.G) dst (r.val.rp (r.cx' st0.n st0.env x.1))) (oma (r.cx' st0.n st0.env x.1) (r.O' st0.O)) K := fun x =>
                    b_of (fun a w hs => hput (OpOk.ext hw0 hr.src x) hs) (evA_ok (H := H) hT hok (K := K) (k := k) m (l.setIfInBounds i true) (dropP (predsOf ⟨dst, op, ty, pos, aft, none⟩) pend) ⟨r.n' st0.n, r.env' st0.n st0.env, putG dst r.val st0.G, r.O' st0.O⟩ x.1 (OpR.wf hw0 hr.src)
                      fun st' η' hw' hx => hk0 st' η' hw' ((OpOk.ext hw0 hr.src x).trans hx))
                  exact a_stP hok hi hf (hr.st η) hd' hsafe dropP_mem ih
            · exact pnone
          refine a_all hok hrs (by simp) fun j hj => ?_
          intro r hr
          obtain ⟨h1, h2⟩ := meetAll_at hr
          rcases List.mem_cons.1 hj with e | e
          · rw [e]; exact each i0 r h1
          · exact each j r (h2 j e)
        · exact pnone
end Go.Dc

set_option linter.unusedSectionVars false
set_option linter.unusedVariables false
set_option linter.unusedSimpArgs false
/-! Control flow on plain data. -/
namespace Go.Dc
variable [DrawMode] {P : Program} [PTab P] {R : Type}

/-- a scope that no goto leaves -/
def scopeK {A : Type} (K : KT A) : KT A := fun r => Exit.noGoto (K r)

/-- carries code out. ret: what a return gives; wr: what that is at this place -/
noncomputable def ev (P : Program) [PTab P] (T : FuncId → List Con) (H : Hints) (N : Nat) (ret : MSt → Option R) : (c : Code) → {A : Type} → Option (R → A) → MSt → (MSt → Option A) → (Nat → MSt → Option A) → Option A
  | .skip, _, _, st, kn, _ => kn st
  | .label _, _, _, st, kn, _ => kn st
  | .exit i, _, _, st, _, kx => kx i st
  | .ret, _, wr, st, _, _ => match wr with
    | some f => (ret st).map f
    | none => none
  | .region _ ops draw, _, _, st, kn, _ => bif draw then (bif P.follows .mixedOrders && okDraw ops.toList.toArray (flOf H 0 ops.toList) then evA P T H N ops.toList.toArray (flOf H 0 ops.toList) ops.toList.length (Array.replicate ops.toList.length false) [] st kn else none) else evL P T H N ops ops.toList st kn
  | .seq a b, _, wr, st, kn, kx => match lkH H.join (firstId b) with
    | none => ev P T H N ret a wr st (fun st => ev P T H N ret b wr st kn kx) kx
    | some (cv, hp) => match hp.at st with
      | some p => joinM (fun j => (p.inst P st.n st.env j).bind fun st => ev P T H N ret b wr st kn kx) fun kj => ev P T H N ret a wr st (fun st1 => (convs cv st1).bind fun st1 => (p.read P st.n st.env st1).bind kj) kx
      | none => none
  | .cond x a b, _, wr, st, kn, kx => match opA st.G x with
    | some (.cb true) => ev P T H N ret a wr st kn kx
    | some (.cb false) => ev P T H N ret b wr st kn kx
    | some (.vr i) => match (rdD st.env (.vr i)).bind Dyn.bool with
      | some c => bif c then ev P T H N ret a wr st kn kx else ev P T H N ret b wr st kn kx
      | none => none
    | _ => none
  | .block id (.loop body), _, wr, st, kn, kx => match lkH H.loop id with
    | none => none
    | some h => (convs h.conv st).bind fun st1 => match h.head.at st1 with
      | none => none
      | some p => (p.read P st1.n st1.env st1).bind fun s0 => match h.out with
      | some (oi, co, ho) => (match h.brk with
        | some (cb, hb) => bif Nat.beq oi id then none else (match hb.at st1, ho.at st1 with
          | some pb, some po => Option.bind (loopC (fun s => (p.inst P st1.n st1.env s).bind fun st2 => ev P T H N ret body (A := Sum (Sum (Sum R (Tup po.ts)) (Tup pb.ts)) (Tup p.ts)) (bif h.rets then some (fun r => .inl (.inl (.inl r))) else none) st2
              (fun st3 => (convs h.back st3).bind fun st3 => (p.read P st1.n st1.env st3).map fun s => .inr s)
              (fun i st3 => bif Nat.beq i id then (convs cb st3).bind fun st3 => (pb.read P st1.n st1.env st3).map fun q => .inl (.inr q)
                else bif Nat.beq i oi then (convs co st3).bind fun st3 => (po.read P st1.n st1.env st3).map fun q => .inl (.inl (.inr q)) else none)) s0)
              (sumK (sumK (fun r => wr.bind fun f => some (f r)) fun q => (po.inst P st1.n st1.env q).bind (kx oi)) fun q => (pb.inst P st1.n st1.env q).bind kn)
          | _, _ => none)
        | none => none)
      | none => match h.brk, h.rets, wr with
        | some (cb, hb), true, some wr => match hb.at st1 with
          | none => none
          | some pb => Option.bind (loopC (fun s => (p.inst P st1.n st1.env s).bind fun st2 => ev P T H N ret body (A := Sum (Sum R (Tup pb.ts)) (Tup p.ts)) (some fun r => .inl (.inl r)) st2
              (fun st3 => (convs h.back st3).bind fun st3 => (p.read P st1.n st1.env st3).map fun s => .inr s)
              (fun i st3 => bif Nat.beq i id then (convs cb st3).bind fun st3 => (pb.read P st1.n st1.env st3).map fun q => .inl (.inr q) else none)) s0)
              (sumK (fun r => some (wr r)) fun q => (pb.inst P st1.n st1.env q).bind kn)
        | some (cb, hb), false, _ => match hb.at st1 with
          | none => none
          | some pb => Option.bind (loopC (fun s => (p.inst P st1.n st1.env s).bind fun st2 => ev P T H N ret body (A := Sum (Tup pb.ts) (Tup p.ts)) none st2
              (fun st3 => (convs h.back st3).bind fun st3 => (p.read P st1.n st1.env st3).map fun s => .inr s)
              (fun i st3 => bif Nat.beq i id then (convs cb st3).bind fun st3 => (pb.read P st1.n st1.env st3).map fun q => .inl q else none)) s0)
              fun q => (pb.inst P st1.n st1.env q).bind kn
        | none, _, some wr => Option.bind (loopC (fun s => (p.inst P st1.n st1.env s).bind fun st2 => ev P T H N ret body (A := Sum R (Tup p.ts)) (some fun r => .inl r) st2
              (fun st3 => (convs h.back st3).bind fun st3 => (p.read P st1.n st1.env st3).map fun s => .inr s) (fun _ _ => none)) s0) fun r => some (wr r)
        | _, _, _ => none
  | .scope c, _, wr, st, kn, kx => ev P T H N ret c wr st kn kx
  | .block id c, _, wr, st, kn, kx => ev P T H N ret c wr st kn (fun i st => bif Nat.beq i id then kn st else kx i st)
  | _, _, _, _, _, _ => none

variable {E : Env} {N : Nat}

/-- what the state at place st allows at a continuation -/
abbrev KOk {A : Type} (E : Env) (N : Nat) (e : Exit) (st : MSt) (η : Nat → Hd) (k : MSt → Option A) (K : KT A) : Prop :=
  ∀ st' η', WF st'.n st'.env → Ext (st.cx' η) (st'.cx' η') → RefE E N e (k st') (gma (st'.cx' η') st'.G) (oma (st'.cx' η') st'.O) K

theorem KOk.ext {A : Type} {e : Exit} {st st1 : MSt} {η η1 : Nat → Hd} {k : MSt → Option A} {K : KT A} (h : KOk E N e st η k K) (hx : Ext (st.cx' η) (st1.cx' η1)) : KOk E N e st1 η1 k K :=
  fun st' η' hw hx' => h st' η' hw (hx.trans hx')

/-- conversions ahead -/
theorem conv_go {A : Type} {e : Exit} {cv : List Conv} {st : MSt} {η : Nat → Hd} (hw : WF st.n st.env) {k : MSt → Option A} {K : KT A} (h : KOk E N e st η k K) :
    RefE E N e ((convs cv st).bind k) (gma (st.cx' η) st.G) (oma (st.cx' η) st.O) K :=
  pull fun st1 h1 => by
    obtain ⟨hw1, η1, hx, hs⟩ := convs_ok (E := E) (N := N) h1 hw η
    exact b_of hs (h st1 η1 hw1 hx)

/-- code is carried out rightly -/
def EvOk (P : Program) [PTab P] (E : Env) (N : Nat) (T : FuncId → List Con) (H : Hints) (ret : MSt → Option R) (c : Code) : Prop :=
  ∀ (A : Type) (wr : Option (R → A)) (st : MSt) (η : Nat → Hd) (kn : MSt → Option A) (kx : Nat → MSt → Option A) (K : KT A), WF st.n st.env →
    KOk E N .normal st η kn K → (∀ i, KOk E N (.exit i) st η (kx i) K) → (∀ f, wr = some f → KOk E N .ret st η (fun s => (ret s).map f) K) →
    Ref P E N (ev P T H N ret c wr st kn kx) c (gma (st.cx' η) st.G) (oma (st.cx' η) st.O) K

theorem ev_block {T : FuncId → List Con} {H : Hints} {ret : MSt → Option R} {id : Nat} {c : Code} (ih : EvOk P E N T H ret c) (hl : ∀ body, c = .loop body → EvOk P E N T H ret body) : EvOk P E N T H ret (.block id c) := by
  intro A wr st η kn kx K hw hn hx hr
  have plain : Ref P E N (ev P T H N ret c wr st kn (fun i st => bif Nat.beq i id then kn st else kx i st)) (.block id c) (gma (st.cx' η) st.G) (oma (st.cx' η) st.O) K := by
    refine ref_block (ih A wr st η kn _ (blockK id K) hw (fun st1 η1 hw1 hx1 => n_block (hn st1 η1 hw1 hx1)) (fun i st1 η1 hw1 hx1 => ?_) (fun f hf st1 η1 hw1 hx1 => r_block (hr f hf st1 η1 hw1 hx1)))
    cases hb : Nat.beq i id with
    | true =>
      obtain rfl := Nat.eq_of_beq_eq_true hb
      exact x_eq (hn st1 η1 hw1 hx1)
    | false => exact x_ne hb (hx i st1 η1 hw1 hx1)
  cases c with
  | loop body =>
    have hb := hl body rfl
    unfold ev
    split
    · exact pnone
    · rename_i h _
      refine pull fun st1 h1 => ?_
      obtain ⟨hw1, η1, hx1, hs1⟩ := convs_ok (E := E) (N := N) h1 hw η
      refine b_of hs1 ?_
      split
      · exact pnone
      · rename_i p _
        refine pull fun s0 h0 => ?_
        obtain ⟨hs0, hfx0, hsat0⟩ := Pat.read_ok (E := E) (N := N) (c0 := st1.cx' η1) h0 (.refl _)
        -- the way back
        have back : ∀ {A' : Type} {K' : KT A'} {g : Tup p.ts → A'} (st2 : MSt) (η2 : Nat → Hd), Ext (st1.cx' η1) (st2.cx' η2) →
            (∀ s' (x : { hs : Nat → Hd // FxOk (st1.cx' η1) p hs }) {Γ : List (Nat × RP)} {Ω : List OB}, (∀ a w, Sat E N Γ Ω a w → Sat E N (p.Γ (st1.cx' η1) (leaf P p.ts s') x.1) (p.Ω (st1.cx' η1) (leaf P p.ts s') x.1) a w) → RefE E N .normal (some (g s')) Γ Ω K') →
            KOk E N .normal st2 η2 (fun st3 => (convs h.back st3).bind fun st3 => (p.read P st1.n st1.env st3).map g) K' := by
          intro A' K' g st2 η2 hx2 hg st3 η3 hw3 hx3
          refine conv_go hw3 fun st4 η4 hw4 hx4 => ?_
          intro r hr4
          obtain ⟨s', hs', rfl⟩ := Option.map_eq_some_iff.1 hr4
          obtain ⟨hs, hfx, hsat⟩ := Pat.read_ok (E := E) (N := N) (c0 := st1.cx' η1) hs' ((hx2.trans hx3).trans hx4)
          exact hg s' ⟨hs, hfx⟩ hsat _ rfl
        split
        · rename_i oi co ho _
          split
          · rename_i cb hb' _
            cases hoi : Nat.beq oi id with
            | true => exact pnone
            | false =>
              simp only [cond_false]
              split
              · rename_i pb po _ _
                refine ref_loopX (X := { hs : Nat → Hd // FxOk (st1.cx' η1) p hs }) (Y := { hs : Nat → Hd // FxOk (st1.cx' η1) pb hs })
                  (Γl := fun s x => p.Γ (st1.cx' η1) (leaf P p.ts s) x.1) (Ωl := fun s x => p.Ω (st1.cx' η1) (leaf P p.ts s) x.1)
                  (Γb := fun s x => pb.Γ (st1.cx' η1) (leaf P pb.ts s) x.1) (Ωb := fun s x => pb.Ω (st1.cx' η1) (leaf P pb.ts s) x.1) s0 ⟨hs0, hfx0⟩ hsat0 (fun s x => ?_) (fun q y => ?_)
                · refine pull fun st2 h2 => ?_
                  obtain ⟨η2, e1, e2, hw2, hx2⟩ := Pat.inst_ok (c0 := st1.cx' η1) hw1 h2 x.2
                  rw [← e1, ← e2]
                  refine hb (Sum (Sum (Sum R (Tup po.ts)) (Tup pb.ts)) (Tup p.ts)) (bif h.rets then some (fun r => .inl (.inl (.inl r))) else none) st2 η2 _ _ _ hw2
                    (back (g := Sum.inr) st2 η2 hx2 fun s' x' _ _ hh => goX x' hh) (fun i st3 η3 hw3 hx3 => ?_) (fun f' hf' st3 η3 hw3 hx3 => ?_)
                  · cases hi : Nat.beq i id with
                    | true =>
                      obtain rfl := Nat.eq_of_beq_eq_true hi
                      refine conv_go hw3 fun st4 η4 hw4 hx4 => ?_
                      intro r hr4
                      obtain ⟨q, hq, rfl⟩ := Option.map_eq_some_iff.1 hr4
                      obtain ⟨hs, hfx, hsat⟩ := Pat.read_ok (E := E) (N := N) (c0 := st1.cx' η1) hq ((hx2.trans hx3).trans hx4)
                      exact brkX ⟨hs, hfx⟩ hsat _ rfl
                    | false =>
                      simp only [cond_false]
                      cases hio : Nat.beq i oi with
                      | false => exact pnone
                      | true =>
                        obtain rfl := Nat.eq_of_beq_eq_true hio
                        refine conv_go hw3 fun st4 η4 hw4 hx4 => ?_
                        intro r hr4
                        obtain ⟨q, hq, rfl⟩ := Option.map_eq_some_iff.1 hr4
                        obtain ⟨hs, hfx, hsat⟩ := Pat.read_ok (E := E) (N := N) (c0 := st1.cx' η1) hq ((hx2.trans hx3).trans hx4)
                        refine outX (x_ne hoi (b_of hsat ?_)) _ rfl
                        refine pull fun st5 h5 => ?_
                        obtain ⟨η5, e5, e6, hw5, hx5⟩ := Pat.inst_ok (c0 := st1.cx' η1) hw1 h5 hfx
                        have h6 := hx i st5 η5 hw5 (hx1.trans hx5)
                        rw [← e5, ← e6]; exact h6
                  · cases hrt : h.rets with
                    | false => rw [hrt] at hf'; cases hf'
                    | true =>
                      rw [hrt] at hf'
                      cases hf'
                      intro r hr3
                      obtain ⟨r0, hr0, rfl⟩ := Option.map_eq_some_iff.1 hr3
                      refine retX (r_block ?_) _ rfl
                      cases wr with
                      | none => exact pnone
                      | some f =>
                        have h4 := hr f rfl st3 η3 hw3 ((hx1.trans hx2).trans hx3)
                        have e : (ret st3).map f = some (f r0) := by rw [hr0]; rfl
                        show RefE E N .ret (some (f r0)) _ _ K
                        rw [← e]; exact h4
                · refine pull fun st2 h2 => ?_
                  obtain ⟨η2, e1, e2, hw2, hx2⟩ := Pat.inst_ok (c0 := st1.cx' η1) hw1 h2 y.2
                  have h3 := hn st2 η2 hw2 (hx1.trans hx2)
                  rw [← e1, ← e2]; exact h3
              · exact pnone
          · exact pnone
        split
        · rename_i cb hb' f _ _
          split
          · exact pnone
          · rename_i pb _
            refine ref_loopX (X := { hs : Nat → Hd // FxOk (st1.cx' η1) p hs }) (Y := { hs : Nat → Hd // FxOk (st1.cx' η1) pb hs })
              (Γl := fun s x => p.Γ (st1.cx' η1) (leaf P p.ts s) x.1) (Ωl := fun s x => p.Ω (st1.cx' η1) (leaf P p.ts s) x.1)
              (Γb := fun s x => pb.Γ (st1.cx' η1) (leaf P pb.ts s) x.1) (Ωb := fun s x => pb.Ω (st1.cx' η1) (leaf P pb.ts s) x.1) s0 ⟨hs0, hfx0⟩ hsat0 (fun s x => ?_) (fun q y => ?_)
            · refine pull fun st2 h2 => ?_
              obtain ⟨η2, e1, e2, hw2, hx2⟩ := Pat.inst_ok (c0 := st1.cx' η1) hw1 h2 x.2
              rw [← e1, ← e2]
              refine hb (Sum (Sum R (Tup pb.ts)) (Tup p.ts)) (some fun r => .inl (.inl r)) st2 η2 _ _ _ hw2
                (back (g := Sum.inr) st2 η2 hx2 fun s' x' _ _ hh => goX x' hh) (fun i st3 η3 hw3 hx3 => ?_) (fun f' hf' st3 η3 hw3 hx3 => ?_)
              · cases hi : Nat.beq i id with
                | false => exact pnone
                | true =>
                  obtain rfl := Nat.eq_of_beq_eq_true hi
                  refine conv_go hw3 fun st4 η4 hw4 hx4 => ?_
                  intro r hr4
                  obtain ⟨q, hq, rfl⟩ := Option.map_eq_some_iff.1 hr4
                  obtain ⟨hs, hfx, hsat⟩ := Pat.read_ok (E := E) (N := N) (c0 := st1.cx' η1) hq ((hx2.trans hx3).trans hx4)
                  exact brkX ⟨hs, hfx⟩ hsat _ rfl
              · cases hf'
                intro r hr3
                obtain ⟨r0, hr0, rfl⟩ := Option.map_eq_some_iff.1 hr3
                have h4 := hr f rfl st3 η3 hw3 ((hx1.trans hx2).trans hx3)
                refine retX (r_block ?_) _ rfl
                have e : (ret st3).map f = some (f r0) := by rw [hr0]; rfl
                rw [← e]; exact h4
            · refine pull fun st2 h2 => ?_
              obtain ⟨η2, e1, e2, hw2, hx2⟩ := Pat.inst_ok (c0 := st1.cx' η1) hw1 h2 y.2
              have h3 := hn st2 η2 hw2 (hx1.trans hx2)
              rw [← e1, ← e2]; exact h3
        · rename_i cb hb' _ _
          split
          · exact pnone
          · rename_i pb _
            refine ref_loopB (X := { hs : Nat → Hd // FxOk (st1.cx' η1) p hs }) (Y := { hs : Nat → Hd // FxOk (st1.cx' η1) pb hs })
              (Γl := fun s x => p.Γ (st1.cx' η1) (leaf P p.ts s) x.1) (Ωl := fun s x => p.Ω (st1.cx' η1) (leaf P p.ts s) x.1)
              (Γb := fun s x => pb.Γ (st1.cx' η1) (leaf P pb.ts s) x.1) (Ωb := fun s x => pb.Ω (st1.cx' η1) (leaf P pb.ts s) x.1) s0 ⟨hs0, hfx0⟩ hsat0 (fun s x => ?_) (fun q y => ?_)
            · refine pull fun st2 h2 => ?_
              obtain ⟨η2, e1, e2, hw2, hx2⟩ := Pat.inst_ok (c0 := st1.cx' η1) hw1 h2 x.2
              rw [← e1, ← e2]
              refine hb (Sum (Tup pb.ts) (Tup p.ts)) none st2 η2 _ _ _ hw2
                (back (g := Sum.inr) st2 η2 hx2 fun s' x' _ _ hh => goB x' hh) (fun i st3 η3 hw3 hx3 => ?_) (fun f' hf' => by cases hf')
              · cases hi : Nat.beq i id with
                | false => exact pnone
                | true =>
                  obtain rfl := Nat.eq_of_beq_eq_true hi
                  refine conv_go hw3 fun st4 η4 hw4 hx4 => ?_
                  intro r hr4
                  obtain ⟨q, hq, rfl⟩ := Option.map_eq_some_iff.1 hr4
                  obtain ⟨hs, hfx, hsat⟩ := Pat.read_ok (E := E) (N := N) (c0 := st1.cx' η1) hq ((hx2.trans hx3).trans hx4)
                  exact brkB ⟨hs, hfx⟩ hsat _ rfl
            · refine pull fun st2 h2 => ?_
              obtain ⟨η2, e1, e2, hw2, hx2⟩ := Pat.inst_ok (c0 := st1.cx' η1) hw1 h2 y.2
              have h3 := hn st2 η2 hw2 (hx1.trans hx2)
              rw [← e1, ← e2]; exact h3
        · rename_i _ f _
          refine ref_block (ref_loop (X := { hs : Nat → Hd // FxOk (st1.cx' η1) p hs }) (Γl := fun s x => p.Γ (st1.cx' η1) (leaf P p.ts s) x.1) (Ωl := fun s x => p.Ω (st1.cx' η1) (leaf P p.ts s) x.1) s0 ⟨hs0, hfx0⟩ hsat0 (fun s x => ?_))
          refine pull fun st2 h2 => ?_
          obtain ⟨η2, e1, e2, hw2, hx2⟩ := Pat.inst_ok (c0 := st1.cx' η1) hw1 h2 x.2
          rw [← e1, ← e2]
          refine hb (Sum R (Tup p.ts)) (some fun r => .inl r) st2 η2 _ _ _ hw2
            (back (g := Sum.inr) st2 η2 hx2 fun s' x' _ _ hh => n_loop x' hh) (fun i st3 η3 hw3 hx3 => pnone) (fun f' hf' st3 η3 hw3 hx3 => ?_)
          · cases hf'
            intro r hr3
            obtain ⟨r0, hr0, rfl⟩ := Option.map_eq_some_iff.1 hr3
            have h4 := hr f rfl st3 η3 hw3 ((hx1.trans hx2).trans hx3)
            refine r_loop (r_block ?_) _ rfl
            have e : (ret st3).map f = some (f r0) := by rw [hr0]; rfl
            rw [← e]; exact h4
        · exact pnone
  | _ => exact plain

theorem ev_ok {T : FuncId → List Con} (hT : TabOk P T) {H : Hints} {ret : MSt → Option R} : ∀ c : Code, EvOk P E N T H ret c ∧ ∀ body, c = .loop body → EvOk P E N T H ret body := by
  intro c
  induction c using Code.rec with
  | skip => refine ⟨?_, by intro _ h; cases h⟩; intro A wr st η kn kx K hw hn hx hr; exact ref_skip (hn st η hw (.refl _))
  | label i => refine ⟨?_, by intro _ h; cases h⟩; intro A wr st η kn kx K hw hn hx hr; exact ref_label (hn st η hw (.refl _))
  | exit i => refine ⟨?_, by intro _ h; cases h⟩; intro A wr st η kn kx K hw hn hx hr; exact ref_exit (hx i st η hw (.refl _))
  | ret =>
    refine ⟨?_, by intro _ h; cases h⟩
    intro A wr st η kn kx K hw hn hx hr
    refine ref_ret ?_
    cases wr with
    | none => exact pnone
    | some f => exact hr f rfl st η hw (.refl _)
  | region id ops draw =>
    refine ⟨?_, by intro _ h; cases h⟩
    intro A wr st η kn kx K hw hn hx hr
    unfold ev
    cases draw with
    | true =>
      cases hb : P.follows .mixedOrders && okDraw ops.toList.toArray (flOf H 0 ops.toList) with
      | false => exact pnone
      | true =>
        simp only [Bool.and_eq_true] at hb
        have h2 := ref_draw (id := id) (lo := ops.toList) (P := P) (K := K) (Γ := gma (st.cx' η) st.G) (Ω := oma (st.cx' η) st.O) (E := E) (N := N) (flOf H 0 ops.toList) hb.1 hb.2
          fun hok => evA_ok (E := E) (N := N) (H := H) hT hok (K := K) (k := kn) ops.toList.length (Array.replicate ops.toList.length false) [] st η hw hn
        simpa using h2
    | false =>
      have h := evL_ok (E := E) (N := N) hT (H := H) (ops := ops) (K := K) (k := kn) ops.toList st η hw hn
      have h2 := ref_region (id := id) (l := ops.toList) (P := P) (K := K) (m := evL P T H N ops ops.toList st kn) (Γ := gma (st.cx' η) st.G) (Ω := oma (st.cx' η) st.O) (E := E) (N := N) (by simpa using h)
      simpa using h2
  | seq a b iha ihb =>
    refine ⟨?_, by intro _ h; cases h⟩
    intro A wr st η kn kx K hw hn hx hr
    unfold ev
    split
    · refine ref_seq (iha.1 A wr st η _ kx (thenK P b K) hw (fun st1 η1 hw1 hx1 => n_then ?_) (fun i st1 η1 hw1 hx1 => x_then (hx i st1 η1 hw1 hx1)) (fun f hf st1 η1 hw1 hx1 => r_then (hr f hf st1 η1 hw1 hx1)))
      exact ihb.1 A wr st1 η1 kn kx K hw1 (hn.ext hx1) (fun i => (hx i).ext hx1) (fun f hf => (hr f hf).ext hx1)
    · rename_i cv hp _
      split
      · rename_i p hp'
        refine ref_seq ?_
        refine ref_join (X := { hs : Nat → Hd // FxOk (st.cx' η) p hs }) (fun j x => p.Γ (st.cx' η) (leaf P p.ts j) x.1) (fun j x => p.Ω (st.cx' η) (leaf P p.ts j) x.1) (fun k hk => ?_) (fun j x => ?_)
        · refine iha.1 A wr st η _ kx (thenK P b K) hw (fun st1 η1 hw1 hx1 => ?_) (fun i st1 η1 hw1 hx1 => x_then (hx i st1 η1 hw1 hx1)) (fun f hf st1 η1 hw1 hx1 => r_then (hr f hf st1 η1 hw1 hx1))
          refine conv_go hw1 fun st2 η2 hw2 hx2 => pull fun j hj => ?_
          obtain ⟨hs, hfx, hsat⟩ := Pat.read_ok (E := E) (N := N) (c0 := st.cx' η) hj (hx1.trans hx2)
          exact b_to (hk j ⟨hs, hfx⟩) hsat
        · refine n_then (pull fun st1 h1 => ?_)
          obtain ⟨η1, e1, e2, hw1, hx1⟩ := Pat.inst_ok (c0 := st.cx' η) hw h1 x.2
          have h2 := ihb.1 A wr st1 η1 kn kx K hw1 (hn.ext hx1) (fun i => (hx i).ext hx1) (fun f hf => (hr f hf).ext hx1)
          rw [← e1, ← e2]; exact h2
      · exact pnone
  | cond x a b iha ihb =>
    refine ⟨?_, by intro _ h; cases h⟩
    intro A wr st η kn kx K hw hn hx hr
    unfold ev
    split
    · rename_i h1; exact ref_condT (opA_rp (c := st.cx' η) h1) rfl (iha.1 A wr st η kn kx K hw hn hx hr)
    · rename_i h1; exact ref_condF (opA_rp (c := st.cx' η) h1) rfl (ihb.1 A wr st η kn kx K hw hn hx hr)
    · rename_i i h1
      split
      · rename_i c hc
        have hlk : lkO (gma (st.cx' η) st.G) x = some (bv c) := by
          rw [opA_rp (c := st.cx' η) h1]
          obtain ⟨D, h2, h3⟩ := Option.bind_eq_some_iff.1 hc
          rw [(rdD_rp (c := st.cx' η) h2).1, Dyn.bool_rp h3]
        exact ref_cond hlk (fun _ => iha.1 A wr st η kn kx K hw hn hx hr) (fun _ => ihb.1 A wr st η kn kx K hw hn hx hr)
      · exact pnone
    · exact pnone
  | block id c ih => exact ⟨ev_block ih.1 ih.2, by intro _ h; cases h⟩
  | loop c ih => refine ⟨?_, by intro _ h; cases h; exact ih.1⟩; intro A wr st η kn kx K hw hn hx hr; exact pnone
  | rangeFunc _ _ _ _ _ _ => refine ⟨?_, by intro _ h; cases h⟩; intro A wr st η kn kx K hw hn hx hr; exact pnone
  | scope c ih =>
    refine ⟨?_, by intro _ h; cases h⟩
    intro A wr st η kn kx K hw hn hx hr
    unfold ev
    have h := ih.1 A wr st η kn kx (scopeK K) hw (fun st1 η1 hw1 hx1 => hn st1 η1 hw1 hx1) (fun i st1 η1 hw1 hx1 => hx i st1 η1 hw1 hx1) (fun f hf st1 η1 hw1 hx1 => hr f hf st1 η1 hw1 hx1)
    exact fun r hr' a w hs => wp_scope_straight (h r hr' a w hs)
  | goto i => refine ⟨?_, by intro _ h; cases h⟩; intro A wr st η kn kx K hw hn hx hr; exact pnone
  | refuse s => refine ⟨?_, by intro _ h; cases h⟩; intro A wr st η kn kx K hw hn hx hr; exact pnone
end Go.Dc

set_option linter.unusedSectionVars false
set_option linter.unusedVariables false
/-! Functions: from code that is carried out to a contract. -/
namespace Go.Dc
variable [DrawMode] {P : Program} [PTab P] {R : Type} {E : Env} {N : Nat}

/-! ### results -/
def resVal (P : Program) (st : MSt) : ResultVar → Option Sh
  | .tmp t => lkG st.G t
  | .cell a t => match lkG st.G a with
    | some (.vl false [.ptr o h off]) => (varC st.n st.O o h).bind fun l => (aggT P t).bind fun g => bif g
        then (sizeT P t).bind fun k => bif Nat.beq ((l.drop off).take k).length k then some (.vl true ((l.drop off).take k)) else none
        else (l[off]?).map fun a => .vl false [a]
    | _ => none
theorem resVal_ok {st : MSt} {η : Nat → Hd} {rv : ResultVar} {s : Sh} (h : resVal P st rv = some s) : RvOk P E N (gma (st.cx' η) st.G) (oma (st.cx' η) st.O) rv (s.rp (st.cx' η)) := by
  cases rv with
  | tmp t => exact rv_tmp (by rw [lk_gma, show lkG st.G t = some s from h]; rfl)
  | cell a t =>
    simp only [resVal] at h
    split at h
    · rename_i o k off hl
      obtain ⟨l, h1, h⟩ := Option.bind_eq_some_iff.1 h
      obtain ⟨g, h2, h⟩ := Option.bind_eq_some_iff.1 h
      obtain ⟨hb, hlt, hj⟩ := varC_ok (env := st.env) h1
      have hlk : lk (gma (st.cx' η) st.G) a = some (pv (ptr (η k).b off)) := by
        rw [lk_gma, hl]
        show some ((At.ptr o k off).rp (st.cx' η)) = _
        rw [ptr_rp (c := st.cx' η) hb]
      cases g with
      | true =>
        obtain ⟨m, h3, h⟩ := Option.bind_eq_some_iff.1 h
        cases hk : Nat.beq ((l.drop off).take m).length m with
        | false => rw [hk] at h; cases h
        | true =>
          rw [hk] at h; cases h
          have := rv_cell (E := E) (N := N) hlk (hj η) (aggT_ok h2) (sizeT_ok h3) rfl (by simpa using hk)
          rw [← List.map_drop, ← List.map_take] at this
          exact this
      | false =>
        obtain ⟨x, h3, rfl⟩ := Option.map_eq_some_iff.1 h
        exact rv_cell1 (E := E) (N := N) hlk (hj η) (aggT_ok h2) (by rw [List.getElem?_map, h3]; rfl)
    · cases h
def resVals (P : Program) (st : MSt) : List ResultVar → Option (List Sh)
  | [] => some []
  | r :: rs => (resVal P st r).bind fun s => (resVals P st rs).map (s :: ·)

theorem resH_imp {F : FP} {w : World} {φs ψs : List RP} {v : Value} (hi : ImpAll φs ψs) (h : resH F w φs v) : resH F w ψs v := by
  match φs, ψs, hi, h with
  | [], [], _, h => exact h
  | [φ], [ψ], ⟨h1, _⟩, h => exact h1 h
  | _ :: _ :: _, _ :: _ :: _, hi, ⟨vs, e, h⟩ => exact ⟨vs, e, hi.all h⟩

theorem resVals_ok {st : MSt} {η : Nat → Hd} {fn : Func} {ss : List Sh} (h : resVals P st fn.results.toList = some ss) (hl : fn.results.toList.length ≤ 3) {a : Act} {w : World}
    (hs : Sat E N (gma (st.cx' η) st.G) (oma (st.cx' η) st.O) a w) : ∃ v, (results fn a.tmps).run P w = .ok v w ∧ resH (fr E (oma (st.cx' η) st.O)) w (ss.map (Sh.rp (st.cx' η))) v := by
  generalize hr : fn.results.toList = l at h hl
  have hr' : fn.results = l.toArray := by rw [← hr]
  match l, h, hl with
  | [], h, _ => cases h; exact ⟨_, results0 hr' _ _, ⟨#[], rfl, trivial⟩⟩
  | [x], h, _ =>
    simp only [resVals] at h
    obtain ⟨s, h1, h2⟩ := Option.bind_eq_some_iff.1 h
    cases h2
    obtain ⟨v, h3, h4⟩ := resVal_ok (E := E) (N := N) (η := η) h1 a w hs
    exact ⟨v, results1 hr' h3, h4⟩
  | [x, y], h, _ =>
    simp only [resVals] at h
    obtain ⟨s, h1, h2⟩ := Option.bind_eq_some_iff.1 h
    obtain ⟨ss2, g2, rfl⟩ := Option.map_eq_some_iff.1 h2
    obtain ⟨s2, h5, h6⟩ := Option.bind_eq_some_iff.1 g2
    cases h6
    obtain ⟨v, h3, h4⟩ := resVal_ok (E := E) (N := N) (η := η) h1 a w hs
    obtain ⟨u, h7, h8⟩ := resVal_ok (E := E) (N := N) (η := η) h5 a w hs
    exact ⟨_, results2 hr' h3 h7, ⟨_, rfl, h4, h8, trivial⟩⟩
  | [x, y, z], h, _ =>
    simp only [resVals] at h
    obtain ⟨s, h1, h2⟩ := Option.bind_eq_some_iff.1 h
    obtain ⟨ss2, g2, rfl⟩ := Option.map_eq_some_iff.1 h2
    obtain ⟨s2, h5, h6⟩ := Option.bind_eq_some_iff.1 g2
    obtain ⟨ss3, g6, rfl⟩ := Option.map_eq_some_iff.1 h6
    obtain ⟨s3, h9, h10⟩ := Option.bind_eq_some_iff.1 g6
    cases h10
    obtain ⟨v, h3, h4⟩ := resVal_ok (E := E) (N := N) (η := η) h1 a w hs
    obtain ⟨u, h7, h8⟩ := resVal_ok (E := E) (N := N) (η := η) h5 a w hs
    obtain ⟨t, h11, h12⟩ := resVal_ok (E := E) (N := N) (η := η) h9 a w hs
    exact ⟨_, results3 hr' h3 h7 h11, ⟨_, rfl, h4, h8, h12, trivial⟩⟩
  | _ :: _ :: _ :: _ :: _, _, hl => simp at hl

/-! ### the beginning -/
def enumS : Nat → List (Bool × List KA) → List (Nat × (Bool × List KA))
  | _, [] => []
  | n, v :: r => (n, v) :: enumS (n + 1) r
def Con.pat0 (C : Con) : Pat := ⟨C.ins, enumS 0 C.ps, C.os, [], 0, C.nh⟩
theorem enumS_Γ {L : Nat → Nat → Option Dyn} {hs : Nat → Hd} : ∀ {l : List (Bool × List KA)} {n : Nat}, (enumS n l).map (fun x => (x.1, kvrp cx0 L hs x.2)) = enumΓ n (l.map (kvrp cx0 L hs))
  | [], _ => rfl
  | v :: r, n => by simp only [enumS, List.map_cons, enumΓ, enumS_Γ]

/-! ### the end -/
/-- the objects at the end: what they hold is matched -/
def endO (P : Program) [PTab P] (ts : List Ty) (st0 : MSt) (n : Nat) (env : List (Nat × Ent)) (O : List MO) : Nat → Mt → List KO → Option Mt
  | _, M, [] => some M
  | i, M, .dead :: os => endO P ts st0 n env O (i + 1) M os
  | i, M, .same :: os => match st0.O[i]?, O[i]? with
    | some a, some b => bif moEq a b && a.clo st0.n st0.env then endO P ts st0 n env O (i + 1) M os else none
    | _, _ => none
  | i, M, o :: os => (mtO P ts 0 [] n env O M o).bind fun M => endO P ts st0 n env O (i + 1) M os
/-- where they stand -/
def endP (M : Mt) : Nat → List KO → Option (List Nat)
  | _, [] => some []
  | i, .dead :: os => endP M (i + 1) os
  | i, .same :: os => (endP M (i + 1) os).map (i :: ·)
  | i, o :: os => (o.key.bind (lkM M.om)).bind fun x => (endP M (i + 1) os).map (x.1 :: ·)
def fixF (C : Con) (n0 : Nat) : Nat → Nat → List (Nat × (Nat × Nat))
  | _, 0 => []
  | k, m + 1 => (k, (k, n0 + k)) :: fixF C n0 (k + 1) m
theorem fixF_get {C : Con} {n0 : Nat} : ∀ {m k : Nat} {i : Nat}, k ≤ i → i < k + m → lkM (fixF C n0 k m) i = some (i, n0 + i)
  | 0, k, i, h1, h2 => by omega
  | m + 1, k, i, h1, h2 => by
    simp only [fixF, lkM]
    by_cases e : k = i
    · subst e; simp
    · rw [beq_ne e]; exact fixF_get (by omega) (by omega)

/-- what a function returns at state st, which began at st0 -/
def Con.ret (P : Program) [PTab P] (C : Con) (fn : Func) (fin : List Conv) (st0 : MSt) (st : MSt) : Option (Tup C.outs) :=
  (convs fin st).bind fun st => (resVals P st fn.results.toList).bind fun ss => (mtVs P C.outs false 0 [] st.n st.env ⟨[], fixF C C.pat0.wl.length 0 C.nh⟩ C.rs ss).bind fun M0 =>
    (endO P C.outs st0 st.n st.env st.O 0 M0 C.os').bind fun M => (endP M 0 C.os').bind fun is => bif nodupN is then M.tup P C.outs else none

theorem drop_step {α : Type} {l : List α} {i : Nat} : (∃ x, l.drop i = x :: l.drop (i + 1)) ∨ (l.drop i = [] ∧ l.drop (i + 1) = []) := by
  by_cases h : i < l.length
  · exact .inl ⟨l[i], List.drop_eq_getElem_cons h⟩
  · exact .inr ⟨List.drop_eq_nil_of_le (by omega), List.drop_eq_nil_of_le (by omega)⟩

theorem endO_ok {ts : List Ty} {st0 st : MSt} {Li : Nat → Nat → Option Dyn} {hs0 η0 η : Nat → Hd} {os : List KO} (h0 : oma (st0.cx' η0) st0.O = os.map (KO.ob cx0 Li hs0)) (hx : Ext (st0.cx' η0) (st.cx' η)) :
    ∀ {os' : List KO} {i : Nat} {M M' : Mt}, endO P ts st0 st.n st.env st.O i M os' = some M' → Mt.Le M M' ∧ ∀ {is : List Nat}, endP M' i os' = some is → ∀ {L : Nat → Nat → Option Dyn} {hs : Nat → Hd}, MtSay L hs η M' →
      (∀ (k p : Nat) (o : OB), is[k]? = some p → (keepB (kmask os') (kafter Li L hs0 hs (os.drop i) os'))[k]? = some o → (oma (st.cx' η) st.O)[p]? = some o) ∧ is.length = (keepB (kmask os') (kafter Li L hs0 hs (os.drop i) os')).length
  | [], i, M, M', h => by cases h; exact ⟨.refl _, fun hp => by cases hp; exact fun _ => ⟨fun k p o h => by simp at h, by cases (os.drop i) <;> rfl⟩⟩
  | .dead :: os', i, M, M', h => by
    obtain ⟨h1, h2⟩ := endO_ok h0 hx (os' := os') (i := i + 1) h
    refine ⟨h1, fun {is} hp {L hs} hsay => ?_⟩
    have h3 := h2 (is := is) hp hsay
    have e : keepB (kmask (.dead :: os')) (kafter Li L hs0 hs (os.drop i) (.dead :: os')) = keepB (kmask os') (kafter Li L hs0 hs (os.drop (i + 1)) os') := by
      rcases drop_step (l := os) (i := i) with ⟨x, hd⟩ | ⟨hd, hd'⟩
      · rw [hd]; rfl
      · rw [hd, hd']; rfl
    rw [e]; exact h3
  | .same :: os', i, M, M', h => by
    simp only [endO] at h
    split at h
    · rename_i a b ha hb
      cases hm : moEq a b && a.clo st0.n st0.env with
      | false => rw [hm] at h; cases h
      | true =>
        rw [hm] at h
        simp only [Bool.and_eq_true] at hm
        obtain ⟨hm, hclo⟩ := hm
        obtain rfl := moEq_ok hm
        obtain ⟨h1, h2⟩ := endO_ok h0 hx (os' := os') (i := i + 1) h
        refine ⟨h1, fun {is} hp {L hs} hsay => ?_⟩
        simp only [endP] at hp
        obtain ⟨is', hp', rfl⟩ := Option.map_eq_some_iff.1 hp
        obtain ⟨h3, h4⟩ := h2 (is := is') hp' hsay
        have hat : (oma (st0.cx' η0) st0.O)[i]? = some (a.ob (st0.cx' η0)) := by simp [oma, ha]
        obtain ⟨k0, hk0, hk1⟩ : ∃ k, os[i]? = some k ∧ k.ob cx0 Li hs0 = a.ob (st0.cx' η0) := by
          rw [h0, List.getElem?_map] at hat
          obtain ⟨k, hk, e⟩ := Option.map_eq_some_iff.1 hat
          exact ⟨k, hk, e⟩
        have hd : os.drop i = k0 :: os.drop (i + 1) := by
          have hlt := (List.getElem?_eq_some_iff.1 hk0).1
          rw [List.drop_eq_getElem_cons hlt, (List.getElem?_eq_some_iff.1 hk0).2]
        have e : keepB (kmask (.same :: os')) (kafter Li L hs0 hs (os.drop i) (.same :: os')) = k0.ob cx0 Li hs0 :: keepB (kmask os') (kafter Li L hs0 hs (os.drop (i + 1)) os') := by rw [hd]; rfl
        rw [e]
        refine ⟨fun k p o hk ho => ?_, by simp [h4]⟩
        cases k with
        | zero =>
          simp only [List.getElem?_cons_zero, Option.some.injEq] at hk ho
          subst hk; subst ho
          rw [hk1, ← MO.clo_ok hx hclo]
          simp [oma, hb]
        | succ k => exact h3 k p o (by simpa using hk) (by simpa using ho)
    · cases h
  | .oa x y :: os', i, M, M', h => by
    have h : (mtO P ts 0 [] st.n st.env st.O M (.oa x y)).bind (fun M => endO P ts st0 st.n st.env st.O (i + 1) M os') = some M' := h
    obtain ⟨M1, h1, h2⟩ := Option.bind_eq_some_iff.1 h
    obtain ⟨h3, k, p, z, hk, hm, hlt, hb, hat⟩ := mtO_ok (c0 := cx0) h1
    obtain ⟨h5, h6⟩ := endO_ok h0 hx h2
    refine ⟨h3.trans h5, fun {is} hp {L hs} hsay => ?_⟩
    have hp : ((KO.oa x y).key.bind (lkM M'.om)).bind (fun x => (endP M' (i + 1) os').map (x.1 :: ·)) = some is := hp
    simp only [hk, Option.bind_some, h5.o _ _ (h3.o _ _ hm)] at hp
    obtain ⟨is', hp', rfl⟩ := Option.map_eq_some_iff.1 hp
    obtain ⟨h7, h8⟩ := h6 (is := is') hp' hsay
    have e : keepB (kmask (.oa x y :: os')) (kafter Li L hs0 hs (os.drop i) (.oa x y :: os')) = (KO.oa x y).ob cx0 L hs :: keepB (kmask os') (kafter Li L hs0 hs (os.drop (i + 1)) os') := by
      rcases drop_step (l := os) (i := i) with ⟨x, hd⟩ | ⟨hd, hd'⟩
      · rw [hd]; rfl
      · rw [hd, hd']; rfl
    rw [e]
    refine ⟨fun k p o hk ho => ?_, by simp [h8]⟩
    cases k with
    | zero =>
      simp only [List.getElem?_cons_zero, Option.some.injEq] at hk ho
      subst hk; subst ho
      exact hat (cx0_ext _) (hsay.le h5)
    | succ k => exact h7 k p o (by simpa using hk) (by simpa using ho)
  | .oc x y :: os', i, M, M', h => by
    have h : (mtO P ts 0 [] st.n st.env st.O M (.oc x y)).bind (fun M => endO P ts st0 st.n st.env st.O (i + 1) M os') = some M' := h
    obtain ⟨M1, h1, h2⟩ := Option.bind_eq_some_iff.1 h
    obtain ⟨h3, k, p, z, hk, hm, hlt, hb, hat⟩ := mtO_ok (c0 := cx0) h1
    obtain ⟨h5, h6⟩ := endO_ok h0 hx h2
    refine ⟨h3.trans h5, fun {is} hp {L hs} hsay => ?_⟩
    have hp : ((KO.oc x y).key.bind (lkM M'.om)).bind (fun x => (endP M' (i + 1) os').map (x.1 :: ·)) = some is := hp
    simp only [hk, Option.bind_some, h5.o _ _ (h3.o _ _ hm)] at hp
    obtain ⟨is', hp', rfl⟩ := Option.map_eq_some_iff.1 hp
    obtain ⟨h7, h8⟩ := h6 (is := is') hp' hsay
    have e : keepB (kmask (.oc x y :: os')) (kafter Li L hs0 hs (os.drop i) (.oc x y :: os')) = (KO.oc x y).ob cx0 L hs :: keepB (kmask os') (kafter Li L hs0 hs (os.drop (i + 1)) os') := by
      rcases drop_step (l := os) (i := i) with ⟨x, hd⟩ | ⟨hd, hd'⟩
      · rw [hd]; rfl
      · rw [hd, hd']; rfl
    rw [e]
    refine ⟨fun k p o hk ho => ?_, by simp [h8]⟩
    cases k with
    | zero =>
      simp only [List.getElem?_cons_zero, Option.some.injEq] at hk ho
      subst hk; subst ho
      exact hat (cx0_ext _) (hsay.le h5)
    | succ k => exact h7 k p o (by simpa using hk) (by simpa using ho)

theorem nodupN_live {len : Nat} : ∀ {l : List Nat}, nodupN l = true → nodupN (livePos len l) = true
  | [], _ => rfl
  | i :: l, h => by
    simp only [nodupN, Bool.and_eq_true, Bool.not_eq_true'] at h
    have ih := nodupN_live (len := len) h.2
    unfold livePos at ih ⊢
    rw [List.filter_cons]
    split
    · simp only [nodupN, Bool.and_eq_true, Bool.not_eq_true']
      refine ⟨?_, ih⟩
      cases hh : hasN (l.filter fun i => !Nat.beq i len) i with
      | false => rfl
      | true =>
        have := hasN_iff.2 (List.mem_filter.1 (hasN_iff.1 hh)).1
        rw [this] at h; cases h.1
    · exact ih

/-- a function's model by its code -/
noncomputable def Con.run (P : Program) [PTab P] (C : Con) (fn : Func) (T : FuncId → List Con) (H : Hints) (fin : List Conv) (a : Tup C.ins) : Option (Tup C.outs) :=
  (C.pat0.inst P 0 [] a).bind fun st0 => match fn.body with
    | some c => ev P T H fn.ntmps (C.ret P fn fin st0) c (some id) st0 (C.ret P fn fin st0) (fun _ _ => none)
    | none => none

theorem conFn_of {f : FuncId} {fn : Func} {C : Con} {T : FuncId → List Con} {H : Hints} {fin : List Conv} (hf : P.funcs[f]? = some fn) (hc : ∀ args w, (callFunc f args).run P w = .ok (.enter f args) w) (hT : TabOk P T)
    (hN : Nat.ble C.ps.length fn.ntmps = true) (hr : Nat.ble fn.results.toList.length 3 = true) (hnh : Nat.beq C.nh C.os.length = true) (hm : ∀ a, C.run P fn T H fin a = C.m a) : ConFn P f C := by
  refine ⟨hc, fun a r har hs => ?_⟩
  rw [← hm a] at har
  unfold Con.run at har
  obtain ⟨st0, h0, har⟩ := Option.bind_eq_some_iff.1 har
  split at har
  · rename_i c hb
    have hw0 : WF cx0.n cx0.env := ⟨fun i e h => (by cases h), fun i e h => (by cases h)⟩
    obtain ⟨η0, e1, e2, hw1, hx1, hη⟩ := Pat.inst_okH (c0 := cx0) hw0 h0 (hs := hs) (fun k o h hk => by cases hk)
    have e1' : gma (st0.cx' η0) st0.G = enumΓ 0 (C.args (P := P) a hs) := e1.trans enumS_Γ
    have e2' : oma (st0.cx' η0) st0.O = C.Ω0 (P := P) a hs := e2
    refine fn_ok (X := Agr C.nh hs) (res := fun r x => C.res (P := P) r x.1) (Ω1 := fun r x => C.Ω1 (P := P) a r hs x.1) hf hb rfl har (by simpa [Con.args] using hN) fun E hE => ?_
    rw [← e1', ← e2']
    have fin' : ∀ e, e = .ret ∨ e = .normal → KOk E fn.ntmps e st0 η0 (C.ret P fn fin st0) (fnK P fn E fn.ntmps (fun r x => C.res (P := P) r x.1) (fun r (x : Agr C.nh hs) => C.Ω1 (P := P) a r hs x.1)) := by
      intro e he st η hw hx
      refine conv_go hw fun st1 η1 hw1 hx1' => ?_
      have hx2 := hx.trans hx1'
      refine pull fun ss hss => pull fun M0 hM0 => pull fun M hM => pull fun is his => ?_
      cases hnd : nodupN is with
      | false => exact pnone
      | true =>
        simp only [cond_true]
        intro r' hr'
        obtain ⟨m1, m2⟩ := mtVs_ok (c0 := cx0) hM0
        obtain ⟨m3, m4⟩ := endO_ok (os := C.os) (hs0 := hs) (Li := leaf P C.ins a) e2' hx2 hM
        have hsay := M.say hr' η1
        obtain ⟨m5, m6⟩ := m4 his hsay
        have hagr : ∀ k, k < C.nh → M.hs η1 k = hs k := fun k hk => by
          have h7 : lkM M.om k = some (k, C.pat0.wl.length + k) := m3.o _ _ (m1.o _ _ (fixF_get (C := C) (n0 := C.pat0.wl.length) (Nat.zero_le k) (by omega)))
          obtain ⟨h8, h9⟩ := hη k (by show k < C.nh - 0; omega)
          have h10 : (0 : Nat) + C.pat0.wl.length + k = C.pat0.wl.length + k := by omega
          simp only [Mt.hs, h7]
          have h11 := hx2.η (C.pat0.wl.length + k) (by have h12 : cx0.n + C.pat0.wl.length + k < st0.n := h9; have h13 : cx0.n = 0 := rfl; show C.pat0.wl.length + k < st0.n; omega)
          rw [show η1 (C.pat0.wl.length + k) = η0 (C.pat0.wl.length + k) from h11]
          have h14 : η0 (cx0.n + C.pat0.wl.length + k) = hs (0 + k) := h8
          rw [show cx0.n + C.pat0.wl.length + k = C.pat0.wl.length + k from by show 0 + C.pat0.wl.length + k = _; omega, Nat.zero_add] at h14
          exact h14
        refine finN he ⟨M.hs η1, hagr⟩ is (φs := C.res (P := P) r' (M.hs η1)) ?_ rfl (fun a' w' hsat => ?_) r' rfl
        · refine picks_of (len := st1.O.length) m6 (nodupN_live hnd) fun i p o hp ho => ⟨m5 i p o hp ho, fun hp' => ?_⟩
          have h7 := (List.getElem?_eq_some_iff.1 (m5 i p o hp ho)).1
          simp [oma] at h7; omega
        · obtain ⟨v, h3, h4⟩ := resVals_ok hss (Nat.le_of_ble_eq_true hr) hsat
          exact ⟨v, h3, resH_imp (m2 (cx0_ext _) (hsay.le m3)).1 h4⟩
    refine (ev_ok (E := E) (N := fn.ntmps) hT (H := H) (ret := C.ret P fn fin st0) c).1 _ (some id) st0 η0 _ _ _ hw1 (fin' _ (.inr rfl)) (fun i st η hw hx => pnone) (fun f' hf' => ?_)
    cases hf'
    have := fin' .ret (.inl rfl)
    intro st η hw hx
    have h5 := this st η hw hx
    simpa using h5
  · cases har
end Go.Dc

set_option linter.unusedSectionVars false
/-! Tables of contracts. -/
namespace Go.Dc
variable [DrawMode] {P : Program} [PTab P]
def tabL (l : List (FuncId × Con)) : FuncId → List Con := fun f => l.filterMap fun x => bif Nat.beq x.1 f then some x.2 else none
def AllC (P : Program) [PTab P] : List (FuncId × Con) → Prop
  | [] => True
  | x :: r => ConFn P x.1 x.2 ∧ AllC P r
theorem AllC.at : ∀ {l : List (FuncId × Con)}, AllC P l → ∀ x ∈ l, ConFn P x.1 x.2
  | [], _, x, h => by cases h
  | y :: r, ⟨h1, h2⟩, x, h => by
    rcases List.mem_cons.1 h with e | e
    · subst e; exact h1
    · exact AllC.at h2 x e
theorem tabL_ok {l : List (FuncId × Con)} (h : AllC P l) : TabOk P (tabL l) := fun f C hC => by
  obtain ⟨x, hx, e⟩ := List.mem_filterMap.1 hC
  cases hb : Nat.beq x.1 f with
  | false => rw [hb] at e; cases e
  | true =>
    rw [hb] at e; cases e
    obtain rfl := Nat.eq_of_beq_eq_true hb
    exact h.at x hx

def lkC : List (Nat × Nat) → Nat → Option Nat
  | [], _ => none
  | (t, n) :: r, i => bif Nat.beq t i then some n else lkC r i
def Dyn.as [SDen] (D : Dyn) (t : Ty) : Option t.den := if h : D.t = t then some (h ▸ D.d) else none
theorem Dyn.as_ok [SDen] {D : Dyn} {t : Ty} {x : t.den} (h : D.as t = some x) : D = ⟨t, x⟩ := by
  unfold Dyn.as at h
  split at h
  · rename_i e
    obtain ⟨u, d⟩ := D
    simp only at e
    subst e
    cases h; rfl
  · cases h
theorem all_at [SDen] {l : List Dyn} (h : l.all (fun D => D.t.one) = true) {D : Dyn} (hD : D ∈ l) : D.t.one = true := List.all_eq_true.1 h D hD
end Go.Dc

set_option linter.unusedSectionVars false
/-! Contracts of library functions, which are proved by other means. -/
namespace Go.Dc
variable [DrawMode] {P : Program} {f : FuncId}

theorem FnOk.re {X Y : Type} {args : List RP} {Ω0 : List OB} {res : X → List RP} {Ω1 : X → List OB} {res' : Y → List RP} {Ω1' : Y → List OB} (h : FnOk P f args Ω0 res Ω1)
    (k : ∀ x F w, (∀ o ∈ Ω1 x, o.h F w) → ∃ y, res' y = res x ∧ Ω1' y = Ω1 x) : FnOk P f args Ω0 res' Ω1' := by
  intro F w vs h1 h2 h3 h4 h5 h6 h7
  refine (h F w vs h1 h2 h3 h4 h5 h6 h7).mono ?_
  rintro e w' ⟨x, v, e1, e2, e3, e4, e5, e6⟩
  obtain ⟨y, y1, y2⟩ := k x _ _ e5
  exact ⟨y, v, e1, e2, by rw [y2]; exact e3, by rw [y2]; exact e4, by rw [y2]; exact e5, by rw [y1, y2]; exact e6⟩

def updHd (η : Nat → Hd) (k : Nat) (d : Hd) : Nat → Hd := fun i => bif Nat.beq i k then d else η i

variable [PTab P]
/-- a slice of ours is used up, the result is another -/
def conW1 (t : Ty) (m : List t.den → Option (List t.den)) : Con := ⟨[.sl t], [.sl t], m, [(false, [.own 0])], [.oa 0 (.d 0 0)], [(false, [.own 1])], [.dead, .oa 1 (.d 0 0)], 1, 2⟩
theorem conW1_ok {t : Ty} {m : List t.den → Option (List t.den)} (h : ∀ s r, m s = some r → ∀ h0 : Value × List Nat, FnOk P f [pv h0.1] [oa t.rep h0.1 h0.2 s] (fun x : Value × List Nat => [pv x.1]) (fun x => [oa t.rep x.1 x.2 r])) :
    ConOk P f (conW1 t m) := fun a r har hs => by
  refine (h a r har ((hs 0).hv, (hs 0).S)).re fun x F w hx => ?_
  have h1 : x.1.oneCell' = true := oa_one (hx (oa t.rep x.1 x.2 r) (List.mem_singleton.2 rfl))
  refine ⟨⟨updHd hs 1 ⟨x.1, x.2, 0, h1⟩, fun i hi => ?_⟩, rfl, rfl⟩
  have : i = 0 := by have : i < 1 := hi
                     omega
  subst this
  rfl
/-- a slice of ours is changed in place -/
def conW2 (t : Ty) (m : List t.den → Option (List t.den)) (ps : List (Bool × List KA)) : Con := ⟨[.sl t], [.sl t], m, (false, [.own 0]) :: ps, [.oa 0 (.d 0 0)], [], [.oa 0 (.d 0 0)], 1, 1⟩
theorem conW2F_ok {t : Ty} {m : List t.den → Option (List t.den)} {g : Nat} (h : ∀ s r, m s = some r → ∀ h0 : Value × List Nat, FnOk P f [pv h0.1, pv (.func (.func g) #[] #[])] [oa t.rep h0.1 h0.2 s] (fun _ : Unit => []) (fun _ => [oa t.rep h0.1 h0.2 r])) :
    ConOk P f (conW2 t m [(false, [.fn g []])]) := fun a r har hs => by
  refine (h a r har ((hs 0).hv, (hs 0).S)).re fun x F w _ => ?_
  exact ⟨⟨hs, fun _ _ => rfl⟩, rfl, rfl⟩
/-- a copy that is ours -/
def conW3 (t : Ty) (m : List t.den → Option (List t.den)) : Con := ⟨[.sl t], [.sl t], m, [(false, [.d 0 0])], [], [(false, [.own 0])], [.oa 0 (.d 0 0)], 0, 1⟩
theorem conW3_ok {t : Ty} {m : List t.den → Option (List t.den)} (h : ∀ s r, m s = some r → FnOk P f [slv t.rep s] [] (fun x : Value × List Nat => [pv x.1]) (fun x => [oa t.rep x.1 x.2 r])) :
    ConOk P f (conW3 t m) := fun a r har hs => by
  refine (h a r har).re fun x F w hx => ?_
  have h1 : x.1.oneCell' = true := oa_one (hx (oa t.rep x.1 x.2 r) (List.mem_singleton.2 rfl))
  refine ⟨⟨updHd hs 0 ⟨x.1, x.2, 0, h1⟩, fun i hi => ?_⟩, rfl, rfl⟩
  have : i < 0 := hi
  omega
end Go.Dc

set_option linter.unusedSectionVars false
/-! Functions that call themselves. -/
namespace Go.Dc

open Classical in
/-- what some depth gives -/
noncomputable def limM {A B : Type} (m : Nat → A → Option B) (a : A) : Option B := if h : ∃ n r, m n a = some r then some h.choose_spec.choose else none
theorem limM_at {A B : Type} {m : Nat → A → Option B} {a : A} {r : B} (h : limM m a = some r) : ∃ n, m n a = some r := by
  unfold limM at h
  split at h
  · rename_i h1
    cases h
    exact ⟨_, h1.choose_spec.choose_spec⟩
  · cases h
theorem limM_some {A B : Type} {m : Nat → A → Option B} {a : A} {n : Nat} {r : B} (h : m n a = some r) : ∃ r', limM m a = some r' := by
  unfold limM
  rw [dif_pos ⟨n, r, h⟩]
  exact ⟨_, rfl⟩
/-- models that agree once they are defined -/
def Mono {A B : Type} (m : Nat → A → Option B) : Prop := ∀ n a r, m n a = some r → m (n + 1) a = some r
theorem Mono.le {A B : Type} {m : Nat → A → Option B} (h : Mono m) {a : A} {r : B} {n : Nat} (h1 : m n a = some r) : ∀ k, n ≤ k → m k a = some r
  | 0, hk => by obtain rfl : n = 0 := by omega
                exact h1
  | k + 1, hk => by
    by_cases e : n = k + 1
    · subst e; exact h1
    · exact h _ _ _ (h.le h1 k (by omega))
theorem limM_iff {A B : Type} {m : Nat → A → Option B} (h : Mono m) {a : A} {r : B} : limM m a = some r ↔ ∃ n, m n a = some r := by
  refine ⟨limM_at, fun ⟨n, hn⟩ => ?_⟩
  obtain ⟨r', h'⟩ := limM_some hn
  obtain ⟨k, hk⟩ := limM_at h'
  have h1 := h.le hn (max n k) (Nat.le_max_left _ _)
  have h2 := h.le hk (max n k) (Nat.le_max_right _ _)
  rw [h1] at h2; cases h2; exact h'

def Con.with [SDen] (C : Con) (m : Tup C.ins → Option (Tup C.outs)) : Con := ⟨C.ins, C.outs, m, C.ps, C.os, C.rs, C.os', C.nh, C.nh'⟩
variable [DrawMode] {P : Program} {f : FuncId} [PTab P]
theorem conFn_none {C : Con} (hc : ∀ args w, (callFunc f args).run P w = .ok (.enter f args) w) : ConFn P f (C.with fun _ => none) := ⟨hc, fun a r h => by cases h⟩
theorem conFn_lim {C : Con} {m : Nat → Tup C.ins → Option (Tup C.outs)} (h : ∀ n, ConFn P f (C.with (m n))) : ConFn P f (C.with (limM m)) :=
  ⟨(h 0).call, fun a r har => by
    obtain ⟨n, hn⟩ := limM_at (show limM m a = some r from har)
    exact (h n).ok a r hn⟩
theorem conFn_rec {C : Con} {m : Nat → Tup C.ins → Option (Tup C.outs)} (hc : ∀ args w, (callFunc f args).run P w = .ok (.enter f args) w) (h0 : m 0 = fun _ => none) (h : ∀ n, ConFn P f (C.with (m n)) → ConFn P f (C.with (m (n + 1)))) : ConFn P f (C.with (limM m)) :=
  conFn_lim fun n => by
    induction n with
    | zero => rw [h0]; exact conFn_none hc
    | succ n ih => exact h n ih
end Go.Dc

/-! From the tables that a row lists to what a walk knows of them. -/
namespace Go.Dc
variable {P : Program}
theorem tinv_tab {W : World} {name : String} {k : IntKind} {zs : List Int} {g : Nat} (h : Lib.TabIs P W name k zs) (hg : P.globalNamed name = some g) :
    ∃ ty fz, W.heap[g]? = some (.cells (zs.map fun z => Value.int k z).toArray ty fz) := by
  unfold Lib.TabIs World.var? at h
  rw [hg] at h
  have h' : (match W.heap[g]? with | some (.cells cs _ _) => some cs | _ => none) = some (zs.map fun z => Value.int k z).toArray := h
  split at h'
  · rename_i cs ty fz e
    cases h'
    exact ⟨ty, fz, e⟩
  · cases h'
theorem laidMet_tail {x : String × DataW Unit} {l : List (String × DataW Unit)} {W : World} (h : laidMet P (x :: l) W) : laidMet P l W := by
  obtain ⟨ps, hv, hn, hr⟩ := h
  obtain ⟨n, d⟩ := x
  obtain ⟨g, t, cs, fuel, p, q, h1, h2, h3, h4, h5, h6⟩ := hv
  subst h6
  exact ⟨q, h5, (List.nodup_append.1 hn).2.1, fun b off hm => hr b off (List.mem_append_right _ hm)⟩
end Go.Dc

set_option linter.unusedVariables false
/-! slices.SortFunc of elements of several cells, under a function that compares. -/
namespace Go.Dc
open Go.Proofs Go.RowKit Go.Sort Go.Shelf Go.Lib
variable {P : Program} {α : Type} [Inhabited α]

theorem cell_of_blockL {w : World} {b o : Nat} {cells : Array Value} {ty : TypeId} {fz : Nat × Nat} (h : w.heap[b]? = some (.cells cells ty fz)) : w.cell? ⟨b, o, none⟩ = cells[o]? := by
  simp [World.cell?, h]
theorem unfrozen_of_blockL {w : World} {b o : Nat} {cells : Array Value} {ty : TypeId} (h : w.heap[b]? = some (.cells cells ty (0, 0))) : w.frozen? ⟨b, o, none⟩ = false := by
  simp [World.frozen?, h]

/-- what stays of a world in which only blocks were added -/
theorem kept_grow {w w' : World} (h : Kept [] w w') : ∃ q os, w' = grow (w.drewN q) os := by
  refine ⟨w'.drawn - w.drawn, w'.heap.extract w.heap.size w'.heap.size, ?_⟩
  have hh : w'.heap = w.heap ++ w'.heap.extract w.heap.size w'.heap.size := by
    have hs := h.size
    apply Array.ext_getElem?
    intro i
    by_cases e : i < w.heap.size
    · rw [Array.getElem?_append_left e, h.blk i e (by simp)]
    · rw [Array.getElem?_append_right (by omega), Array.getElem?_extract]
      by_cases e2 : i < w'.heap.size
      · rw [if_pos (by omega), show w.heap.size + (i - w.heap.size) = i by omega]
      · rw [Array.getElem?_eq_none (by omega)]
        split
        · rw [Array.getElem?_eq_none (by omega)]
        · rfl
  have hd := h.drawn trivial
  obtain ⟨heap, tape, drawn, os, output⟩ := w
  obtain ⟨heap', tape', drawn', os', output'⟩ := w'
  have h1 := h.os; have h2 := h.tape; have h3 := h.output
  dsimp only at h1 h2 h3 hh hd ⊢
  subst h1; subst h2; subst h3
  unfold grow World.drewN
  simp only [World.mk.injEq, true_and, and_true]
  exact ⟨hh, by omega⟩

/-- elements whose cells are fixed by their value -/
structure EncT {α : Type} (ρ : Rep α) (enc : α → List Value) (k : Nat) : Prop where
  size : ρ.size = k
  pos : 0 < k
  agg : ρ.agg = true
  len : ∀ x, (enc x).length = k
  one : ∀ x, ∀ v ∈ enc x, v.oneCell' = true
  to : ∀ (x : α) (F : FP) (w : World) (cs : List Value), AllP F w (ρ.cp x) cs → cs = enc x
  of : ∀ (x : α) (F : FP) (w : World), AllP F w (ρ.cp x) (enc x)

/-- a function that compares: total, a strict weak order that parts whatever two that are not one -/
def cfo (m : α → α → Option Int) (x y : α) : Int := (m x y).getD 0
structure CmpOk (m : α → α → Option Int) : Prop where
  tot : ∀ x y, m x y = some (cfo m x y)
  swo : SWO (ltOf (cfo m))
  sep : ∀ x y, ltOf (cfo m) x y = false → ltOf (cfo m) y x = false → x = y
def sortL (m : α → α → Option Int) (l : List α) : List α := l.mergeSort fun x y => !(ltOf (cfo m)) y x
open Classical in
noncomputable def sortFM (m : α → α → Option Int) (l : List α) : Option (List α) := if l.length ≤ 1000000000000 ∧ CmpOk m then some (sortL m l) else none
omit [Inhabited α] in
theorem sortL_len {m : α → α → Option Int} {l : List α} : (sortL m l).length = l.length := by simp [sortL]

omit [Inhabited α] in
theorem slH_enc {ρ : Rep α} {enc : α → List Value} {k : Nat} (hE : EncT ρ enc k) {F : FP} {w : World} {cells : Array Value} {off : Nat} {d : List α} :
    SlH ρ F w cells off d ↔ ∀ i (hi : i < d.length), ∀ j, j < k → cells[off + i * k + j]? = (enc d[i])[j]? := by
  constructor
  · intro h i hi j hj
    obtain ⟨es, h1, h2⟩ := h i hi
    have := h2 j (by rw [hE.size]; exact hj)
    rw [hE.size] at this
    rw [this, hE.to _ _ _ _ h1]
  · intro h i hi
    refine ⟨enc d[i], hE.of _ _ _, fun j hj => ?_⟩
    rw [hE.size] at hj ⊢
    exact h i hi j hj

/-- a contract that tells of the draws too -/
abbrev FnOkS {X : Type} (P : Program) (f : FuncId) (args : List RP) (Ω0 : List OB) (res : X → List RP) (Ω1 : X → List OB) : Prop := FnOk P f args Ω0 res Ω1
/-- slices.SortFunc of a slice of structs that is ours -/
theorem sort_fnF [DrawMode] {ρ : Rep α} {enc : α → List Value} {k : Nat} (hE : EncT ρ enc k) {fS fC : Nat} {m : α → α → Option Int} {X : Type}
    (hfC : ∀ x y r, m x y = some r → FnOkS P fC [sh ρ x, sh ρ y] [] (fun _ : X => [iv .i64 r]) (fun _ => []))
    (hC : ∀ (hO : SWO (ltOf (cfo m))) (blk off cap : Nat) (d : Array α) (w : World), CmpLays P fC #[] enc k (cfo m) blk off d.size w → HoldsK enc k w blk off d → blk < w.heap.size → d.size < 4611686018427387904 →
      (∀ x y, (ltOf (cfo m)) x y = false → (ltOf (cfo m)) y x = false → x = y) →
      Calls P fS #[.slice (some ⟨blk, off, none⟩) d.size cap, .func (.func fC) #[] #[]] w fun e w' => e = .returned (.tuple #[]) ∧ ∃ n os, w' = sortWorldK enc k w blk off n (d.toList.mergeSort fun x y => !(ltOf (cfo m)) y x).toArray os)
    (hN : ∀ (p : Option Addr) (cap : Nat) (fv : Value) (w : World), Calls P fS #[.slice p 0 cap, fv] w fun e w' => e = .returned (.tuple #[]) ∧ w' = w)
    {l r : List α} (hm : sortFM m l = some r) {h : Value × List Nat} :
    FnOk P fS [pv h.1, pv (.func (.func fC) #[] #[])] [oa ρ h.1 h.2 l] (fun _ : Unit => []) (fun _ : Unit => [oa ρ h.1 h.2 r]) := by
  intro F w vs hF hmf hbd hnd hob hargs htb
  unfold sortFM at hm
  have hl : l.length ≤ 1000000000000 ∧ CmpOk m := Classical.byContradiction fun hx => by rw [if_neg hx] at hm; cases hm
  rw [if_pos hl] at hm
  cases hm
  obtain ⟨hl, hcm⟩ := hl
  match vs, hargs with
  | [v0, v1], ⟨hv0, hv1, _⟩ =>
    have hv0' : v0 = h.1 := hv0
    have hv1' : v1 = .func (.func fC) #[] #[] := hv1
    subst hv0'; subst hv1'
    obtain ⟨hv, S⟩ := h
    obtain ⟨a, c, e1, hc, hat⟩ := hob (oa ρ hv S l) (by simp)
    simp only at e1 hat hbd ⊢
    subst e1
    have hlen : (sortL m l).length = l.length := sortL_len
    rcases hat with ⟨rfl, rfl, rfl⟩ | ⟨b, off, cells, ty, rfl, rfl, hb, hsz, hH⟩
    · have : l = [] := List.eq_nil_of_length_eq_zero (by omega)
      subst this
      refine Calls.mono (hN none 0 _ w) ?_
      rintro e' w' ⟨rfl, rfl⟩
      refine ⟨(), _, rfl, .refl _ _, by simp [ow, oa], by simp [ow, oa], fun o ho => ?_, #[], rfl, trivial⟩
      rw [List.mem_singleton.1 ho]
      exact ⟨none, 0, by simp [sortL], by simp [sortL], .inl ⟨rfl, rfl, rfl⟩⟩
    · have hI := (slH_enc hE).1 hH
      have hsz' : off + c * k ≤ cells.size := by rw [← hE.size]; exact hsz
      have hk := hE.pos
      have hHo : HoldsK enc k w b off l.toArray := fun t ht => by
        have ht' : t < l.length * k := by simpa using ht
        have hq : t / k < l.length := Nat.div_lt_of_lt_mul (by rw [Nat.mul_comm]; exact ht')
        have hr : t % k < k := Nat.mod_lt _ hk
        refine ⟨?_, unfrozen_of_blockL hb⟩
        rw [cell_of_blockL hb]
        have h1 := hI (t / k) hq (t % k) hr
        rw [show off + t / k * k + t % k = off + t by have := Nat.div_add_mod t k; rw [Nat.mul_comm] at this; omega] at h1
        rw [h1, get_flatK _ _ _ _ (by simpa using ht')]
        have e : l.toArray[t / k]! = l[t / k] := by simp [hq]
        rw [e]
        have hlt : t % k < (enc l[t / k]).length := by rw [hE.len]; exact hr
        rw [List.getElem?_eq_getElem hlt]
        simp [hlt]
      have hbl := size_of_get hb
      have hcmp : CmpLays P fC #[] enc k (cfo m) b off l.toArray.size w := fun q os dk hdk x y => by
        have hsh : ∀ x : α, (sh ρ x).h (fun _ => True) (sortWorldK enc k w b off q dk os) (.agg (enc x).toArray) := fun x => sh_iff.2 ⟨enc x, hE.of x _ _, by rw [hE.agg]; rfl⟩
        have hcl := hfC x y _ (hcm.tot x y) (fun _ => True) (sortWorldK enc k w b off q dk os) [.agg (enc x).toArray, .agg (enc y).toArray] (fun _ _ => trivial) (fun _ _ => trivial) (by simp [ow]) (by simp [ow]) (by simp)
          ⟨(sh ρ x).mono (.refl fun _ _ _ => ⟨trivial, by simp [ow]⟩) (hsh x), (sh ρ y).mono (.refl fun _ _ _ => ⟨trivial, by simp [ow]⟩) (hsh y), trivial⟩ (fun _ hx => by cases hx)
        refine Calls.mono hcl ?_
        rintro e' w' ⟨_, v, rfl, hk, _, _, _, hv⟩
        have hv' : v = .int .i64 (cfo m x y) := hv
        subst hv'
        exact ⟨rfl, kept_grow hk⟩
      have hCl := hC hcm.swo b off c l.toArray w hcmp hHo hbl (by simp; omega) hcm.sep
      rw [List.size_toArray] at hCl
      refine Calls.mono hCl ?_
      rintro e' w' ⟨rfl, q, os, rfl⟩
      have hr : (l.mergeSort fun x y => !(ltOf (cfo m)) y x) = sortL m l := rfl
      rw [List.toList_toArray, hr]
      generalize sortL m l = r at *
      have hheap : ∀ i, i < w.heap.size → (sortWorldK enc k w b off q r.toArray os).heap[i]? = if i = b then some (.cells (putCells id off (flatK enc k r.toArray) cells) ty (0, 0)) else w.heap[i]? := fun i hi => by
        unfold sortWorldK putRowK grow putRow mapBlock Sort.ahead
        simp only
        rw [Array.getElem?_append_left (by simpa using hi)]
        simp only [Array.getElem?_modify]
        by_cases e : b = i
        · subst e; rw [if_pos rfl, if_pos rfl, hb]; rfl
        · rw [if_neg e, if_neg (fun h => e h.symm)]
      have hgs : w.heap.size ≤ (sortWorldK enc k w b off q r.toArray os).heap.size := by simp [sortWorldK, putRowK, grow, putRow, mapBlock, Sort.ahead]
      refine ⟨(), _, rfl, ⟨rfl, rfl, rfl, by simp [sortWorldK, putRowK, grow, putRow, mapBlock, Sort.ahead], hgs, fun i hi hk' => ?_⟩, fun i hk' => ?_, by simp [ow, oa], fun o ho => ?_, #[], rfl, trivial⟩
      · rw [hheap i hi, if_neg (fun e => hk' (by simp [ow, oa, e]))]
      · have : i = b := by simpa [ow, oa] using hk'
        subst this
        exact ⟨by omega, .inr (by simp [ow, oa])⟩
      · rw [List.mem_singleton.1 ho]
        refine ⟨_, c, by rw [hlen], by omega, .inr ⟨b, off, _, ty, rfl, rfl, by rw [hheap b hbl, if_pos rfl], ?_, (slH_enc hE).2 fun i hi j hj => ?_⟩⟩
        · simp only [putCells, Array.size_mapIdx]; rw [hE.size]; exact hsz'
        · have hic : i * k + k ≤ c * k := by rw [← Nat.succ_mul]; exact Nat.mul_le_mul_right _ (by omega)
          have hir : i * k + j < r.length * k := by
            have : i * k + k ≤ r.length * k := by rw [← Nat.succ_mul]; exact Nat.mul_le_mul_right _ (by omega)
            omega
          have hi2 : off + i * k + j < cells.size := by omega
          simp only [putCells, Array.getElem?_mapIdx, Array.getElem?_eq_getElem hi2, Option.map_some]
          rw [if_pos (by simp; omega)]
          have e1 : off + i * k + j - off = i * k + j := by omega
          rw [e1, id, get_flatK _ _ _ _ (by simpa using hir)]
          have e2 : (i * k + j) / k = i := by rw [Nat.add_comm, Nat.add_mul_div_right _ _ hk, Nat.div_eq_of_lt hj, Nat.zero_add]
          have e3 : (i * k + j) % k = j := by rw [Nat.add_comm, Nat.add_mul_mod_self_right, Nat.mod_eq_of_lt hj]
          rw [e2, e3]
          have e4 : r.toArray[i]! = r[i] := by simp [hi]
          rw [e4]
          have hlt : j < (enc r[i]).length := by rw [hE.len]; exact hj
          rw [List.getElem?_eq_getElem hlt]
          simp [hlt]
end Go.Dc

set_option linter.unusedSectionVars false
set_option linter.unusedVariables false
/-! slices.SortFunc of integers, under a function that compares. -/
namespace Go.Dc
open Go.Proofs Go.RowKit Go.Sort Go.Shelf Go.Lib
variable {P : Program}
def encI (x : Int) : Value := .int .i64 x
theorem encI_one : OneCell encI := fun _ => rfl
theorem slH_intE {F : FP} {w : World} {cells : Array Value} {off : Nat} {d : List Int} : SlH (rI .i64) F w cells off d ↔ ∀ i (hi : i < d.length), cells[off + i]? = some (encI d[i]) := by
  constructor
  · intro h i hi
    obtain ⟨es, h1, h2⟩ := h i hi
    have h3 := h2 0 Nat.one_pos
    match es, h1 with
    | [v], ⟨hv, _⟩ =>
      have hv' : v = .int .i64 d[i] := hv
      subst hv'
      have e : off + i * (rI .i64).size + 0 = off + i := by show off + i * 1 + 0 = _; omega
      rw [e] at h3; exact h3
  · intro h i hi
    refine ⟨[encI d[i]], ⟨rfl, trivial⟩, fun j hj => ?_⟩
    have : j = 0 := by have h1 : j < 1 := hj; omega
    subst this
    have e : off + i * (rI .i64).size + 0 = off + i := by show off + i * 1 + 0 = _; omega
    rw [e]; exact h i hi
theorem sort_fnI [DrawMode] {fS fC : Nat} {m : Int → Int → Option Int} {X : Type}
    (hfC : ∀ x y r, m x y = some r → FnOkS P fC [iv .i64 x, iv .i64 y] [] (fun _ : X => [iv .i64 r]) (fun _ => []))
    (hC : ∀ (hO : SWO (ltOf (cfo m))) (blk off cap : Nat) (d : Array Int) (w : World), CmpLays1 P fC #[] encI (cfo m) blk off d.size w → Holds encI w blk off d → blk < w.heap.size → d.size < 4611686018427387904 →
      (∀ x y, (ltOf (cfo m)) x y = false → (ltOf (cfo m)) y x = false → x = y) →
      Calls P fS #[.slice (some ⟨blk, off, none⟩) d.size cap, .func (.func fC) #[] #[]] w fun e w' => e = .returned (.tuple #[]) ∧ ∃ n os, w' = sortWorld encI w blk off n (d.toList.mergeSort fun x y => !(ltOf (cfo m)) y x).toArray os)
    (hN : ∀ (p : Option Addr) (cap : Nat) (fv : Value) (w : World), Calls P fS #[.slice p 0 cap, fv] w fun e w' => e = .returned (.tuple #[]) ∧ w' = w)
    {l r : List Int} (hm : sortFM m l = some r) {h : Value × List Nat} :
    FnOk P fS [pv h.1, pv (.func (.func fC) #[] #[])] [oa (rI .i64) h.1 h.2 l] (fun _ : Unit => []) (fun _ : Unit => [oa (rI .i64) h.1 h.2 r]) := by
  intro F w vs hF hmf hbd hnd hob hargs htb
  unfold sortFM at hm
  have hl : l.length ≤ 1000000000000 ∧ CmpOk m := Classical.byContradiction fun hx => by rw [if_neg hx] at hm; cases hm
  rw [if_pos hl] at hm
  cases hm
  obtain ⟨hl, hcm⟩ := hl
  match vs, hargs with
  | [v0, v1], ⟨hv0, hv1, _⟩ =>
    have hv0' : v0 = h.1 := hv0
    have hv1' : v1 = .func (.func fC) #[] #[] := hv1
    subst hv0'; subst hv1'
    obtain ⟨hv, S⟩ := h
    obtain ⟨a, c, e1, hc, hat⟩ := hob (oa (rI .i64) hv S l) (by simp)
    simp only at e1 hat hbd ⊢
    subst e1
    have hlen : (sortL m l).length = l.length := sortL_len
    rcases hat with ⟨rfl, rfl, rfl⟩ | ⟨b, off, cells, ty, rfl, rfl, hb, hsz, hH⟩
    · have : l = [] := List.eq_nil_of_length_eq_zero (by omega)
      subst this
      refine Calls.mono (hN none 0 _ w) ?_
      rintro e' w' ⟨rfl, rfl⟩
      refine ⟨(), _, rfl, .refl _ _, by simp [ow, oa], by simp [ow, oa], fun o ho => ?_, #[], rfl, trivial⟩
      rw [List.mem_singleton.1 ho]
      exact ⟨none, 0, by simp [sortL], by simp [sortL], .inl ⟨rfl, rfl, rfl⟩⟩
    · have hI := slH_intE.1 hH
      have hsz' : off + c ≤ cells.size := by have : off + c * 1 ≤ cells.size := hsz; omega
      have hHo : Holds encI w b off l.toArray := fun t ht => by
        have ht' : t < l.length := by simpa using ht
        refine ⟨?_, unfrozen_of_blockL hb⟩
        rw [cell_of_blockL hb, hI t ht']
        simp [ht']
      have hbl := size_of_get hb
      have hcmp : CmpLays1 P fC #[] encI (cfo m) b off l.toArray.size w := fun q os dk hdk x y => by
        have hcl := hfC x y _ (hcm.tot x y) (fun _ => True) (sortWorld encI w b off q dk os) [encI x, encI y] (fun _ _ => trivial) (fun _ _ => trivial) (by simp [ow]) (by simp [ow]) (by simp) ⟨rfl, rfl, trivial⟩ (fun _ hx => by cases hx)
        refine Calls.mono hcl ?_
        rintro e' w' ⟨_, v, rfl, hk, _, _, _, hv⟩
        have hv' : v = .int .i64 (cfo m x y) := hv
        subst hv'
        exact ⟨rfl, kept_grow hk⟩
      have hCl := hC hcm.swo b off c l.toArray w hcmp hHo hbl (by simp; omega) hcm.sep
      rw [List.size_toArray] at hCl
      refine Calls.mono hCl ?_
      rintro e' w' ⟨rfl, q, os, rfl⟩
      have hr : (l.mergeSort fun x y => !(ltOf (cfo m)) y x) = sortL m l := rfl
      rw [List.toList_toArray, hr]
      generalize sortL m l = r at *
      have hheap : ∀ i, i < w.heap.size → (sortWorld encI w b off q r.toArray os).heap[i]? = if i = b then some (.cells (putCells encI off r.toArray cells) ty (0, 0)) else w.heap[i]? := fun i hi => by
        unfold sortWorld grow putRow mapBlock Sort.ahead
        simp only
        rw [Array.getElem?_append_left (by simpa using hi)]
        simp only [Array.getElem?_modify]
        by_cases e : b = i
        · subst e; rw [if_pos rfl, if_pos rfl, hb]; rfl
        · rw [if_neg e, if_neg (fun h => e h.symm)]
      have hgs : w.heap.size ≤ (sortWorld encI w b off q r.toArray os).heap.size := by simp [sortWorld, grow, putRow, mapBlock, Sort.ahead]
      refine ⟨(), _, rfl, ⟨rfl, rfl, rfl, by simp [sortWorld, grow, putRow, mapBlock, Sort.ahead], hgs, fun i hi hk' => ?_⟩, fun i hk' => ?_, by simp [ow, oa], fun o ho => ?_, #[], rfl, trivial⟩
      · rw [hheap i hi, if_neg (fun e => hk' (by simp [ow, oa, e]))]
      · have : i = b := by simpa [ow, oa] using hk'
        subst this
        exact ⟨by omega, .inr (by simp [ow, oa])⟩
      · rw [List.mem_singleton.1 ho]
        refine ⟨_, c, by rw [hlen], by omega, .inr ⟨b, off, _, ty, rfl, rfl, by rw [hheap b hbl, if_pos rfl], ?_, slH_intE.2 fun i hi => ?_⟩⟩
        · simp only [putCells, Array.size_mapIdx]; exact hsz
        · have hi2 : off + i < cells.size := by omega
          simp only [putCells, Array.getElem?_mapIdx, Array.getElem?_eq_getElem hi2, Option.map_some]
          rw [if_pos (by simp; omega)]
          have e1 : off + i - off = i := by omega
          rw [e1]
          have e4 : r.toArray[i]! = r[i] := by simp [hi]
          rw [e4]
end Go.Dc

/-! A comparing function's contract, for slices.SortFunc (the count of draws does not fall). -/
namespace Go.Dc
variable {P : Program} {f : FuncId} [PTab P]
theorem conCmp {t : Ty} {m : t.den → t.den → Option Int} {ps : List (Bool × List KA)} {X Y : RP} {x y : t.den} {r : Int}
    (h : ConFn P f ⟨[t, t], [.int .i64], fun a => m a.1 a.2, ps, [], [(false, [.d 0 0])], [], 0, 0⟩) (hm : m x y = some r)
    (he : ∀ hs, Con.args (P := P) ⟨[t, t], [.int .i64], fun a => m a.1 a.2, ps, [], [(false, [.d 0 0])], [], 0, 0⟩ (x, y) hs = [X, Y]) :
    FnOkS P f [X, Y] [] (fun _ : Unit => [iv .i64 r]) (fun _ => []) := by
  have h1 := h.ok (x, y) r hm (fun _ => ⟨.nilIface, [], 0, rfl⟩)
  rw [he] at h1
  exact h1.re fun _ _ _ _ => ⟨(), rfl, rfl⟩
end Go.Dc

/-! bits.TrailingZeros64 as a contract of ours: its table is known throughout. -/
namespace Go.Dc
open Go.Proofs
variable [DrawMode] {P : Program}
def tzM (x : Int) : Option Int := if 0 ≤ x ∧ x < 18446744073709551616 then some (Lib.ctz 64 x.toNat : Int) else none
def tzCells : Array Value := (Lib.deBruijn64tab.map fun z : Nat => Value.int .u8 (z : Int)).toArray
theorem tz_fn {f g : Nat} (hC : ∀ (x : Nat), x < 18446744073709551616 → ∀ w : World, (x ≠ 0 → TabAt g Lib.deBruijn64tab w) → Calls P f #[.int .u64 x] w fun e w' => e = .returned (.int .i64 (Lib.ctz 64 x)) ∧ w' = w)
    (hT : (g, tzCells) ∈ DrawMode.tabs) {x r : Int} (h : tzM x = some r) : FnOk P f [iv .u64 x] [] (fun _ : Unit => [iv .i64 r]) (fun _ => []) := by
  intro F w vs hF hmf hbd hnd hob hargs htb
  unfold tzM at h
  split at h
  · rename_i hx
    cases h
    match vs, hargs with
    | [v0], ⟨hv, _⟩ =>
      have hv : v0 = .int .u64 x := hv
      subst hv
      obtain ⟨_, ty, fz, hg⟩ := htb _ hT
      have htab : TabAt g Lib.deBruijn64tab w := fun j hj => by
        have hg' : w.heap[g]? = some (.cells tzCells ty fz) := hg
        simp only [World.cell?, hg']
        simp [tzCells, List.getD, hj]
      have e : x = ((x.toNat : Nat) : Int) := by omega
      have hc := hC x.toNat (by omega) w fun _ => htab
      rw [← e] at hc
      refine hc.mono ?_
      rintro e' w' ⟨rfl, rfl⟩
      exact ⟨(), _, rfl, .refl _ _, by simp [ow], by simp [ow], by simp, rfl⟩
  · cases h
theorem tz_con [PTab P] {f : Nat} (h : ∀ {x r : Int}, tzM x = some r → FnOk P f [iv .u64 x] [] (fun _ : Unit => [iv .i64 r]) (fun _ => [])) :
    ConOk P f ⟨[.int .u64], [.int .i64], tzM, [(false, [.d 0 0])], [], [(false, [.d 0 0])], [], 0, 0⟩ := fun _ _ hr hs =>
  (h hr).re fun _ _ _ _ => ⟨⟨hs, fun i hi => absurd hi (Nat.not_lt_zero i)⟩, rfl, rfl⟩
end Go.Dc
namespace Go.Dc
def tzInts : List Int := Lib.deBruijn64tab.map fun z : Nat => (z : Int)
theorem tz_inv {W : World} {g : Nat} (h : ∃ ty fz, W.heap[g]? = some (.cells (tzInts.map fun z => Value.int .u8 z).toArray ty fz)) : ∃ ty fz, W.heap[g]? = some (.cells tzCells ty fz) := by
  obtain ⟨ty, fz, h⟩ := h
  unfold tzInts at h
  rw [List.map_map] at h
  exact ⟨ty, fz, h⟩
end Go.Dc

set_option linter.unusedSectionVars false
/-! copy into a whole slice that is ours. -/
namespace Go.Dc
variable [DrawMode]
variable {P : Program} {E : Env} {N : Nat} {Γ : List (Nat × RP)} {Ω : List OB} {ty : TypeId} {α : Type} {ρ : Rep α} {bytes t e j : Nat} {x y : Operand} {hv : Value} {S : List Nat} {d : List α}

def cpA {α : Type} (d d' : List α) : List α := d'.take d.length ++ d.drop (min d'.length d.length)
theorem s_copyA {d' : List α} (hu : P.underlying t = some (.slice e)) (h : ElT P e ρ bytes) (hx : lkO Γ x = some (pv hv)) (hj : Ω[j]? = some (oa ρ hv S d)) (hy : lkO Γ y = some (slv ρ d')) :
    St P E N (.call ⟨.builtin .copy, #[x, y], #[t, t]⟩) ty Γ Ω [j] (fun _ : Unit => iv .i64 ((min d'.length d.length : Nat) : Int)) (fun _ => Ω.set j (oa ρ hv S (cpA d d'))) := by
  by_cases h0 : 0 < d.length
  · intro a w hs
    obtain ⟨ad, c, rfl, hdc, hob⟩ := hs.objAt hj
    have e1 : subV (.slice ad d.length c) ρ.size 0 d.length = .slice ad d.length c := by
      rw [subV_slice, if_neg (by omega)]
      congr 1
      cases ad with
      | none => rfl
      | some q => cases q; simp [Addr.add]
    have := s_copyS (P := P) (E := E) (N := N) (ty := ty) (l := 0) (m := d.length) (d' := d') h0 (Nat.le_refl _) hu h (by rw [e1]; exact hx) hj hy a w hs
    simpa [cpA] using this
  · have hd : d = [] := List.eq_nil_of_length_eq_zero (by omega)
    subst hd
    intro a w hs
    have hvx : a.eval x = hv := hs.op hx
    obtain ⟨ya, yc, hvy, hyc, hyat⟩ := hs.op hy
    obtain ⟨ad, c, rfl, hdc, hob⟩ := hs.objAt hj
    obtain ⟨i, hi, his, _⟩ := h.info
    have hfc : ∀ ya yc, (Builtin.firstCells i.size 0 (.slice ya d'.length yc)).run P w = .ok #[] w := fun ya yc => by
      have := run_fc (P := P) (size := i.size) (m := 0) (yc := yc) (ya := ya) (news := []) (w := w) (by simp) (.inl (by simp))
      cases ya <;> exact this
    have hr : (Builtin.copy_ #[t, t] ty #[.slice ad 0 c, .slice ya d'.length yc]).run P w = .ok (goInt 0) w := by
      simp only [Builtin.copy_]
      cases ad with
      | none => simp [run_underlying hu, Builtin.lenOf, sizeOf, typeInfo, hi, hfc]
      | some q => simp [run_underlying hu, Builtin.lenOf, sizeOf, typeInfo, hi, hfc, storeCells]
    have hdd : cpA ([] : List α) d' = [] := by simp [cpA]
    refine opwp_val (fun o ho ht => run_copy_call ho hvx hvy (by rw [ht]; exact hr)) ⟨(), ?_, ?_, Nat.le_refl _, fun _ _ _ => rfl, fun b hb hm => ?_⟩
    · rw [hdd, set_same hj]; exact hs
    · simp; rfl
    · rw [hdd, set_same hj] at hm; exact hm
end Go.Dc

set_option linter.unusedSectionVars false
set_option linter.unusedVariables false
/-! A range over a map that is ours: the order is drawn; what follows must not hang on it. -/
namespace Go.Dc
variable [DrawMode]
variable {P : Program} {E : Env} {N : Nat} {Γ : List (Nat × RP)} {Ω : List OB} {ty : TypeId} {α β : Type} [DecidableEq α] {κ : Rep α} {ν : Rep β}

def bornAt (es : List MapEntry) (i : Nat) : Nat := (es[i]?.map (·.born)).getD 0
/-- a map over which a loop ranges; ix: the places of the entries that were handed out -/
def omi {α β : Type} (κ : Rep α) (ν : Rep β) (b it : Nat) (d : List (α × β)) (ix : List Nat) : OB where
  S := [b, it]
  h := fun F w => b ≠ it ∧ ∃ es clock seen last, w.heap[b]? = some (.map es clock) ∧ Ents κ ν F w es.toList d ∧ (∀ e ∈ es.toList, e.born < clock) ∧ (es.toList.map (·.born)).Nodup ∧
    w.heap[it]? = some (.mapIter (some b) clock seen last) ∧ clock ≤ last ∧ (ix ≠ [] → last = clock) ∧ seen.toList = ix.map (bornAt es.toList) ∧ ix.Nodup ∧ ∀ i ∈ ix, i < d.length
  mono := by
    rintro F F' w w' ag hs ⟨hne, es, clock, seen, last, h1, h2, h3, h4, h5, h6⟩
    exact ⟨hne, es, clock, seen, last, by rw [hs b (by simp)]; exact h1, h2.mono ag, h3, h4, by rw [hs it (by simp)]; exact h5, h6⟩

/-- what a step hands out -/
def nxT (κ : Rep α) (ν : Rep β) : Option (Nat × α × β) → RP
  | none => tup [bv false]
  | some p => tup [bv true, sh κ p.2.1, sh ν p.2.2]
def ixn (ix : List Nat) : Option (Nat × α × β) → List Nat
  | none => ix
  | some p => ix ++ [p.1]
def NxOk (d : List (α × β)) (ix : List Nat) : Option (Nat × α × β) → Prop
  | none => ∀ i, i < d.length → i ∈ ix
  | some p => p.1 ∉ ix ∧ d[p.1]? = some p.2

section
variable {it b j : Nat} {d : List (α × β)} {ix : List Nat} {x : Operand}
end

/-! ### the loop -/
open Classical in
/-- what comes of a loop over the entries in any order: only where the order does not matter -/
noncomputable def rngM {γ σ R : Type} (d : List γ) (f : σ → γ → Option σ) (s0 : σ) (k : σ → Option R) : Option R :=
  if ∀ l : List γ, l.Perm d → (l.foldlM f s0).bind k = (d.foldlM f s0).bind k then (d.foldlM f s0).bind k else none
section
variable {σ X Y R γ : Type} {id : Nat} {Γl : σ → X → List (Nat × RP)} {Ωl : σ → X → List Nat → List OB} {Γb : σ → Y → List (Nat × RP)} {Ωb : σ → Y → List Nat → List OB} {k : σ → Option R} {K : KT R}
/-- where a round ends -/
def rngK (E : Env) (N : Nat) (id : Nat) (d : List γ) (f : σ → γ → Option σ) (Γl : σ → X → List (Nat × RP)) (Ωl : σ → X → List Nat → List OB) (Γb : σ → Y → List (Nat × RP)) (Ωb : σ → Y → List Nat → List OB) (ix : List Nat) (s : σ) : KT Unit :=
  fun _ e a w => (e = .exit id ∧ (∀ i, i < d.length → i ∈ ix) ∧ ∃ y, Sat E N (Γb s y) (Ωb s y ix) a w) ∨
    (e = .normal ∧ ∃ i p s', i ∉ ix ∧ d[i]? = some p ∧ f s p = some s' ∧ ∃ x', Sat E N (Γl s' x') (Ωl s' x' (ix ++ [i])) a w)

/-- the end of a round's own code -/
def rngG (E : Env) (N : Nat) (Γl : σ → X → List (Nat × RP)) (Ωl : σ → X → List Nat → List OB) (ix : List Nat) : KT σ := fun s' e a w => e = .normal ∧ ∃ x', Sat E N (Γl s' x') (Ωl s' x' ix) a w
end
end Go.Dc

/-! a new slice of ours out of data and a number (slices.Repeat) -/
namespace Go.Dc

variable [DrawMode] {P : Program} {f : FuncId} [PTab P]
def conW4 (t : Ty) (m : List t.den → Int → Option (List t.den)) : Con := ⟨[.sl t, .int .i64], [.sl t], fun a => m a.1 a.2, [(false, [.d 0 0]), (false, [.d 1 0])], [], [(false, [.own 0])], [.oa 0 (.d 0 0)], 0, 1⟩
theorem conW4_ok {t : Ty} {m : List t.den → Int → Option (List t.den)} (h : ∀ s n r, m s n = some r → FnOk P f [slv t.rep s, iv .i64 n] [] (fun x : Value × List Nat => [pv x.1]) (fun x => [oa t.rep x.1 x.2 r])) :
    ConOk P f (conW4 t m) := fun a r har hs => by
  refine (h a.1 a.2 r har).re fun x F w hx => ?_
  have h1 : x.1.oneCell' = true := oa_one (hx (oa t.rep x.1 x.2 r) (List.mem_singleton.2 rfl))
  refine ⟨⟨updHd hs 0 ⟨x.1, x.2, 0, h1⟩, fun i hi => ?_⟩, rfl, rfl⟩
  have : i < 0 := hi
  omega
end Go.Dc

set_option linter.unusedSectionVars false
set_option linter.unusedVariables false
/-! slices.Compact of ints as a contract of ours. -/
namespace Go.Dc
variable [DrawMode]
open Go.Proofs Go.RowKit Go.Sort Go.Shelf
variable {P : Program}

theorem slH_int {F : FP} {w : World} {cells : Array Value} {off : Nat} {d : List Int} {k : IntKind} : SlH (rI k) F w cells off d ↔ ∀ i (hi : i < d.length), cells[off + i]? = some (.int k d[i]) := by
  constructor
  · intro h i hi
    obtain ⟨es, h1, h2⟩ := h i hi
    have := h2 0 (by simp [rI, one])
    simp only [rI, one, Nat.mul_one, Nat.add_zero] at this h1
    match es, h1 with
    | [u], ⟨hu, _⟩ => rw [this]; simp; exact hu
  · intro h i hi
    refine ⟨[.int k d[i]], ⟨rfl, trivial⟩, fun j hj => ?_⟩
    have hj0 : j = 0 := by simp [rI, one] at hj; omega
    subst hj0
    simpa [rI, one] using h i hi

theorem cell_of_block {w : World} {b o : Nat} {cells : Array Value} {ty : TypeId} {fz : Nat × Nat} (h : w.heap[b]? = some (.cells cells ty fz)) : w.cell? ⟨b, o, none⟩ = cells[o]? := by
  simp [World.cell?, h]
theorem unfrozen_of_block {w : World} {b o : Nat} {cells : Array Value} {ty : TypeId} (h : w.heap[b]? = some (.cells cells ty (0, 0))) : w.frozen? ⟨b, o, none⟩ = false := by
  simp [World.frozen?, h]

def compactM (l : List Int) : Option (List Int) := if l.length ≤ 1000000000000 then some (Lib.compact l) else none

theorem compact_len (zs : List Int) : (Lib.compact zs).length ≤ zs.length := by
  unfold Lib.compact Lib.compactUpTo
  rw [List.length_map]
  exact Nat.le_trans (List.length_filter_le _ _) (by simp)

theorem compact_fn {fS : Nat}
    (hC : ∀ (w : World) (blk off cap : Nat) (zs : List Int), Holds (Value.int .i64) w blk off zs.toArray → zs.length ≤ 9223372036854775807 → zs.length ≤ cap →
      Calls P fS #[.slice (some ⟨blk, off, none⟩) zs.length cap] w fun e w' => e = .returned (.slice (some ⟨blk, off, none⟩) (Lib.compact zs).length cap) ∧ ∃ q, w' = putRow (Value.int .i64) (Sort.ahead w q) blk off (Lib.compact zs ++ List.replicate (zs.length - (Lib.compact zs).length) 0).toArray)
    (hE : ∀ (a : Option Addr) (cap : Nat) (w : World), Calls P fS #[.slice a 0 cap] w fun e w' => e = .returned (.slice a 0 cap) ∧ w' = w)
    (hlen : ∀ zs : List Int, (Lib.compact zs).length ≤ zs.length)
    {l r : List Int} (hm : compactM l = some r) {h : Value × List Nat} :
    FnOk P fS [pv h.1] [oa (rI .i64) h.1 h.2 l] (fun x : Value × List Nat => [pv x.1]) (fun x : Value × List Nat => [oa (rI .i64) x.1 x.2 r]) := by
  intro F w vs hF hmf hbd hnd hob hargs htb
  unfold compactM at hm
  have hl : l.length ≤ 1000000000000 := Classical.byContradiction fun hx => by rw [if_neg hx] at hm; cases hm
  rw [if_pos hl] at hm
  cases hm
  match vs, hargs with
  | [v0], ⟨hv0, _⟩ =>
    have hv0' : v0 = h.1 := hv0
    subst hv0'
    obtain ⟨hv, S⟩ := h
    obtain ⟨a, c, e1, hc, hat⟩ := hob (oa (rI .i64) hv S l) (by simp)
    simp only at e1 hat ⊢
    subst e1
    rcases hat with ⟨rfl, rfl, rfl⟩ | ⟨b, off, cells, ty, rfl, rfl, hb, hsz, hH⟩
    · have : l = [] := List.eq_nil_of_length_eq_zero (by omega)
      subst this
      refine Calls.mono (hE none 0 w) ?_
      rintro e' w' ⟨rfl, rfl⟩
      refine ⟨(.slice none 0 0, []), _, rfl, .refl _ _, by simp [ow, oa], by simp [ow, oa], fun o ho => ?_, rfl⟩
      rw [List.mem_singleton.1 ho]
      exact ⟨none, 0, rfl, by simp [Lib.compact, Lib.compactUpTo], .inl ⟨rfl, rfl, rfl⟩⟩
    · have hI := slH_int.1 hH
      have hsz' : off + c ≤ cells.size := by simpa [rI, one] using hsz
      have hHo : Holds (Value.int .i64) w b off l.toArray := fun j hj => by
        have hj' : j < l.length := by simpa using hj
        refine ⟨?_, unfrozen_of_block hb⟩
        rw [cell_of_block hb, hI j hj']
        simp [getElem!_pos, hj']
      refine Calls.mono (hC w b off c l hHo (by omega) hc) ?_
      rintro e' w' ⟨rfl, q, rfl⟩
      have hbl := size_of_get hb
      have hheap : ∀ k, (putRow (Value.int .i64) (Sort.ahead w q) b off (Lib.compact l ++ List.replicate (l.length - (Lib.compact l).length) 0).toArray).heap[k]? = if k = b then some (.cells (putCells (Value.int .i64) off (Lib.compact l ++ List.replicate (l.length - (Lib.compact l).length) 0).toArray cells) ty (0, 0)) else w.heap[k]? := fun k => by
        unfold putRow mapBlock Sort.ahead
        simp only [Array.getElem?_modify]
        by_cases e : b = k
        · subst e; rw [if_pos rfl, if_pos rfl, hb]; rfl
        · rw [if_neg e, if_neg (fun h => e h.symm)]
      have hcl := hlen l
      refine ⟨(.slice (some ⟨b, off, none⟩) (Lib.compact l).length c, [b]), _, rfl, ⟨rfl, rfl, rfl, by simp [putRow, mapBlock, Sort.ahead], by simp [putRow, mapBlock, Sort.ahead], fun k hk hk' => ?_⟩, fun k hk' => ?_, by simp [ow, oa], fun o ho => ?_, rfl⟩
      · rw [hheap, if_neg (fun e => hk' (by simp [ow, oa, e]))]
      · have : k = b := by simpa [ow, oa] using hk'
        subst this
        exact ⟨by simp [putRow, mapBlock, Sort.ahead]; exact hbl, .inr (by simp [ow, oa])⟩
      · rw [List.mem_singleton.1 ho]
        refine ⟨_, c, rfl, by omega, .inr ⟨b, off, _, ty, rfl, rfl, by rw [hheap, if_pos rfl], ?_, slH_int.2 fun i hi => ?_⟩⟩
        · simp only [putCells, Array.size_mapIdx]; exact hsz
        · have hi2 : off + i < cells.size := by omega
          simp only [putCells, Array.getElem?_mapIdx, Array.getElem?_eq_getElem hi2, Option.map_some]
          rw [if_pos (by simp; omega)]
          have : off + i - off = i := by omega
          rw [this]
          have hi3 : i < (Lib.compact l ++ List.replicate (l.length - (Lib.compact l).length) (0 : Int)).length := by simp; omega
          rw [getElem!_pos _ _ (by simpa using hi3)]
          simp [List.getElem_append_left hi]
end Go.Dc
