/- Part Dc.Cpt of a proof: lemmas. -/
import Derived.Test.YtccalnbiapifcaaDoorMEv2
import Derived.Test.YtccalnbiapifcaaDoorMOps2
import Derived.Shelf.SlSortCmp.InsertionK
import Derived.Shelf.SlSortCmp.Kit1
import Derived.Test.YtccalnbiapifcaaDoorDcEqS
import Derived.Shelf.Slices.CompactI
set_option linter.unusedSectionVars false
set_option linter.unusedVariables false
/-! Functions: from code that is carried out to a contract. -/
namespace Go.Dc
variable [DrawMode] {P : Program} [PTab P] {R : Type} {E : Env} {N : Nat}

/-! ### results -/
def resVal (P : Program) (st : MSt) : ResultVar → Option Sh
  | .tmp t => lkG st.G t
  | .cell a t => match lkG st.G a with
    | some (.vl false [.ptr o h off]) => (varC st.n st.O o h).bind fun l => (aggT P t).bind fun g => bif g
        then (sizeT P t).bind fun k => bif Nat.beq ((l.drop off).take k).length k then some (.vl true ((l.drop off).take k)) else none
        else (l[off]?).map fun a => .vl false [a]
    | _ => none
theorem resVal_ok {st : MSt} {η : Nat → Hd} {rv : ResultVar} {s : Sh} (h : resVal P st rv = some s) : RvOk P E N (gma (st.cx' η) st.G) (oma (st.cx' η) st.O) rv (s.rp (st.cx' η)) := by
  cases rv with
  | tmp t => exact rv_tmp (by rw [lk_gma, show lkG st.G t = some s from h]; rfl)
  | cell a t =>
    simp only [resVal] at h
    split at h
    · rename_i o k off hl
      obtain ⟨l, h1, h⟩ := Option.bind_eq_some_iff.1 h
      obtain ⟨g, h2, h⟩ := Option.bind_eq_some_iff.1 h
      obtain ⟨hb, hlt, hj⟩ := varC_ok (env := st.env) h1
      have hlk : lk (gma (st.cx' η) st.G) a = some (pv (ptr (η k).b off)) := by
        rw [lk_gma, hl]
        show some ((At.ptr o k off).rp (st.cx' η)) = _
        rw [ptr_rp (c := st.cx' η) hb]
      cases g with
      | true =>
        obtain ⟨m, h3, h⟩ := Option.bind_eq_some_iff.1 h
        cases hk : Nat.beq ((l.drop off).take m).length m with
        | false => rw [hk] at h; cases h
        | true =>
          rw [hk] at h; cases h
          have := rv_cell (E := E) (N := N) hlk (hj η) (aggT_ok h2) (sizeT_ok h3) rfl (by simpa using hk)
          rw [← List.map_drop, ← List.map_take] at this
          exact this
      | false =>
        obtain ⟨x, h3, rfl⟩ := Option.map_eq_some_iff.1 h
        exact rv_cell1 (E := E) (N := N) hlk (hj η) (aggT_ok h2) (by rw [List.getElem?_map, h3]; rfl)
    · cases h
def resVals (P : Program) (st : MSt) : List ResultVar → Option (List Sh)
  | [] => some []
  | r :: rs => (resVal P st r).bind fun s => (resVals P st rs).map (s :: ·)

theorem resH_imp {F : FP} {w : World} {φs ψs : List RP} {v : Value} (hi : ImpAll φs ψs) (h : resH F w φs v) : resH F w ψs v := by
  match φs, ψs, hi, h with
  | [], [], _, h => exact h
  | [φ], [ψ], ⟨h1, _⟩, h => exact h1 h
  | _ :: _ :: _, _ :: _ :: _, hi, ⟨vs, e, h⟩ => exact ⟨vs, e, hi.all h⟩

theorem resVals_ok {st : MSt} {η : Nat → Hd} {fn : Func} {ss : List Sh} (h : resVals P st fn.results.toList = some ss) (hl : fn.results.toList.length ≤ 3) {a : Act} {w : World}
    (hs : Sat E N (gma (st.cx' η) st.G) (oma (st.cx' η) st.O) a w) : ∃ v, (results fn a.tmps).run P w = .ok v w ∧ resH (fr E (oma (st.cx' η) st.O)) w (ss.map (Sh.rp (st.cx' η))) v := by
  generalize hr : fn.results.toList = l at h hl
  have hr' : fn.results = l.toArray := by rw [← hr]
  match l, h, hl with
  | [], h, _ => cases h; exact ⟨_, results0 hr' _ _, ⟨#[], rfl, trivial⟩⟩
  | [x], h, _ =>
    simp only [resVals] at h
    obtain ⟨s, h1, h2⟩ := Option.bind_eq_some_iff.1 h
    cases h2
    obtain ⟨v, h3, h4⟩ := resVal_ok (E := E) (N := N) (η := η) h1 a w hs
    exact ⟨v, results1 hr' h3, h4⟩
  | [x, y], h, _ =>
    simp only [resVals] at h
    obtain ⟨s, h1, h2⟩ := Option.bind_eq_some_iff.1 h
    obtain ⟨ss2, g2, rfl⟩ := Option.map_eq_some_iff.1 h2
    obtain ⟨s2, h5, h6⟩ := Option.bind_eq_some_iff.1 g2
    cases h6
    obtain ⟨v, h3, h4⟩ := resVal_ok (E := E) (N := N) (η := η) h1 a w hs
    obtain ⟨u, h7, h8⟩ := resVal_ok (E := E) (N := N) (η := η) h5 a w hs
    exact ⟨_, results2 hr' h3 h7, ⟨_, rfl, h4, h8, trivial⟩⟩
  | [x, y, z], h, _ =>
    simp only [resVals] at h
    obtain ⟨s, h1, h2⟩ := Option.bind_eq_some_iff.1 h
    obtain ⟨ss2, g2, rfl⟩ := Option.map_eq_some_iff.1 h2
    obtain ⟨s2, h5, h6⟩ := Option.bind_eq_some_iff.1 g2
    obtain ⟨ss3, g6, rfl⟩ := Option.map_eq_some_iff.1 h6
    obtain ⟨s3, h9, h10⟩ := Option.bind_eq_some_iff.1 g6
    cases h10
    obtain ⟨v, h3, h4⟩ := resVal_ok (E := E) (N := N) (η := η) h1 a w hs
    obtain ⟨u, h7, h8⟩ := resVal_ok (E := E) (N := N) (η := η) h5 a w hs
    obtain ⟨t, h11, h12⟩ := resVal_ok (E := E) (N := N) (η := η) h9 a w hs
    exact ⟨_, results3 hr' h3 h7 h11, ⟨_, rfl, h4, h8, h12, trivial⟩⟩
  | _ :: _ :: _ :: _ :: _, _, hl => simp at hl

/-! ### the beginning -/
def enumS : Nat → List (Bool × List KA) → List (Nat × (Bool × List KA))
  | _, [] => []
  | n, v :: r => (n, v) :: enumS (n + 1) r
def Con.pat0 (C : Con) : Pat := ⟨C.ins, enumS 0 C.ps, C.os, [], 0, C.nh⟩
theorem enumS_Γ {L : Nat → Nat → Option Dyn} {hs : Nat → Hd} : ∀ {l : List (Bool × List KA)} {n : Nat}, (enumS n l).map (fun x => (x.1, kvrp cx0 L hs x.2)) = enumΓ n (l.map (kvrp cx0 L hs))
  | [], _ => rfl
  | v :: r, n => by simp only [enumS, List.map_cons, enumΓ, enumS_Γ]

/-! ### the end -/
/-- the objects at the end: what they hold is matched -/
def endO (P : Program) [PTab P] (ts : List Ty) (st0 : MSt) (n : Nat) (env : List (Nat × Ent)) (O : List MO) : Nat → Mt → List KO → Option Mt
  | _, M, [] => some M
  | i, M, .dead :: os => endO P ts st0 n env O (i + 1) M os
  | i, M, .same :: os => match st0.O[i]?, O[i]? with
    | some a, some b => bif moEq a b && a.clo st0.n st0.env then endO P ts st0 n env O (i + 1) M os else none
    | _, _ => none
  | i, M, o :: os => (mtO P ts 0 [] n env O M o).bind fun M => endO P ts st0 n env O (i + 1) M os
/-- where they stand -/
def endP (M : Mt) : Nat → List KO → Option (List Nat)
  | _, [] => some []
  | i, .dead :: os => endP M (i + 1) os
  | i, .same :: os => (endP M (i + 1) os).map (i :: ·)
  | i, o :: os => (o.key.bind (lkM M.om)).bind fun x => (endP M (i + 1) os).map (x.1 :: ·)
def fixF (C : Con) (n0 : Nat) : Nat → Nat → List (Nat × (Nat × Nat))
  | _, 0 => []
  | k, m + 1 => (k, (k, n0 + k)) :: fixF C n0 (k + 1) m
theorem fixF_get {C : Con} {n0 : Nat} : ∀ {m k : Nat} {i : Nat}, k ≤ i → i < k + m → lkM (fixF C n0 k m) i = some (i, n0 + i)
  | 0, k, i, h1, h2 => by omega
  | m + 1, k, i, h1, h2 => by
    simp only [fixF, lkM]
    by_cases e : k = i
    · subst e; simp
    · rw [beq_ne e]; exact fixF_get (by omega) (by omega)

/-- what a function returns at state st, which began at st0 -/
def Con.ret (P : Program) [PTab P] (C : Con) (fn : Func) (fin : List Conv) (st0 : MSt) (st : MSt) : Option (Tup C.outs) :=
  (convs fin st).bind fun st => (resVals P st fn.results.toList).bind fun ss => (mtVs P C.outs false 0 [] st.n st.env ⟨[], fixF C C.pat0.wl.length 0 C.nh⟩ C.rs ss).bind fun M0 =>
    (endO P C.outs st0 st.n st.env st.O 0 M0 C.os').bind fun M => (endP M 0 C.os').bind fun is => bif nodupN is then M.tup P C.outs else none

theorem drop_step {α : Type} {l : List α} {i : Nat} : (∃ x, l.drop i = x :: l.drop (i + 1)) ∨ (l.drop i = [] ∧ l.drop (i + 1) = []) := by
  by_cases h : i < l.length
  · exact .inl ⟨l[i], List.drop_eq_getElem_cons h⟩
  · exact .inr ⟨List.drop_eq_nil_of_le (by omega), List.drop_eq_nil_of_le (by omega)⟩

theorem endO_ok {ts : List Ty} {st0 st : MSt} {Li : Nat → Nat → Option Dyn} {hs0 η0 η : Nat → Hd} {os : List KO} (h0 : oma (st0.cx' η0) st0.O = os.map (KO.ob cx0 Li hs0)) (hx : Ext (st0.cx' η0) (st.cx' η)) :
    ∀ {os' : List KO} {i : Nat} {M M' : Mt}, endO P ts st0 st.n st.env st.O i M os' = some M' → Mt.Le M M' ∧ ∀ {is : List Nat}, endP M' i os' = some is → ∀ {L : Nat → Nat → Option Dyn} {hs : Nat → Hd}, MtSay L hs η M' →
      (∀ (k p : Nat) (o : OB), is[k]? = some p → (keepB (kmask os') (kafter Li L hs0 hs (os.drop i) os'))[k]? = some o → (oma (st.cx' η) st.O)[p]? = some o) ∧ is.length = (keepB (kmask os') (kafter Li L hs0 hs (os.drop i) os')).length
  | [], i, M, M', h => by cases h; exact ⟨.refl _, fun hp => by cases hp; exact fun _ => ⟨fun k p o h => by simp at h, by cases (os.drop i) <;> rfl⟩⟩
  | .dead :: os', i, M, M', h => by
    obtain ⟨h1, h2⟩ := endO_ok h0 hx (os' := os') (i := i + 1) h
    refine ⟨h1, fun {is} hp {L hs} hsay => ?_⟩
    have h3 := h2 (is := is) hp hsay
    have e : keepB (kmask (.dead :: os')) (kafter Li L hs0 hs (os.drop i) (.dead :: os')) = keepB (kmask os') (kafter Li L hs0 hs (os.drop (i + 1)) os') := by
      rcases drop_step (l := os) (i := i) with ⟨x, hd⟩ | ⟨hd, hd'⟩
      · rw [hd]; rfl
      · rw [hd, hd']; rfl
    rw [e]; exact h3
  | .same :: os', i, M, M', h => by
    simp only [endO] at h
    split at h
    · rename_i a b ha hb
      cases hm : moEq a b && a.clo st0.n st0.env with
      | false => rw [hm] at h; cases h
      | true =>
        rw [hm] at h
        simp only [Bool.and_eq_true] at hm
        obtain ⟨hm, hclo⟩ := hm
        obtain rfl := moEq_ok hm
        obtain ⟨h1, h2⟩ := endO_ok h0 hx (os' := os') (i := i + 1) h
        refine ⟨h1, fun {is} hp {L hs} hsay => ?_⟩
        simp only [endP] at hp
        obtain ⟨is', hp', rfl⟩ := Option.map_eq_some_iff.1 hp
        obtain ⟨h3, h4⟩ := h2 (is := is') hp' hsay
        have hat : (oma (st0.cx' η0) st0.O)[i]? = some (a.ob (st0.cx' η0)) := by simp [oma, ha]
        obtain ⟨k0, hk0, hk1⟩ : ∃ k, os[i]? = some k ∧ k.ob cx0 Li hs0 = a.ob (st0.cx' η0) := by
          rw [h0, List.getElem?_map] at hat
          obtain ⟨k, hk, e⟩ := Option.map_eq_some_iff.1 hat
          exact ⟨k, hk, e⟩
        have hd : os.drop i = k0 :: os.drop (i + 1) := by
          have hlt := (List.getElem?_eq_some_iff.1 hk0).1
          rw [List.drop_eq_getElem_cons hlt, (List.getElem?_eq_some_iff.1 hk0).2]
        have e : keepB (kmask (.same :: os')) (kafter Li L hs0 hs (os.drop i) (.same :: os')) = k0.ob cx0 Li hs0 :: keepB (kmask os') (kafter Li L hs0 hs (os.drop (i + 1)) os') := by rw [hd]; rfl
        rw [e]
        refine ⟨fun k p o hk ho => ?_, by simp [h4]⟩
        cases k with
        | zero =>
          simp only [List.getElem?_cons_zero, Option.some.injEq] at hk ho
          subst hk; subst ho
          rw [hk1, ← MO.clo_ok hx hclo]
          simp [oma, hb]
        | succ k => exact h3 k p o (by simpa using hk) (by simpa using ho)
    · cases h
  | .oa x y :: os', i, M, M', h => by
    have h : (mtO P ts 0 [] st.n st.env st.O M (.oa x y)).bind (fun M => endO P ts st0 st.n st.env st.O (i + 1) M os') = some M' := h
    obtain ⟨M1, h1, h2⟩ := Option.bind_eq_some_iff.1 h
    obtain ⟨h3, k, p, z, hk, hm, hlt, hb, hat⟩ := mtO_ok (c0 := cx0) h1
    obtain ⟨h5, h6⟩ := endO_ok h0 hx h2
    refine ⟨h3.trans h5, fun {is} hp {L hs} hsay => ?_⟩
    have hp : ((KO.oa x y).key.bind (lkM M'.om)).bind (fun x => (endP M' (i + 1) os').map (x.1 :: ·)) = some is := hp
    simp only [hk, Option.bind_some, h5.o _ _ (h3.o _ _ hm)] at hp
    obtain ⟨is', hp', rfl⟩ := Option.map_eq_some_iff.1 hp
    obtain ⟨h7, h8⟩ := h6 (is := is') hp' hsay
    have e : keepB (kmask (.oa x y :: os')) (kafter Li L hs0 hs (os.drop i) (.oa x y :: os')) = (KO.oa x y).ob cx0 L hs :: keepB (kmask os') (kafter Li L hs0 hs (os.drop (i + 1)) os') := by
      rcases drop_step (l := os) (i := i) with ⟨x, hd⟩ | ⟨hd, hd'⟩
      · rw [hd]; rfl
      · rw [hd, hd']; rfl
    rw [e]
    refine ⟨fun k p o hk ho => ?_, by simp [h8]⟩
    cases k with
    | zero =>
      simp only [List.getElem?_cons_zero, Option.some.injEq] at hk ho
      subst hk; subst ho
      exact hat (cx0_ext _) (hsay.le h5)
    | succ k => exact h7 k p o (by simpa using hk) (by simpa using ho)
  | .oc x y :: os', i, M, M', h => by
    have h : (mtO P ts 0 [] st.n st.env st.O M (.oc x y)).bind (fun M => endO P ts st0 st.n st.env st.O (i + 1) M os') = some M' := h
    obtain ⟨M1, h1, h2⟩ := Option.bind_eq_some_iff.1 h
    obtain ⟨h3, k, p, z, hk, hm, hlt, hb, hat⟩ := mtO_ok (c0 := cx0) h1
    obtain ⟨h5, h6⟩ := endO_ok h0 hx h2
    refine ⟨h3.trans h5, fun {is} hp {L hs} hsay => ?_⟩
    have hp : ((KO.oc x y).key.bind (lkM M'.om)).bind (fun x => (endP M' (i + 1) os').map (x.1 :: ·)) = some is := hp
    simp only [hk, Option.bind_some, h5.o _ _ (h3.o _ _ hm)] at hp
    obtain ⟨is', hp', rfl⟩ := Option.map_eq_some_iff.1 hp
    obtain ⟨h7, h8⟩ := h6 (is := is') hp' hsay
    have e : keepB (kmask (.oc x y :: os')) (kafter Li L hs0 hs (os.drop i) (.oc x y :: os')) = (KO.oc x y).ob cx0 L hs :: keepB (kmask os') (kafter Li L hs0 hs (os.drop (i + 1)) os') := by
      rcases drop_step (l := os) (i := i) with ⟨x, hd⟩ | ⟨hd, hd'⟩
      · rw [hd]; rfl
      · rw [hd, hd']; rfl
    rw [e]
    refine ⟨fun k p o hk ho => ?_, by simp [h8]⟩
    cases k with
    | zero =>
      simp only [List.getElem?_cons_zero, Option.some.injEq] at hk ho
      subst hk; subst ho
      exact hat (cx0_ext _) (hsay.le h5)
    | succ k => exact h7 k p o (by simpa using hk) (by simpa using ho)

theorem nodupN_live {len : Nat} : ∀ {l : List Nat}, nodupN l = true → nodupN (livePos len l) = true
  | [], _ => rfl
  | i :: l, h => by
    simp only [nodupN, Bool.and_eq_true, Bool.not_eq_true'] at h
    have ih := nodupN_live (len := len) h.2
    unfold livePos at ih ⊢
    rw [List.filter_cons]
    split
    · simp only [nodupN, Bool.and_eq_true, Bool.not_eq_true']
      refine ⟨?_, ih⟩
      cases hh : hasN (l.filter fun i => !Nat.beq i len) i with
      | false => rfl
      | true =>
        have := hasN_iff.2 (List.mem_filter.1 (hasN_iff.1 hh)).1
        rw [this] at h; cases h.1
    · exact ih

/-- a function's model by its code -/
noncomputable def Con.run (P : Program) [PTab P] (C : Con) (fn : Func) (T : FuncId → List Con) (H : Hints) (fin : List Conv) (a : Tup C.ins) : Option (Tup C.outs) :=
  (C.pat0.inst P 0 [] a).bind fun st0 => match fn.body with
    | some c => ev P T H fn.ntmps (C.ret P fn fin st0) c (some id) st0 (C.ret P fn fin st0) (fun _ _ => none)
    | none => none

theorem conFn_of {f : FuncId} {fn : Func} {C : Con} {T : FuncId → List Con} {H : Hints} {fin : List Conv} (hf : P.funcs[f]? = some fn) (hc : ∀ args w, (callFunc f args).run P w = .ok (.enter f args) w) (hT : TabOk P T)
    (hN : Nat.ble C.ps.length fn.ntmps = true) (hr : Nat.ble fn.results.toList.length 3 = true) (hnh : Nat.beq C.nh C.os.length = true) (hm : ∀ a, C.run P fn T H fin a = C.m a) : ConFn P f C := by
  refine ⟨hc, fun a r har hs => ?_⟩
  rw [← hm a] at har
  unfold Con.run at har
  obtain ⟨st0, h0, har⟩ := Option.bind_eq_some_iff.1 har
  split at har
  · rename_i c hb
    have hw0 : WF cx0.n cx0.env := ⟨fun i e h => (by cases h), fun i e h => (by cases h)⟩
    obtain ⟨η0, e1, e2, hw1, hx1, hη⟩ := Pat.inst_okH (c0 := cx0) hw0 h0 (hs := hs) (fun k o h hk => by cases hk)
    have e1' : gma (st0.cx' η0) st0.G = enumΓ 0 (C.args (P := P) a hs) := e1.trans enumS_Γ
    have e2' : oma (st0.cx' η0) st0.O = C.Ω0 (P := P) a hs := e2
    refine fn_ok (X := Agr C.nh hs) (res := fun r x => C.res (P := P) r x.1) (Ω1 := fun r x => C.Ω1 (P := P) a r hs x.1) hf hb rfl har (by simpa [Con.args] using hN) fun E hE => ?_
    rw [← e1', ← e2']
    have fin' : ∀ e, e = .ret ∨ e = .normal → KOk E fn.ntmps e st0 η0 (C.ret P fn fin st0) (fnK P fn E fn.ntmps (fun r x => C.res (P := P) r x.1) (fun r (x : Agr C.nh hs) => C.Ω1 (P := P) a r hs x.1)) := by
      intro e he st η hw hx
      refine conv_go hw fun st1 η1 hw1 hx1' => ?_
      have hx2 := hx.trans hx1'
      refine pull fun ss hss => pull fun M0 hM0 => pull fun M hM => pull fun is his => ?_
      cases hnd : nodupN is with
      | false => exact pnone
      | true =>
        simp only [cond_true]
        intro r' hr'
        obtain ⟨m1, m2⟩ := mtVs_ok (c0 := cx0) hM0
        obtain ⟨m3, m4⟩ := endO_ok (os := C.os) (hs0 := hs) (Li := leaf P C.ins a) e2' hx2 hM
        have hsay := M.say hr' η1
        obtain ⟨m5, m6⟩ := m4 his hsay
        have hagr : ∀ k, k < C.nh → M.hs η1 k = hs k := fun k hk => by
          have h7 : lkM M.om k = some (k, C.pat0.wl.length + k) := m3.o _ _ (m1.o _ _ (fixF_get (C := C) (n0 := C.pat0.wl.length) (Nat.zero_le k) (by omega)))
          obtain ⟨h8, h9⟩ := hη k (by show k < C.nh - 0; omega)
          have h10 : (0 : Nat) + C.pat0.wl.length + k = C.pat0.wl.length + k := by omega
          simp only [Mt.hs, h7]
          have h11 := hx2.η (C.pat0.wl.length + k) (by have h12 : cx0.n + C.pat0.wl.length + k < st0.n := h9; have h13 : cx0.n = 0 := rfl; show C.pat0.wl.length + k < st0.n; omega)
          rw [show η1 (C.pat0.wl.length + k) = η0 (C.pat0.wl.length + k) from h11]
          have h14 : η0 (cx0.n + C.pat0.wl.length + k) = hs (0 + k) := h8
          rw [show cx0.n + C.pat0.wl.length + k = C.pat0.wl.length + k from by show 0 + C.pat0.wl.length + k = _; omega, Nat.zero_add] at h14
          exact h14
        refine finN he ⟨M.hs η1, hagr⟩ is (φs := C.res (P := P) r' (M.hs η1)) ?_ rfl (fun a' w' hsat => ?_) r' rfl
        · refine picks_of (len := st1.O.length) m6 (nodupN_live hnd) fun i p o hp ho => ⟨m5 i p o hp ho, fun hp' => ?_⟩
          have h7 := (List.getElem?_eq_some_iff.1 (m5 i p o hp ho)).1
          simp [oma] at h7; omega
        · obtain ⟨v, h3, h4⟩ := resVals_ok hss (Nat.le_of_ble_eq_true hr) hsat
          exact ⟨v, h3, resH_imp (m2 (cx0_ext _) (hsay.le m3)).1 h4⟩
    refine (ev_ok (E := E) (N := fn.ntmps) hT (H := H) (ret := C.ret P fn fin st0) c).1 _ (some id) st0 η0 _ _ _ hw1 (fin' _ (.inr rfl)) (fun i st η hw hx => pnone) (fun f' hf' => ?_)
    cases hf'
    have := fin' .ret (.inl rfl)
    intro st η hw hx
    have h5 := this st η hw hx
    simpa using h5
  · cases har
end Go.Dc

set_option linter.unusedSectionVars false
/-! Tables of contracts. -/
namespace Go.Dc
variable [DrawMode] {P : Program} [PTab P]
def tabL (l : List (FuncId × Con)) : FuncId → List Con := fun f => l.filterMap fun x => bif Nat.beq x.1 f then some x.2 else none
def AllC (P : Program) [PTab P] : List (FuncId × Con) → Prop
  | [] => True
  | x :: r => ConFn P x.1 x.2 ∧ AllC P r
theorem AllC.at : ∀ {l : List (FuncId × Con)}, AllC P l → ∀ x ∈ l, ConFn P x.1 x.2
  | [], _, x, h => by cases h
  | y :: r, ⟨h1, h2⟩, x, h => by
    rcases List.mem_cons.1 h with e | e
    · subst e; exact h1
    · exact AllC.at h2 x e
theorem tabL_ok {l : List (FuncId × Con)} (h : AllC P l) : TabOk P (tabL l) := fun f C hC => by
  obtain ⟨x, hx, e⟩ := List.mem_filterMap.1 hC
  cases hb : Nat.beq x.1 f with
  | false => rw [hb] at e; cases e
  | true =>
    rw [hb] at e; cases e
    obtain rfl := Nat.eq_of_beq_eq_true hb
    exact h.at x hx

def lkC : List (Nat × Nat) → Nat → Option Nat
  | [], _ => none
  | (t, n) :: r, i => bif Nat.beq t i then some n else lkC r i
def Dyn.as [SDen] (D : Dyn) (t : Ty) : Option t.den := if h : D.t = t then some (h ▸ D.d) else none
theorem Dyn.as_ok [SDen] {D : Dyn} {t : Ty} {x : t.den} (h : D.as t = some x) : D = ⟨t, x⟩ := by
  unfold Dyn.as at h
  split at h
  · rename_i e
    obtain ⟨u, d⟩ := D
    simp only at e
    subst e
    cases h; rfl
  · cases h
theorem all_at [SDen] {l : List Dyn} (h : l.all (fun D => D.t.one) = true) {D : Dyn} (hD : D ∈ l) : D.t.one = true := List.all_eq_true.1 h D hD
end Go.Dc

set_option linter.unusedSectionVars false
/-! Contracts of library functions, which are proved by other means. -/
namespace Go.Dc
variable [DrawMode] {P : Program} {f : FuncId}

theorem FnOk.re {X Y : Type} {args : List RP} {Ω0 : List OB} {res : X → List RP} {Ω1 : X → List OB} {res' : Y → List RP} {Ω1' : Y → List OB} (h : FnOk P f args Ω0 res Ω1)
    (k : ∀ x F w, (∀ o ∈ Ω1 x, o.h F w) → ∃ y, res' y = res x ∧ Ω1' y = Ω1 x) : FnOk P f args Ω0 res' Ω1' := by
  intro F w vs h1 h2 h3 h4 h5 h6 h7
  refine (h F w vs h1 h2 h3 h4 h5 h6 h7).mono ?_
  rintro e w' ⟨x, v, e1, e2, e3, e4, e5, e6⟩
  obtain ⟨y, y1, y2⟩ := k x _ _ e5
  exact ⟨y, v, e1, e2, by rw [y2]; exact e3, by rw [y2]; exact e4, by rw [y2]; exact e5, by rw [y1, y2]; exact e6⟩

def updHd (η : Nat → Hd) (k : Nat) (d : Hd) : Nat → Hd := fun i => bif Nat.beq i k then d else η i

variable [PTab P]
/-- a slice of ours is used up, the result is another -/
def conW1 (t : Ty) (m : List t.den → Option (List t.den)) : Con := ⟨[.sl t], [.sl t], m, [(false, [.own 0])], [.oa 0 (.d 0 0)], [(false, [.own 1])], [.dead, .oa 1 (.d 0 0)], 1, 2⟩
theorem conW1_ok {t : Ty} {m : List t.den → Option (List t.den)} (h : ∀ s r, m s = some r → ∀ h0 : Value × List Nat, FnOk P f [pv h0.1] [oa t.rep h0.1 h0.2 s] (fun x : Value × List Nat => [pv x.1]) (fun x => [oa t.rep x.1 x.2 r])) :
    ConOk P f (conW1 t m) := fun a r har hs => by
  refine (h a r har ((hs 0).hv, (hs 0).S)).re fun x F w hx => ?_
  have h1 : x.1.oneCell' = true := oa_one (hx (oa t.rep x.1 x.2 r) (List.mem_singleton.2 rfl))
  refine ⟨⟨updHd hs 1 ⟨x.1, x.2, 0, h1⟩, fun i hi => ?_⟩, rfl, rfl⟩
  have : i = 0 := by have : i < 1 := hi
                     omega
  subst this
  rfl
/-- a slice of ours is changed in place -/
def conW2 (t : Ty) (m : List t.den → Option (List t.den)) (ps : List (Bool × List KA)) : Con := ⟨[.sl t], [.sl t], m, (false, [.own 0]) :: ps, [.oa 0 (.d 0 0)], [], [.oa 0 (.d 0 0)], 1, 1⟩
theorem conW2F_ok {t : Ty} {m : List t.den → Option (List t.den)} {g : Nat} (h : ∀ s r, m s = some r → ∀ h0 : Value × List Nat, FnOk P f [pv h0.1, pv (.func (.func g) #[] #[])] [oa t.rep h0.1 h0.2 s] (fun _ : Unit => []) (fun _ => [oa t.rep h0.1 h0.2 r])) :
    ConOk P f (conW2 t m [(false, [.fn g []])]) := fun a r har hs => by
  refine (h a r har ((hs 0).hv, (hs 0).S)).re fun x F w _ => ?_
  exact ⟨⟨hs, fun _ _ => rfl⟩, rfl, rfl⟩
/-- a copy that is ours -/
def conW3 (t : Ty) (m : List t.den → Option (List t.den)) : Con := ⟨[.sl t], [.sl t], m, [(false, [.d 0 0])], [], [(false, [.own 0])], [.oa 0 (.d 0 0)], 0, 1⟩
theorem conW3_ok {t : Ty} {m : List t.den → Option (List t.den)} (h : ∀ s r, m s = some r → FnOk P f [slv t.rep s] [] (fun x : Value × List Nat => [pv x.1]) (fun x => [oa t.rep x.1 x.2 r])) :
    ConOk P f (conW3 t m) := fun a r har hs => by
  refine (h a r har).re fun x F w hx => ?_
  have h1 : x.1.oneCell' = true := oa_one (hx (oa t.rep x.1 x.2 r) (List.mem_singleton.2 rfl))
  refine ⟨⟨updHd hs 0 ⟨x.1, x.2, 0, h1⟩, fun i hi => ?_⟩, rfl, rfl⟩
  have : i < 0 := hi
  omega
end Go.Dc

set_option linter.unusedSectionVars false
/-! Functions that call themselves. -/
namespace Go.Dc

open Classical in
/-- what some depth gives -/
noncomputable def limM {A B : Type} (m : Nat → A → Option B) (a : A) : Option B := if h : ∃ n r, m n a = some r then some h.choose_spec.choose else none
theorem limM_at {A B : Type} {m : Nat → A → Option B} {a : A} {r : B} (h : limM m a = some r) : ∃ n, m n a = some r := by
  unfold limM at h
  split at h
  · rename_i h1
    cases h
    exact ⟨_, h1.choose_spec.choose_spec⟩
  · cases h
theorem limM_some {A B : Type} {m : Nat → A → Option B} {a : A} {n : Nat} {r : B} (h : m n a = some r) : ∃ r', limM m a = some r' := by
  unfold limM
  rw [dif_pos ⟨n, r, h⟩]
  exact ⟨_, rfl⟩
/-- models that agree once they are defined -/
def Mono {A B : Type} (m : Nat → A → Option B) : Prop := ∀ n a r, m n a = some r → m (n + 1) a = some r
theorem Mono.le {A B : Type} {m : Nat → A → Option B} (h : Mono m) {a : A} {r : B} {n : Nat} (h1 : m n a = some r) : ∀ k, n ≤ k → m k a = some r
  | 0, hk => by obtain rfl : n = 0 := by omega
                exact h1
  | k + 1, hk => by
    by_cases e : n = k + 1
    · subst e; exact h1
    · exact h _ _ _ (h.le h1 k (by omega))
theorem limM_iff {A B : Type} {m : Nat → A → Option B} (h : Mono m) {a : A} {r : B} : limM m a = some r ↔ ∃ n, m n a = some r := by
  refine ⟨limM_at, fun ⟨n, hn⟩ => ?_⟩
  obtain ⟨r', h'⟩ := limM_some hn
  obtain ⟨k, hk⟩ := limM_at h'
  have h1 := h.le hn (max n k) (Nat.le_max_left _ _)
  have h2 := h.le hk (max n k) (Nat.le_max_right _ _)
  rw [h1] at h2; cases h2; exact h'

def Con.with [SDen] (C : Con) (m : Tup C.ins → Option (Tup C.outs)) : Con := ⟨C.ins, C.outs, m, C.ps, C.os, C.rs, C.os', C.nh, C.nh'⟩
variable [DrawMode] {P : Program} {f : FuncId} [PTab P]
theorem conFn_none {C : Con} (hc : ∀ args w, (callFunc f args).run P w = .ok (.enter f args) w) : ConFn P f (C.with fun _ => none) := ⟨hc, fun a r h => by cases h⟩
theorem conFn_lim {C : Con} {m : Nat → Tup C.ins → Option (Tup C.outs)} (h : ∀ n, ConFn P f (C.with (m n))) : ConFn P f (C.with (limM m)) :=
  ⟨(h 0).call, fun a r har => by
    obtain ⟨n, hn⟩ := limM_at (show limM m a = some r from har)
    exact (h n).ok a r hn⟩
theorem conFn_rec {C : Con} {m : Nat → Tup C.ins → Option (Tup C.outs)} (hc : ∀ args w, (callFunc f args).run P w = .ok (.enter f args) w) (h0 : m 0 = fun _ => none) (h : ∀ n, ConFn P f (C.with (m n)) → ConFn P f (C.with (m (n + 1)))) : ConFn P f (C.with (limM m)) :=
  conFn_lim fun n => by
    induction n with
    | zero => rw [h0]; exact conFn_none hc
    | succ n ih => exact h n ih
end Go.Dc

/-! From the tables that a row lists to what a walk knows of them. -/
namespace Go.Dc
variable {P : Program}
theorem tinv_tab {W : World} {name : String} {k : IntKind} {zs : List Int} {g : Nat} (h : Lib.TabIs P W name k zs) (hg : P.globalNamed name = some g) :
    ∃ ty fz, W.heap[g]? = some (.cells (zs.map fun z => Value.int k z).toArray ty fz) := by
  unfold Lib.TabIs World.var? at h
  rw [hg] at h
  have h' : (match W.heap[g]? with | some (.cells cs _ _) => some cs | _ => none) = some (zs.map fun z => Value.int k z).toArray := h
  split at h'
  · rename_i cs ty fz e
    cases h'
    exact ⟨ty, fz, e⟩
  · cases h'
theorem laidMet_tail {x : String × DataW Unit} {l : List (String × DataW Unit)} {W : World} (h : laidMet P (x :: l) W) : laidMet P l W := by
  obtain ⟨ps, hv, hn, hr⟩ := h
  obtain ⟨n, d⟩ := x
  obtain ⟨g, t, cs, fuel, p, q, h1, h2, h3, h4, h5, h6⟩ := hv
  subst h6
  exact ⟨q, h5, (List.nodup_append.1 hn).2.1, fun b off hm => hr b off (List.mem_append_right _ hm)⟩
end Go.Dc

set_option linter.unusedVariables false
/-! slices.SortFunc of elements of several cells, under a function that compares. -/
namespace Go.Dc
open Go.Proofs Go.RowKit Go.Sort Go.Shelf Go.Lib
variable {P : Program} {α : Type} [Inhabited α]

theorem cell_of_blockL {w : World} {b o : Nat} {cells : Array Value} {ty : TypeId} {fz : Nat × Nat} (h : w.heap[b]? = some (.cells cells ty fz)) : w.cell? ⟨b, o, none⟩ = cells[o]? := by
  simp [World.cell?, h]
theorem unfrozen_of_blockL {w : World} {b o : Nat} {cells : Array Value} {ty : TypeId} (h : w.heap[b]? = some (.cells cells ty (0, 0))) : w.frozen? ⟨b, o, none⟩ = false := by
  simp [World.frozen?, h]

/-- what stays of a world in which only blocks were added -/
theorem kept_grow {w w' : World} (h : Kept [] w w') : ∃ q os, w' = grow (w.drewN q) os := by
  refine ⟨w'.drawn - w.drawn, w'.heap.extract w.heap.size w'.heap.size, ?_⟩
  have hh : w'.heap = w.heap ++ w'.heap.extract w.heap.size w'.heap.size := by
    have hs := h.size
    apply Array.ext_getElem?
    intro i
    by_cases e : i < w.heap.size
    · rw [Array.getElem?_append_left e, h.blk i e (by simp)]
    · rw [Array.getElem?_append_right (by omega), Array.getElem?_extract]
      by_cases e2 : i < w'.heap.size
      · rw [if_pos (by omega), show w.heap.size + (i - w.heap.size) = i by omega]
      · rw [Array.getElem?_eq_none (by omega)]
        split
        · rw [Array.getElem?_eq_none (by omega)]
        · rfl
  have hd := h.drawn trivial
  obtain ⟨heap, tape, drawn, os, output⟩ := w
  obtain ⟨heap', tape', drawn', os', output'⟩ := w'
  have h1 := h.os; have h2 := h.tape; have h3 := h.output
  dsimp only at h1 h2 h3 hh hd ⊢
  subst h1; subst h2; subst h3
  unfold grow World.drewN
  simp only [World.mk.injEq, true_and, and_true]
  exact ⟨hh, by omega⟩

/-- elements whose cells are fixed by their value -/
structure EncT {α : Type} (ρ : Rep α) (enc : α → List Value) (k : Nat) : Prop where
  size : ρ.size = k
  pos : 0 < k
  agg : ρ.agg = true
  len : ∀ x, (enc x).length = k
  one : ∀ x, ∀ v ∈ enc x, v.oneCell' = true
  to : ∀ (x : α) (F : FP) (w : World) (cs : List Value), AllP F w (ρ.cp x) cs → cs = enc x
  of : ∀ (x : α) (F : FP) (w : World), AllP F w (ρ.cp x) (enc x)

/-- a function that compares: total, a strict weak order that parts whatever two that are not one -/
def cfo (m : α → α → Option Int) (x y : α) : Int := (m x y).getD 0
structure CmpOk (m : α → α → Option Int) : Prop where
  tot : ∀ x y, m x y = some (cfo m x y)
  swo : SWO (ltOf (cfo m))
  sep : ∀ x y, ltOf (cfo m) x y = false → ltOf (cfo m) y x = false → x = y
def sortL (m : α → α → Option Int) (l : List α) : List α := l.mergeSort fun x y => !(ltOf (cfo m)) y x
open Classical in
noncomputable def sortFM (m : α → α → Option Int) (l : List α) : Option (List α) := if l.length ≤ 1000000000000 ∧ CmpOk m then some (sortL m l) else none
omit [Inhabited α] in
theorem sortL_len {m : α → α → Option Int} {l : List α} : (sortL m l).length = l.length := by simp [sortL]

omit [Inhabited α] in
/-- a contract that tells of the draws too -/
abbrev FnOkS {X : Type} (P : Program) (f : FuncId) (args : List RP) (Ω0 : List OB) (res : X → List RP) (Ω1 : X → List OB) : Prop := FnOk P f args Ω0 res Ω1
end Go.Dc

set_option linter.unusedSectionVars false
set_option linter.unusedVariables false
/-! slices.SortFunc of integers, under a function that compares. -/
namespace Go.Dc
open Go.Proofs Go.RowKit Go.Sort Go.Shelf Go.Lib
variable {P : Program}
def encI (x : Int) : Value := .int .i64 x
theorem encI_one : OneCell encI := fun _ => rfl
theorem slH_intE {F : FP} {w : World} {cells : Array Value} {off : Nat} {d : List Int} : SlH (rI .i64) F w cells off d ↔ ∀ i (hi : i < d.length), cells[off + i]? = some (encI d[i]) := by
  constructor
  · intro h i hi
    obtain ⟨es, h1, h2⟩ := h i hi
    have h3 := h2 0 Nat.one_pos
    match es, h1 with
    | [v], ⟨hv, _⟩ =>
      have hv' : v = .int .i64 d[i] := hv
      subst hv'
      have e : off + i * (rI .i64).size + 0 = off + i := by show off + i * 1 + 0 = _; omega
      rw [e] at h3; exact h3
  · intro h i hi
    refine ⟨[encI d[i]], ⟨rfl, trivial⟩, fun j hj => ?_⟩
    have : j = 0 := by have h1 : j < 1 := hj; omega
    subst this
    have e : off + i * (rI .i64).size + 0 = off + i := by show off + i * 1 + 0 = _; omega
    rw [e]; exact h i hi
theorem sort_fnI [DrawMode] {fS fC : Nat} {m : Int → Int → Option Int} {X : Type}
    (hfC : ∀ x y r, m x y = some r → FnOkS P fC [iv .i64 x, iv .i64 y] [] (fun _ : X => [iv .i64 r]) (fun _ => []))
    (hC : ∀ (hO : SWO (ltOf (cfo m))) (blk off cap : Nat) (d : Array Int) (w : World), CmpLays1 P fC #[] encI (cfo m) blk off d.size w → Holds encI w blk off d → blk < w.heap.size → d.size < 4611686018427387904 →
      (∀ x y, (ltOf (cfo m)) x y = false → (ltOf (cfo m)) y x = false → x = y) →
      Calls P fS #[.slice (some ⟨blk, off, none⟩) d.size cap, .func (.func fC) #[] #[]] w fun e w' => e = .returned (.tuple #[]) ∧ ∃ n os, w' = sortWorld encI w blk off n (d.toList.mergeSort fun x y => !(ltOf (cfo m)) y x).toArray os)
    (hN : ∀ (p : Option Addr) (cap : Nat) (fv : Value) (w : World), Calls P fS #[.slice p 0 cap, fv] w fun e w' => e = .returned (.tuple #[]) ∧ w' = w)
    {l r : List Int} (hm : sortFM m l = some r) {h : Value × List Nat} :
    FnOk P fS [pv h.1, pv (.func (.func fC) #[] #[])] [oa (rI .i64) h.1 h.2 l] (fun _ : Unit => []) (fun _ : Unit => [oa (rI .i64) h.1 h.2 r]) := by
  intro F w vs hF hmf hbd hnd hob hargs htb
  unfold sortFM at hm
  have hl : l.length ≤ 1000000000000 ∧ CmpOk m := Classical.byContradiction fun hx => by rw [if_neg hx] at hm; cases hm
  rw [if_pos hl] at hm
  cases hm
  obtain ⟨hl, hcm⟩ := hl
  match vs, hargs with
  | [v0, v1], ⟨hv0, hv1, _⟩ =>
    have hv0' : v0 = h.1 := hv0
    have hv1' : v1 = .func (.func fC) #[] #[] := hv1
    subst hv0'; subst hv1'
    obtain ⟨hv, S⟩ := h
    obtain ⟨a, c, e1, hc, hat⟩ := hob (oa (rI .i64) hv S l) (by simp)
    simp only at e1 hat hbd ⊢
    subst e1
    have hlen : (sortL m l).length = l.length := sortL_len
    rcases hat with ⟨rfl, rfl, rfl⟩ | ⟨b, off, cells, ty, rfl, rfl, hb, hsz, hH⟩
    · have : l = [] := List.eq_nil_of_length_eq_zero (by omega)
      subst this
      refine Calls.mono (hN none 0 _ w) ?_
      rintro e' w' ⟨rfl, rfl⟩
      refine ⟨(), _, rfl, .refl _ _, by simp [ow, oa], by simp [ow, oa], fun o ho => ?_, #[], rfl, trivial⟩
      rw [List.mem_singleton.1 ho]
      exact ⟨none, 0, by simp [sortL], by simp [sortL], .inl ⟨rfl, rfl, rfl⟩⟩
    · have hI := slH_intE.1 hH
      have hsz' : off + c ≤ cells.size := by have : off + c * 1 ≤ cells.size := hsz; omega
      have hHo : Holds encI w b off l.toArray := fun t ht => by
        have ht' : t < l.length := by simpa using ht
        refine ⟨?_, unfrozen_of_blockL hb⟩
        rw [cell_of_blockL hb, hI t ht']
        simp [ht']
      have hbl := size_of_get hb
      have hcmp : CmpLays1 P fC #[] encI (cfo m) b off l.toArray.size w := fun q os dk hdk x y => by
        have hcl := hfC x y _ (hcm.tot x y) (fun _ => True) (sortWorld encI w b off q dk os) [encI x, encI y] (fun _ _ => trivial) (fun _ _ => trivial) (by simp [ow]) (by simp [ow]) (by simp) ⟨rfl, rfl, trivial⟩ (fun _ hx => by cases hx)
        refine Calls.mono hcl ?_
        rintro e' w' ⟨_, v, rfl, hk, _, _, _, hv⟩
        have hv' : v = .int .i64 (cfo m x y) := hv
        subst hv'
        exact ⟨rfl, kept_grow hk⟩
      have hCl := hC hcm.swo b off c l.toArray w hcmp hHo hbl (by simp; omega) hcm.sep
      rw [List.size_toArray] at hCl
      refine Calls.mono hCl ?_
      rintro e' w' ⟨rfl, q, os, rfl⟩
      have hr : (l.mergeSort fun x y => !(ltOf (cfo m)) y x) = sortL m l := rfl
      rw [List.toList_toArray, hr]
      generalize sortL m l = r at *
      have hheap : ∀ i, i < w.heap.size → (sortWorld encI w b off q r.toArray os).heap[i]? = if i = b then some (.cells (putCells encI off r.toArray cells) ty (0, 0)) else w.heap[i]? := fun i hi => by
        unfold sortWorld grow putRow mapBlock Sort.ahead
        simp only
        rw [Array.getElem?_append_left (by simpa using hi)]
        simp only [Array.getElem?_modify]
        by_cases e : b = i
        · subst e; rw [if_pos rfl, if_pos rfl, hb]; rfl
        · rw [if_neg e, if_neg (fun h => e h.symm)]
      have hgs : w.heap.size ≤ (sortWorld encI w b off q r.toArray os).heap.size := by simp [sortWorld, grow, putRow, mapBlock, Sort.ahead]
      refine ⟨(), _, rfl, ⟨rfl, rfl, rfl, by simp [sortWorld, grow, putRow, mapBlock, Sort.ahead], hgs, fun i hi hk' => ?_⟩, fun i hk' => ?_, by simp [ow, oa], fun o ho => ?_, #[], rfl, trivial⟩
      · rw [hheap i hi, if_neg (fun e => hk' (by simp [ow, oa, e]))]
      · have : i = b := by simpa [ow, oa] using hk'
        subst this
        exact ⟨by omega, .inr (by simp [ow, oa])⟩
      · rw [List.mem_singleton.1 ho]
        refine ⟨_, c, by rw [hlen], by omega, .inr ⟨b, off, _, ty, rfl, rfl, by rw [hheap b hbl, if_pos rfl], ?_, slH_intE.2 fun i hi => ?_⟩⟩
        · simp only [putCells, Array.size_mapIdx]; exact hsz
        · have hi2 : off + i < cells.size := by omega
          simp only [putCells, Array.getElem?_mapIdx, Array.getElem?_eq_getElem hi2, Option.map_some]
          rw [if_pos (by simp; omega)]
          have e1 : off + i - off = i := by omega
          rw [e1]
          have e4 : r.toArray[i]! = r[i] := by simp [hi]
          rw [e4]
end Go.Dc

/-! A comparing function's contract, for slices.SortFunc (the count of draws does not fall). -/
namespace Go.Dc
variable {P : Program} {f : FuncId} [PTab P]
theorem conCmp {t : Ty} {m : t.den → t.den → Option Int} {ps : List (Bool × List KA)} {X Y : RP} {x y : t.den} {r : Int}
    (h : ConFn P f ⟨[t, t], [.int .i64], fun a => m a.1 a.2, ps, [], [(false, [.d 0 0])], [], 0, 0⟩) (hm : m x y = some r)
    (he : ∀ hs, Con.args (P := P) ⟨[t, t], [.int .i64], fun a => m a.1 a.2, ps, [], [(false, [.d 0 0])], [], 0, 0⟩ (x, y) hs = [X, Y]) :
    FnOkS P f [X, Y] [] (fun _ : Unit => [iv .i64 r]) (fun _ => []) := by
  have h1 := h.ok (x, y) r hm (fun _ => ⟨.nilIface, [], 0, rfl⟩)
  rw [he] at h1
  exact h1.re fun _ _ _ _ => ⟨(), rfl, rfl⟩
end Go.Dc

set_option linter.unusedSectionVars false
set_option linter.unusedVariables false
/-! slices.Compact of ints as a contract of ours. -/
namespace Go.Dc
variable [DrawMode]
open Go.Proofs Go.RowKit Go.Sort Go.Shelf
variable {P : Program}

theorem slH_int {F : FP} {w : World} {cells : Array Value} {off : Nat} {d : List Int} {k : IntKind} : SlH (rI k) F w cells off d ↔ ∀ i (hi : i < d.length), cells[off + i]? = some (.int k d[i]) := by
  constructor
  · intro h i hi
    obtain ⟨es, h1, h2⟩ := h i hi
    have := h2 0 (by simp [rI, one])
    simp only [rI, one, Nat.mul_one, Nat.add_zero] at this h1
    match es, h1 with
    | [u], ⟨hu, _⟩ => rw [this]; simp; exact hu
  · intro h i hi
    refine ⟨[.int k d[i]], ⟨rfl, trivial⟩, fun j hj => ?_⟩
    have hj0 : j = 0 := by simp [rI, one] at hj; omega
    subst hj0
    simpa [rI, one] using h i hi

theorem cell_of_block {w : World} {b o : Nat} {cells : Array Value} {ty : TypeId} {fz : Nat × Nat} (h : w.heap[b]? = some (.cells cells ty fz)) : w.cell? ⟨b, o, none⟩ = cells[o]? := by
  simp [World.cell?, h]
theorem unfrozen_of_block {w : World} {b o : Nat} {cells : Array Value} {ty : TypeId} (h : w.heap[b]? = some (.cells cells ty (0, 0))) : w.frozen? ⟨b, o, none⟩ = false := by
  simp [World.frozen?, h]

def compactM (l : List Int) : Option (List Int) := if l.length ≤ 1000000000000 then some (Lib.compact l) else none

theorem compact_len (zs : List Int) : (Lib.compact zs).length ≤ zs.length := by
  unfold Lib.compact Lib.compactUpTo
  rw [List.length_map]
  exact Nat.le_trans (List.length_filter_le _ _) (by simp)

theorem compact_fn {fS : Nat}
    (hC : ∀ (w : World) (blk off cap : Nat) (zs : List Int), Holds (Value.int .i64) w blk off zs.toArray → zs.length ≤ 9223372036854775807 → zs.length ≤ cap →
      Calls P fS #[.slice (some ⟨blk, off, none⟩) zs.length cap] w fun e w' => e = .returned (.slice (some ⟨blk, off, none⟩) (Lib.compact zs).length cap) ∧ ∃ q, w' = putRow (Value.int .i64) (Sort.ahead w q) blk off (Lib.compact zs ++ List.replicate (zs.length - (Lib.compact zs).length) 0).toArray)
    (hE : ∀ (a : Option Addr) (cap : Nat) (w : World), Calls P fS #[.slice a 0 cap] w fun e w' => e = .returned (.slice a 0 cap) ∧ w' = w)
    (hlen : ∀ zs : List Int, (Lib.compact zs).length ≤ zs.length)
    {l r : List Int} (hm : compactM l = some r) {h : Value × List Nat} :
    FnOk P fS [pv h.1] [oa (rI .i64) h.1 h.2 l] (fun x : Value × List Nat => [pv x.1]) (fun x : Value × List Nat => [oa (rI .i64) x.1 x.2 r]) := by
  intro F w vs hF hmf hbd hnd hob hargs htb
  unfold compactM at hm
  have hl : l.length ≤ 1000000000000 := Classical.byContradiction fun hx => by rw [if_neg hx] at hm; cases hm
  rw [if_pos hl] at hm
  cases hm
  match vs, hargs with
  | [v0], ⟨hv0, _⟩ =>
    have hv0' : v0 = h.1 := hv0
    subst hv0'
    obtain ⟨hv, S⟩ := h
    obtain ⟨a, c, e1, hc, hat⟩ := hob (oa (rI .i64) hv S l) (by simp)
    simp only at e1 hat ⊢
    subst e1
    rcases hat with ⟨rfl, rfl, rfl⟩ | ⟨b, off, cells, ty, rfl, rfl, hb, hsz, hH⟩
    · have : l = [] := List.eq_nil_of_length_eq_zero (by omega)
      subst this
      refine Calls.mono (hE none 0 w) ?_
      rintro e' w' ⟨rfl, rfl⟩
      refine ⟨(.slice none 0 0, []), _, rfl, .refl _ _, by simp [ow, oa], by simp [ow, oa], fun o ho => ?_, rfl⟩
      rw [List.mem_singleton.1 ho]
      exact ⟨none, 0, rfl, by simp [Lib.compact, Lib.compactUpTo], .inl ⟨rfl, rfl, rfl⟩⟩
    · have hI := slH_int.1 hH
      have hsz' : off + c ≤ cells.size := by simpa [rI, one] using hsz
      have hHo : Holds (Value.int .i64) w b off l.toArray := fun j hj => by
        have hj' : j < l.length := by simpa using hj
        refine ⟨?_, unfrozen_of_block hb⟩
        rw [cell_of_block hb, hI j hj']
        simp [getElem!_pos, hj']
      refine Calls.mono (hC w b off c l hHo (by omega) hc) ?_
      rintro e' w' ⟨rfl, q, rfl⟩
      have hbl := size_of_get hb
      have hheap : ∀ k, (putRow (Value.int .i64) (Sort.ahead w q) b off (Lib.compact l ++ List.replicate (l.length - (Lib.compact l).length) 0).toArray).heap[k]? = if k = b then some (.cells (putCells (Value.int .i64) off (Lib.compact l ++ List.replicate (l.length - (Lib.compact l).length) 0).toArray cells) ty (0, 0)) else w.heap[k]? := fun k => by
        unfold putRow mapBlock Sort.ahead
        simp only [Array.getElem?_modify]
        by_cases e : b = k
        · subst e; rw [if_pos rfl, if_pos rfl, hb]; rfl
        · rw [if_neg e, if_neg (fun h => e h.symm)]
      have hcl := hlen l
      refine ⟨(.slice (some ⟨b, off, none⟩) (Lib.compact l).length c, [b]), _, rfl, ⟨rfl, rfl, rfl, by simp [putRow, mapBlock, Sort.ahead], by simp [putRow, mapBlock, Sort.ahead], fun k hk hk' => ?_⟩, fun k hk' => ?_, by simp [ow, oa], fun o ho => ?_, rfl⟩
      · rw [hheap, if_neg (fun e => hk' (by simp [ow, oa, e]))]
      · have : k = b := by simpa [ow, oa] using hk'
        subst this
        exact ⟨by simp [putRow, mapBlock, Sort.ahead]; exact hbl, .inr (by simp [ow, oa])⟩
      · rw [List.mem_singleton.1 ho]
        refine ⟨_, c, rfl, by omega, .inr ⟨b, off, _, ty, rfl, rfl, by rw [hheap, if_pos rfl], ?_, slH_int.2 fun i hi => ?_⟩⟩
        · simp only [putCells, Array.size_mapIdx]; exact hsz
        · have hi2 : off + i < cells.size := by omega
          simp only [putCells, Array.getElem?_mapIdx, Array.getElem?_eq_getElem hi2, Option.map_some]
          rw [if_pos (by simp; omega)]
          have : off + i - off = i := by omega
          rw [this]
          have hi3 : i < (Lib.compact l ++ List.replicate (l.length - (Lib.compact l).length) (0 : Int)).length := by simp; omega
          rw [getElem!_pos _ _ (by simpa using hi3)]
          simp [List.getElem_append_left hi]
end Go.Dc
