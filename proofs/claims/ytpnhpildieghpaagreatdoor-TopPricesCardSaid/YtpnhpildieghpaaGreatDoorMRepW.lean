/- Part M.RepW of a proof: lemmas. -/
import Derived.Test.YtpnhpildieghpaaGreatDoorMEv2
import Derived.Test.YtpnhpildieghpaaGreatDoorMAsk
import Derived.Shelf.SlSortCmp.InsertionK
import Derived.Shelf.SlSortCmp.Kit1
import Derived.Shelf.Spec.TrailingZeros
import Derived.Test.YtpnhpildieghpaaGreatDoorMMem4
import Derived.Test.YtpnhpildieghpaaGreatDoorDcEqS
set_option linter.unusedSectionVars false
set_option linter.unusedVariables false
set_option linter.unusedSimpArgs false
/-! Functions: from code that is carried out to a contract. -/
namespace Go.Dc
variable [DrawMode] {P : Program} [PTab P] {R : Type} {E : Env} {N : Nat}

/-! ### results -/
def resVal (P : Program) (st : MSt) : ResultVar → Option Sh
  | .tmp t => lkG st.G t
  | .cell a t => match lkG st.G a with
    | some (.vl false [.ptr o h off]) => (varC st.n st.O o h).bind fun l => (aggT P t).bind fun g => bif g
        then (sizeT P t).bind fun k => bif Nat.beq ((l.drop off).take k).length k then some (.vl true ((l.drop off).take k)) else none
        else (l[off]?).map fun a => .vl false [a]
    | _ => none
theorem resVal_ok {st : MSt} {η : Nat → Hd} {rv : ResultVar} {s : Sh} (h : resVal P st rv = some s) : RvOk P E N (gma (st.cx' η) st.G) (oma (st.cx' η) st.O) rv (s.rp (st.cx' η)) := by
  cases rv with
  | tmp t => exact rv_tmp (by rw [lk_gma, show lkG st.G t = some s from h]; rfl)
  | cell a t =>
    simp only [resVal] at h
    split at h
    · rename_i o k off hl
      obtain ⟨l, h1, h⟩ := Option.bind_eq_some_iff.1 h
      obtain ⟨g, h2, h⟩ := Option.bind_eq_some_iff.1 h
      obtain ⟨hb, hlt, hj⟩ := varC_ok (env := st.env) h1
      have hlk : lk (gma (st.cx' η) st.G) a = some (pv (ptr (η k).b off)) := by
        rw [lk_gma, hl]
        show some ((At.ptr o k off).rp (st.cx' η)) = _
        rw [ptr_rp (c := st.cx' η) hb]
      cases g with
      | true =>
        obtain ⟨m, h3, h⟩ := Option.bind_eq_some_iff.1 h
        cases hk : Nat.beq ((l.drop off).take m).length m with
        | false => rw [hk] at h; cases h
        | true =>
          rw [hk] at h; cases h
          have := rv_cell (E := E) (N := N) hlk (hj η) (aggT_ok h2) (sizeT_ok h3) rfl (by simpa using hk)
          rw [← List.map_drop, ← List.map_take] at this
          exact this
      | false =>
        obtain ⟨x, h3, rfl⟩ := Option.map_eq_some_iff.1 h
        exact rv_cell1 (E := E) (N := N) hlk (hj η) (aggT_ok h2) (by rw [List.getElem?_map, h3]; rfl)
    · cases h
def resVals (P : Program) (st : MSt) : List ResultVar → Option (List Sh)
  | [] => some []
  | r :: rs => (resVal P st r).bind fun s => (resVals P st rs).map (s :: ·)

theorem resH_imp {F : FP} {w : World} {φs ψs : List RP} {v : Value} (hi : ImpAll φs ψs) (h : resH F w φs v) : resH F w ψs v := by
  match φs, ψs, hi, h with
  | [], [], _, h => exact h
  | [φ], [ψ], ⟨h1, _⟩, h => exact h1 h
  | _ :: _ :: _, _ :: _ :: _, hi, ⟨vs, e, h⟩ => exact ⟨vs, e, hi.all h⟩

theorem resVals_ok {st : MSt} {η : Nat → Hd} {fn : Func} {ss : List Sh} (h : resVals P st fn.results.toList = some ss) (hl : fn.results.toList.length ≤ 3) {a : Act} {w : World}
    (hs : Sat E N (gma (st.cx' η) st.G) (oma (st.cx' η) st.O) a w) : ∃ v, (results fn a.tmps).run P w = .ok v w ∧ resH (fr E (oma (st.cx' η) st.O)) w (ss.map (Sh.rp (st.cx' η))) v := by
  generalize hr : fn.results.toList = l at h hl
  have hr' : fn.results = l.toArray := by rw [← hr]
  match l, h, hl with
  | [], h, _ => cases h; exact ⟨_, results0 hr' _ _, ⟨#[], rfl, trivial⟩⟩
  | [x], h, _ =>
    simp only [resVals] at h
    obtain ⟨s, h1, h2⟩ := Option.bind_eq_some_iff.1 h
    cases h2
    obtain ⟨v, h3, h4⟩ := resVal_ok (E := E) (N := N) (η := η) h1 a w hs
    exact ⟨v, results1 hr' h3, h4⟩
  | [x, y], h, _ =>
    simp only [resVals] at h
    obtain ⟨s, h1, h2⟩ := Option.bind_eq_some_iff.1 h
    obtain ⟨ss2, g2, rfl⟩ := Option.map_eq_some_iff.1 h2
    obtain ⟨s2, h5, h6⟩ := Option.bind_eq_some_iff.1 g2
    cases h6
    obtain ⟨v, h3, h4⟩ := resVal_ok (E := E) (N := N) (η := η) h1 a w hs
    obtain ⟨u, h7, h8⟩ := resVal_ok (E := E) (N := N) (η := η) h5 a w hs
    exact ⟨_, results2 hr' h3 h7, ⟨_, rfl, h4, h8, trivial⟩⟩
  | [x, y, z], h, _ =>
    simp only [resVals] at h
    obtain ⟨s, h1, h2⟩ := Option.bind_eq_some_iff.1 h
    obtain ⟨ss2, g2, rfl⟩ := Option.map_eq_some_iff.1 h2
    obtain ⟨s2, h5, h6⟩ := Option.bind_eq_some_iff.1 g2
    obtain ⟨ss3, g6, rfl⟩ := Option.map_eq_some_iff.1 h6
    obtain ⟨s3, h9, h10⟩ := Option.bind_eq_some_iff.1 g6
    cases h10
    obtain ⟨v, h3, h4⟩ := resVal_ok (E := E) (N := N) (η := η) h1 a w hs
    obtain ⟨u, h7, h8⟩ := resVal_ok (E := E) (N := N) (η := η) h5 a w hs
    obtain ⟨t, h11, h12⟩ := resVal_ok (E := E) (N := N) (η := η) h9 a w hs
    exact ⟨_, results3 hr' h3 h7 h11, ⟨_, rfl, h4, h8, h12, trivial⟩⟩
  | _ :: _ :: _ :: _ :: _, _, hl => simp at hl

/-! ### the beginning -/
def enumS : Nat → List (Bool × List KA) → List (Nat × (Bool × List KA))
  | _, [] => []
  | n, v :: r => (n, v) :: enumS (n + 1) r
def Con.pat0 (C : Con) : Pat := ⟨C.ins, enumS 0 C.ps, C.os, [], 0, C.nh⟩
theorem enumS_Γ {L : Nat → Nat → Option Dyn} {hs : Nat → Hd} : ∀ {l : List (Bool × List KA)} {n : Nat}, (enumS n l).map (fun x => (x.1, kvrp cx0 L hs x.2)) = enumΓ n (l.map (kvrp cx0 L hs))
  | [], _ => rfl
  | v :: r, n => by simp only [enumS, List.map_cons, enumΓ, enumS_Γ]

/-! ### the end -/
/-- the objects at the end: what they hold is matched -/
def endO (P : Program) [PTab P] (ts : List Ty) (st0 : MSt) (n : Nat) (env : List (Nat × Ent)) (O : List MO) : Nat → Mt → List KO → Option Mt
  | _, M, [] => some M
  | i, M, .dead :: os => endO P ts st0 n env O (i + 1) M os
  | i, M, .same :: os => match st0.O[i]?, O[i]? with
    | some a, some b => bif moEq a b && a.clo st0.n st0.env then endO P ts st0 n env O (i + 1) M os else none
    | _, _ => none
  | i, M, o :: os => (mtO P ts 0 [] n env O M o).bind fun M => endO P ts st0 n env O (i + 1) M os
/-- where they stand -/
def endP (M : Mt) : Nat → List KO → Option (List Nat)
  | _, [] => some []
  | i, .dead :: os => endP M (i + 1) os
  | i, .same :: os => (endP M (i + 1) os).map (i :: ·)
  | i, o :: os => (o.key.bind (lkM M.om)).bind fun x => (endP M (i + 1) os).map (x.1 :: ·)
def fixF (C : Con) (n0 : Nat) : Nat → Nat → List (Nat × (Nat × Nat))
  | _, 0 => []
  | k, m + 1 => (k, (k, n0 + k)) :: fixF C n0 (k + 1) m
theorem fixF_get {C : Con} {n0 : Nat} : ∀ {m k : Nat} {i : Nat}, k ≤ i → i < k + m → lkM (fixF C n0 k m) i = some (i, n0 + i)
  | 0, k, i, h1, h2 => by omega
  | m + 1, k, i, h1, h2 => by
    simp only [fixF, lkM]
    by_cases e : k = i
    · subst e; simp
    · rw [beq_ne e]; exact fixF_get (by omega) (by omega)

/-- what a function returns at state st, which began at st0 -/
def Con.ret (P : Program) [PTab P] (C : Con) (fn : Func) (fin : List Conv) (st0 : MSt) (st : MSt) : Option (Tup C.outs) :=
  (convs P fin st).bind fun st => (resVals P st fn.results.toList).bind fun ss => (mtVs P C.outs false 0 [] st.n st.env ⟨[], fixF C C.pat0.wl.length 0 C.nh⟩ C.rs ss).bind fun M0 =>
    (endO P C.outs st0 st.n st.env st.O 0 M0 C.os').bind fun M => (endP M 0 C.os').bind fun is => bif nodupN is then M.tup P C.outs else none

theorem drop_step {α : Type} {l : List α} {i : Nat} : (∃ x, l.drop i = x :: l.drop (i + 1)) ∨ (l.drop i = [] ∧ l.drop (i + 1) = []) := by
  by_cases h : i < l.length
  · exact .inl ⟨l[i], List.drop_eq_getElem_cons h⟩
  · exact .inr ⟨List.drop_eq_nil_of_le (by omega), List.drop_eq_nil_of_le (by omega)⟩

theorem endO_ok {ts : List Ty} {st0 st : MSt} {Li : Nat → Nat → Option Dyn} {hs0 η0 η : Nat → Hd} {os : List KO} (h0 : oma (st0.cx' η0) st0.O = os.map (KO.ob cx0 Li hs0)) (hx : Ext (st0.cx' η0) (st.cx' η)) :
    ∀ {os' : List KO} {i : Nat} {M M' : Mt}, endO P ts st0 st.n st.env st.O i M os' = some M' → Mt.Le M M' ∧ ∀ {is : List Nat}, endP M' i os' = some is → ∀ {L : Nat → Nat → Option Dyn} {hs : Nat → Hd}, MtSay L hs η M' →
      (∀ (k p : Nat) (o : OB), is[k]? = some p → (keepB (kmask os') (kafter Li L hs0 hs (os.drop i) os'))[k]? = some o → (oma (st.cx' η) st.O)[p]? = some o) ∧ is.length = (keepB (kmask os') (kafter Li L hs0 hs (os.drop i) os')).length
  | [], i, M, M', h => by cases h; exact ⟨.refl _, fun hp => by cases hp; exact fun _ => ⟨fun k p o h => by simp at h, by cases (os.drop i) <;> rfl⟩⟩
  | .dead :: os', i, M, M', h => by
    obtain ⟨h1, h2⟩ := endO_ok h0 hx (os' := os') (i := i + 1) h
    refine ⟨h1, fun {is} hp {L hs} hsay => ?_⟩
    have h3 := h2 (is := is) hp hsay
    have e : keepB (kmask (.dead :: os')) (kafter Li L hs0 hs (os.drop i) (.dead :: os')) = keepB (kmask os') (kafter Li L hs0 hs (os.drop (i + 1)) os') := by
      rcases drop_step (l := os) (i := i) with ⟨x, hd⟩ | ⟨hd, hd'⟩
      · rw [hd]; rfl
      · rw [hd, hd']; rfl
    rw [e]; exact h3
  | .same :: os', i, M, M', h => by
    simp only [endO] at h
    split at h
    · rename_i a b ha hb
      cases hm : moEq a b && a.clo st0.n st0.env with
      | false => rw [hm] at h; cases h
      | true =>
        rw [hm] at h
        simp only [Bool.and_eq_true] at hm
        obtain ⟨hm, hclo⟩ := hm
        obtain rfl := moEq_ok hm
        obtain ⟨h1, h2⟩ := endO_ok h0 hx (os' := os') (i := i + 1) h
        refine ⟨h1, fun {is} hp {L hs} hsay => ?_⟩
        simp only [endP] at hp
        obtain ⟨is', hp', rfl⟩ := Option.map_eq_some_iff.1 hp
        obtain ⟨h3, h4⟩ := h2 (is := is') hp' hsay
        have hat : (oma (st0.cx' η0) st0.O)[i]? = some (a.ob (st0.cx' η0)) := by simp [oma, ha]
        obtain ⟨k0, hk0, hk1⟩ : ∃ k, os[i]? = some k ∧ k.ob cx0 Li hs0 = a.ob (st0.cx' η0) := by
          rw [h0, List.getElem?_map] at hat
          obtain ⟨k, hk, e⟩ := Option.map_eq_some_iff.1 hat
          exact ⟨k, hk, e⟩
        have hd : os.drop i = k0 :: os.drop (i + 1) := by
          have hlt := (List.getElem?_eq_some_iff.1 hk0).1
          rw [List.drop_eq_getElem_cons hlt, (List.getElem?_eq_some_iff.1 hk0).2]
        have e : keepB (kmask (.same :: os')) (kafter Li L hs0 hs (os.drop i) (.same :: os')) = k0.ob cx0 Li hs0 :: keepB (kmask os') (kafter Li L hs0 hs (os.drop (i + 1)) os') := by rw [hd]; rfl
        rw [e]
        refine ⟨fun k p o hk ho => ?_, by simp [h4]⟩
        cases k with
        | zero =>
          simp only [List.getElem?_cons_zero, Option.some.injEq] at hk ho
          subst hk; subst ho
          rw [hk1, ← MO.clo_ok hx hclo]
          simp [oma, hb]
        | succ k => exact h3 k p o (by simpa using hk) (by simpa using ho)
    · cases h
  | .oa x y :: os', i, M, M', h => by
    have h : (mtO P ts 0 [] st.n st.env st.O M (.oa x y)).bind (fun M => endO P ts st0 st.n st.env st.O (i + 1) M os') = some M' := h
    obtain ⟨M1, h1, h2⟩ := Option.bind_eq_some_iff.1 h
    obtain ⟨h3, k, p, z, hk, hm, hlt, hb, hat⟩ := mtO_ok (c0 := cx0) h1
    obtain ⟨h5, h6⟩ := endO_ok h0 hx h2
    refine ⟨h3.trans h5, fun {is} hp {L hs} hsay => ?_⟩
    have hp : ((KO.oa x y).key.bind (lkM M'.om)).bind (fun x => (endP M' (i + 1) os').map (x.1 :: ·)) = some is := hp
    simp only [hk, Option.bind_some, h5.o _ _ (h3.o _ _ hm)] at hp
    obtain ⟨is', hp', rfl⟩ := Option.map_eq_some_iff.1 hp
    obtain ⟨h7, h8⟩ := h6 (is := is') hp' hsay
    have e : keepB (kmask (.oa x y :: os')) (kafter Li L hs0 hs (os.drop i) (.oa x y :: os')) = (KO.oa x y).ob cx0 L hs :: keepB (kmask os') (kafter Li L hs0 hs (os.drop (i + 1)) os') := by
      rcases drop_step (l := os) (i := i) with ⟨x, hd⟩ | ⟨hd, hd'⟩
      · rw [hd]; rfl
      · rw [hd, hd']; rfl
    rw [e]
    refine ⟨fun k p o hk ho => ?_, by simp [h8]⟩
    cases k with
    | zero =>
      simp only [List.getElem?_cons_zero, Option.some.injEq] at hk ho
      subst hk; subst ho
      exact hat (cx0_ext _) (hsay.le h5)
    | succ k => exact h7 k p o (by simpa using hk) (by simpa using ho)
  | .oc x y :: os', i, M, M', h => by
    have h : (mtO P ts 0 [] st.n st.env st.O M (.oc x y)).bind (fun M => endO P ts st0 st.n st.env st.O (i + 1) M os') = some M' := h
    obtain ⟨M1, h1, h2⟩ := Option.bind_eq_some_iff.1 h
    obtain ⟨h3, k, p, z, hk, hm, hlt, hb, hat⟩ := mtO_ok (c0 := cx0) h1
    obtain ⟨h5, h6⟩ := endO_ok h0 hx h2
    refine ⟨h3.trans h5, fun {is} hp {L hs} hsay => ?_⟩
    have hp : ((KO.oc x y).key.bind (lkM M'.om)).bind (fun x => (endP M' (i + 1) os').map (x.1 :: ·)) = some is := hp
    simp only [hk, Option.bind_some, h5.o _ _ (h3.o _ _ hm)] at hp
    obtain ⟨is', hp', rfl⟩ := Option.map_eq_some_iff.1 hp
    obtain ⟨h7, h8⟩ := h6 (is := is') hp' hsay
    have e : keepB (kmask (.oc x y :: os')) (kafter Li L hs0 hs (os.drop i) (.oc x y :: os')) = (KO.oc x y).ob cx0 L hs :: keepB (kmask os') (kafter Li L hs0 hs (os.drop (i + 1)) os') := by
      rcases drop_step (l := os) (i := i) with ⟨x, hd⟩ | ⟨hd, hd'⟩
      · rw [hd]; rfl
      · rw [hd, hd']; rfl
    rw [e]
    refine ⟨fun k p o hk ho => ?_, by simp [h8]⟩
    cases k with
    | zero =>
      simp only [List.getElem?_cons_zero, Option.some.injEq] at hk ho
      subst hk; subst ho
      exact hat (cx0_ext _) (hsay.le h5)
    | succ k => exact h7 k p o (by simpa using hk) (by simpa using ho)

theorem nodupN_live {len : Nat} : ∀ {l : List Nat}, nodupN l = true → nodupN (livePos len l) = true
  | [], _ => rfl
  | i :: l, h => by
    simp only [nodupN, Bool.and_eq_true, Bool.not_eq_true'] at h
    have ih := nodupN_live (len := len) h.2
    unfold livePos at ih ⊢
    rw [List.filter_cons]
    split
    · simp only [nodupN, Bool.and_eq_true, Bool.not_eq_true']
      refine ⟨?_, ih⟩
      cases hh : hasN (l.filter fun i => !Nat.beq i len) i with
      | false => rfl
      | true =>
        have := hasN_iff.2 (List.mem_filter.1 (hasN_iff.1 hh)).1
        rw [this] at h; cases h.1
    · exact ih

/-- a function's model by its code -/
noncomputable def Con.run (P : Program) [PTab P] (C : Con) (fn : Func) (T : FuncId → List Con) (H : Hints) (fin : List Conv) (a : Tup C.ins) : Option (Tup C.outs) :=
  (C.pat0.inst P 0 [] a).bind fun st0 => match fn.body with
    | some c => ev P T H fn.ntmps (C.ret P fn fin st0) c (some id) st0 (C.ret P fn fin st0) (fun _ _ => none)
    | none => none

theorem conFn_of {f : FuncId} {fn : Func} {C : Con} {T : FuncId → List Con} {H : Hints} {fin : List Conv} (hf : P.funcs[f]? = some fn) (hc : ∀ args w, (callFunc f args).run P w = .ok (.enter f args) w) (hT : TabOk P T)
    (hN : Nat.ble C.ps.length fn.ntmps = true) (hr : Nat.ble fn.results.toList.length 3 = true) (hnh : Nat.beq C.nh C.os.length = true) (hm : ∀ a, C.run P fn T H fin a = C.m a) : ConFn P f C := by
  refine ⟨hc, fun a r har hs => ?_⟩
  rw [← hm a] at har
  unfold Con.run at har
  obtain ⟨st0, h0, har⟩ := Option.bind_eq_some_iff.1 har
  split at har
  · rename_i c hb
    have hw0 : WF cx0.n cx0.env := ⟨fun i e h => (by cases h), fun i e h => (by cases h)⟩
    obtain ⟨η0, e1, e2, hw1, hx1, hη⟩ := Pat.inst_okH (c0 := cx0) hw0 h0 (hs := hs) (fun k o h hk => by cases hk)
    have e1' : gma (st0.cx' η0) st0.G = enumΓ 0 (C.args (P := P) a hs) := e1.trans enumS_Γ
    have e2' : oma (st0.cx' η0) st0.O = C.Ω0 (P := P) a hs := e2
    refine fn_ok (X := Agr C.nh hs) (res := fun r x => C.res (P := P) r x.1) (Ω1 := fun r x => C.Ω1 (P := P) a r hs x.1) hf hb rfl har (by simpa [Con.args] using hN) fun E hE => ?_
    rw [← e1', ← e2']
    have fin' : ∀ e, e = .ret ∨ e = .normal → KOk E fn.ntmps e st0 η0 (C.ret P fn fin st0) (fnK P fn E fn.ntmps (fun r x => C.res (P := P) r x.1) (fun r (x : Agr C.nh hs) => C.Ω1 (P := P) a r hs x.1)) := by
      intro e he st η hw hx
      refine conv_go hw fun st1 η1 hw1 hx1' => ?_
      have hx2 := hx.trans hx1'
      refine pull fun ss hss => pull fun M0 hM0 => pull fun M hM => pull fun is his => ?_
      cases hnd : nodupN is with
      | false => exact pnone
      | true =>
        simp only [cond_true]
        intro r' hr'
        obtain ⟨m1, m2⟩ := mtVs_ok (c0 := cx0) hM0
        obtain ⟨m3, m4⟩ := endO_ok (os := C.os) (hs0 := hs) (Li := leaf P C.ins a) e2' hx2 hM
        have hsay := M.say hr' η1
        obtain ⟨m5, m6⟩ := m4 his hsay
        have hagr : ∀ k, k < C.nh → M.hs η1 k = hs k := fun k hk => by
          have h7 : lkM M.om k = some (k, C.pat0.wl.length + k) := m3.o _ _ (m1.o _ _ (fixF_get (C := C) (n0 := C.pat0.wl.length) (Nat.zero_le k) (by omega)))
          obtain ⟨h8, h9⟩ := hη k (by show k < C.nh - 0; omega)
          have h10 : (0 : Nat) + C.pat0.wl.length + k = C.pat0.wl.length + k := by omega
          simp only [Mt.hs, h7]
          have h11 := hx2.η (C.pat0.wl.length + k) (by have h12 : cx0.n + C.pat0.wl.length + k < st0.n := h9; have h13 : cx0.n = 0 := rfl; show C.pat0.wl.length + k < st0.n; omega)
          rw [show η1 (C.pat0.wl.length + k) = η0 (C.pat0.wl.length + k) from h11]
          have h14 : η0 (cx0.n + C.pat0.wl.length + k) = hs (0 + k) := h8
          rw [show cx0.n + C.pat0.wl.length + k = C.pat0.wl.length + k from by show 0 + C.pat0.wl.length + k = _; omega, Nat.zero_add] at h14
          exact h14
        refine finN he ⟨M.hs η1, hagr⟩ is (φs := C.res (P := P) r' (M.hs η1)) ?_ rfl (fun a' w' hsat => ?_) r' rfl
        · refine picks_of (len := st1.O.length) m6 (nodupN_live hnd) fun i p o hp ho => ⟨m5 i p o hp ho, fun hp' => ?_⟩
          have h7 := (List.getElem?_eq_some_iff.1 (m5 i p o hp ho)).1
          simp [oma] at h7; omega
        · obtain ⟨v, h3, h4⟩ := resVals_ok hss (Nat.le_of_ble_eq_true hr) hsat
          exact ⟨v, h3, resH_imp (m2 (cx0_ext _) (hsay.le m3)).1 h4⟩
    refine (ev_ok (E := E) (N := fn.ntmps) hT (H := H) (ret := C.ret P fn fin st0) c).1 _ (some id) st0 η0 _ _ _ hw1 (fin' _ (.inr rfl)) (fun i st η hw hx => pnone) (fun f' hf' => ?_)
    cases hf'
    have := fin' .ret (.inl rfl)
    intro st η hw hx
    have h5 := this st η hw hx
    simpa using h5
  · cases har
end Go.Dc

/-! Tables of contracts. -/
namespace Go.Dc
variable [DrawMode] {P : Program} [PTab P]
def tabL (l : List (FuncId × Con)) : FuncId → List Con := fun f => l.filterMap fun x => bif Nat.beq x.1 f then some x.2 else none
def AllC (P : Program) [PTab P] : List (FuncId × Con) → Prop
  | [] => True
  | x :: r => ConFn P x.1 x.2 ∧ AllC P r
theorem AllC.at : ∀ {l : List (FuncId × Con)}, AllC P l → ∀ x ∈ l, ConFn P x.1 x.2
  | [], _, x, h => by cases h
  | y :: r, ⟨h1, h2⟩, x, h => by
    rcases List.mem_cons.1 h with e | e
    · subst e; exact h1
    · exact AllC.at h2 x e
theorem tabL_ok {l : List (FuncId × Con)} (h : AllC P l) : TabOk P (tabL l) := fun f C hC => by
  obtain ⟨x, hx, e⟩ := List.mem_filterMap.1 hC
  cases hb : Nat.beq x.1 f with
  | false => rw [hb] at e; cases e
  | true =>
    rw [hb] at e; cases e
    obtain rfl := Nat.eq_of_beq_eq_true hb
    exact h.at x hx

def lkC : List (Nat × Nat) → Nat → Option Nat
  | [], _ => none
  | (t, n) :: r, i => bif Nat.beq t i then some n else lkC r i
def Dyn.as [SDen] (D : Dyn) (t : Ty) : Option t.den := if h : D.t = t then some (h ▸ D.d) else none
theorem Dyn.as_ok [SDen] {D : Dyn} {t : Ty} {x : t.den} (h : D.as t = some x) : D = ⟨t, x⟩ := by
  unfold Dyn.as at h
  split at h
  · rename_i e
    obtain ⟨u, d⟩ := D
    simp only at e
    subst e
    cases h; rfl
  · cases h
theorem all_at [SDen] {l : List Dyn} (h : l.all (fun D => D.t.one) = true) {D : Dyn} (hD : D ∈ l) : D.t.one = true := List.all_eq_true.1 h D hD
end Go.Dc

/-! Contracts of library functions, which are proved by other means. -/
namespace Go.Dc
variable [DrawMode] {P : Program} {f : FuncId}

theorem FnOk.re {X Y : Type} {args : List RP} {Ω0 : List OB} {res : X → List RP} {Ω1 : X → List OB} {res' : Y → List RP} {Ω1' : Y → List OB} (h : FnOk P f args Ω0 res Ω1)
    (k : ∀ x F w, (∀ o ∈ Ω1 x, o.h F w) → ∃ y, res' y = res x ∧ Ω1' y = Ω1 x) : FnOk P f args Ω0 res' Ω1' := by
  intro F w vs h1 h2 h3 h4 h5 h6 h7
  refine (h F w vs h1 h2 h3 h4 h5 h6 h7).mono ?_
  rintro e w' ⟨x, v, e1, e2, e3, e4, e5, e6⟩
  obtain ⟨y, y1, y2⟩ := k x _ _ e5
  exact ⟨y, v, e1, e2, by rw [y2]; exact e3, by rw [y2]; exact e4, by rw [y2]; exact e5, by rw [y1, y2]; exact e6⟩

def updHd (η : Nat → Hd) (k : Nat) (d : Hd) : Nat → Hd := fun i => bif Nat.beq i k then d else η i

variable [PTab P]
/-- a slice of ours is used up, the result is another -/
def conW1 (t : Ty) (m : List t.den → Option (List t.den)) : Con := ⟨[.sl t], [.sl t], m, [(false, [.own 0])], [.oa 0 (.d 0 0)], [(false, [.own 1])], [.dead, .oa 1 (.d 0 0)], 1, 2⟩
/-- a slice of ours is changed in place -/
def conW2 (t : Ty) (m : List t.den → Option (List t.den)) (ps : List (Bool × List KA)) : Con := ⟨[.sl t], [.sl t], m, (false, [.own 0]) :: ps, [.oa 0 (.d 0 0)], [], [.oa 0 (.d 0 0)], 1, 1⟩
theorem conW2F_ok {t : Ty} {m : List t.den → Option (List t.den)} {g : Nat} (h : ∀ s r, m s = some r → ∀ h0 : Value × List Nat, FnOk P f [pv h0.1, pv (.func (.func g) #[] #[])] [oa t.rep h0.1 h0.2 s] (fun _ : Unit => []) (fun _ => [oa t.rep h0.1 h0.2 r])) :
    ConOk P f (conW2 t m [(false, [.fn g []])]) := fun a r har hs => by
  refine (h a r har ((hs 0).hv, (hs 0).S)).re fun x F w _ => ?_
  exact ⟨⟨hs, fun _ _ => rfl⟩, rfl, rfl⟩
/-- a copy that is ours -/
def conW3 (t : Ty) (m : List t.den → Option (List t.den)) : Con := ⟨[.sl t], [.sl t], m, [(false, [.d 0 0])], [], [(false, [.own 0])], [.oa 0 (.d 0 0)], 0, 1⟩
theorem conW3_ok {t : Ty} {m : List t.den → Option (List t.den)} (h : ∀ s r, m s = some r → FnOk P f [slv t.rep s] [] (fun x : Value × List Nat => [pv x.1]) (fun x => [oa t.rep x.1 x.2 r])) :
    ConOk P f (conW3 t m) := fun a r har hs => by
  refine (h a r har).re fun x F w hx => ?_
  have h1 : x.1.oneCell' = true := oa_one (hx (oa t.rep x.1 x.2 r) (List.mem_singleton.2 rfl))
  refine ⟨⟨updHd hs 0 ⟨x.1, x.2, 0, h1⟩, fun i hi => ?_⟩, rfl, rfl⟩
  have : i < 0 := hi
  omega
end Go.Dc

/-! Functions that call themselves. -/
namespace Go.Dc

open Classical in
/-- what some depth gives -/
noncomputable def limM {A B : Type} (m : Nat → A → Option B) (a : A) : Option B := if h : ∃ n r, m n a = some r then some h.choose_spec.choose else none
theorem limM_at {A B : Type} {m : Nat → A → Option B} {a : A} {r : B} (h : limM m a = some r) : ∃ n, m n a = some r := by
  unfold limM at h
  split at h
  · rename_i h1
    cases h
    exact ⟨_, h1.choose_spec.choose_spec⟩
  · cases h
theorem limM_some {A B : Type} {m : Nat → A → Option B} {a : A} {n : Nat} {r : B} (h : m n a = some r) : ∃ r', limM m a = some r' := by
  unfold limM
  rw [dif_pos ⟨n, r, h⟩]
  exact ⟨_, rfl⟩
/-- models that agree once they are defined -/
def Mono {A B : Type} (m : Nat → A → Option B) : Prop := ∀ n a r, m n a = some r → m (n + 1) a = some r
theorem Mono.le {A B : Type} {m : Nat → A → Option B} (h : Mono m) {a : A} {r : B} {n : Nat} (h1 : m n a = some r) : ∀ k, n ≤ k → m k a = some r
  | 0, hk => by obtain rfl : n = 0 := by omega
                exact h1
  | k + 1, hk => by
    by_cases e : n = k + 1
    · subst e; exact h1
    · exact h _ _ _ (h.le h1 k (by omega))
theorem limM_iff {A B : Type} {m : Nat → A → Option B} (h : Mono m) {a : A} {r : B} : limM m a = some r ↔ ∃ n, m n a = some r := by
  refine ⟨limM_at, fun ⟨n, hn⟩ => ?_⟩
  obtain ⟨r', h'⟩ := limM_some hn
  obtain ⟨k, hk⟩ := limM_at h'
  have h1 := h.le hn (max n k) (Nat.le_max_left _ _)
  have h2 := h.le hk (max n k) (Nat.le_max_right _ _)
  rw [h1] at h2; cases h2; exact h'

def Con.with [SDen] (C : Con) (m : Tup C.ins → Option (Tup C.outs)) : Con := ⟨C.ins, C.outs, m, C.ps, C.os, C.rs, C.os', C.nh, C.nh'⟩
variable [DrawMode] {P : Program} {f : FuncId} [PTab P]
theorem conFn_none {C : Con} (hc : ∀ args w, (callFunc f args).run P w = .ok (.enter f args) w) : ConFn P f (C.with fun _ => none) := ⟨hc, fun a r h => by cases h⟩
theorem conFn_lim {C : Con} {m : Nat → Tup C.ins → Option (Tup C.outs)} (h : ∀ n, ConFn P f (C.with (m n))) : ConFn P f (C.with (limM m)) :=
  ⟨(h 0).call, fun a r har => by
    obtain ⟨n, hn⟩ := limM_at (show limM m a = some r from har)
    exact (h n).ok a r hn⟩
theorem conFn_rec {C : Con} {m : Nat → Tup C.ins → Option (Tup C.outs)} (hc : ∀ args w, (callFunc f args).run P w = .ok (.enter f args) w) (h0 : m 0 = fun _ => none) (h : ∀ n, ConFn P f (C.with (m n)) → ConFn P f (C.with (m (n + 1)))) : ConFn P f (C.with (limM m)) :=
  conFn_lim fun n => by
    induction n with
    | zero => rw [h0]; exact conFn_none hc
    | succ n ih => exact h n ih
end Go.Dc

/-! From the tables that a row lists to what a walk knows of them. -/
namespace Go.Dc
variable {P : Program}
theorem tinv_tab {W : World} {name : String} {k : IntKind} {zs : List Int} {g : Nat} (h : Lib.TabIs P W name k zs) (hg : P.globalNamed name = some g) :
    ∃ ty fz, W.heap[g]? = some (.cells (zs.map fun z => Value.int k z).toArray ty fz) := by
  unfold Lib.TabIs World.var? at h
  rw [hg] at h
  have h' : (match W.heap[g]? with | some (.cells cs _ _) => some cs | _ => none) = some (zs.map fun z => Value.int k z).toArray := h
  split at h'
  · rename_i cs ty fz e
    cases h'
    exact ⟨ty, fz, e⟩
  · cases h'
theorem laidMet_tail {x : String × DataW Unit} {l : List (String × DataW Unit)} {W : World} (h : laidMet P (x :: l) W) : laidMet P l W := by
  obtain ⟨ps, hv, hn, hr⟩ := h
  obtain ⟨n, d⟩ := x
  obtain ⟨g, t, cs, fuel, p, q, h1, h2, h3, h4, h5, h6⟩ := hv
  subst h6
  exact ⟨q, h5, (List.nodup_append.1 hn).2.1, fun b off hm => hr b off (List.mem_append_right _ hm)⟩
end Go.Dc

/-! slices.SortFunc of elements of several cells, under a function that compares. -/
namespace Go.Dc
open Go.Proofs Go.RowKit Go.Sort Go.Shelf Go.Lib
variable {P : Program} {α : Type} [Inhabited α]

theorem cell_of_blockL {w : World} {b o : Nat} {cells : Array Value} {ty : TypeId} {fz : Nat × Nat} (h : w.heap[b]? = some (.cells cells ty fz)) : w.cell? ⟨b, o, none⟩ = cells[o]? := by
  simp [World.cell?, h]
theorem unfrozen_of_blockL {w : World} {b o : Nat} {cells : Array Value} {ty : TypeId} (h : w.heap[b]? = some (.cells cells ty (0, 0))) : w.frozen? ⟨b, o, none⟩ = false := by
  simp [World.frozen?, h]

/-- what stays of a world in which only blocks were added -/
theorem kept_grow {w w' : World} (h : Kept [] w w') : ∃ q os, w' = grow (w.drewN q) os := by
  refine ⟨w'.drawn - w.drawn, w'.heap.extract w.heap.size w'.heap.size, ?_⟩
  have hh : w'.heap = w.heap ++ w'.heap.extract w.heap.size w'.heap.size := by
    have hs := h.size
    apply Array.ext_getElem?
    intro i
    by_cases e : i < w.heap.size
    · rw [Array.getElem?_append_left e, h.blk i e (by simp)]
    · rw [Array.getElem?_append_right (by omega), Array.getElem?_extract]
      by_cases e2 : i < w'.heap.size
      · rw [if_pos (by omega), show w.heap.size + (i - w.heap.size) = i by omega]
      · rw [Array.getElem?_eq_none (by omega)]
        split
        · rw [Array.getElem?_eq_none (by omega)]
        · rfl
  have hd := h.drawn trivial
  obtain ⟨heap, tape, drawn, os, output⟩ := w
  obtain ⟨heap', tape', drawn', os', output'⟩ := w'
  have h1 := h.os; have h2 := h.tape; have h3 := h.output
  dsimp only at h1 h2 h3 hh hd ⊢
  subst h1; subst h2; subst h3
  unfold grow World.drewN
  simp only [World.mk.injEq, true_and, and_true]
  exact ⟨hh, by omega⟩

/-- elements whose cells are fixed by their value -/
structure EncT {α : Type} (ρ : Rep α) (enc : α → List Value) (k : Nat) : Prop where
  size : ρ.size = k
  pos : 0 < k
  agg : ρ.agg = true
  len : ∀ x, (enc x).length = k
  one : ∀ x, ∀ v ∈ enc x, v.oneCell' = true
  to : ∀ (x : α) (F : FP) (w : World) (cs : List Value), AllP F w (ρ.cp x) cs → cs = enc x
  of : ∀ (x : α) (F : FP) (w : World), AllP F w (ρ.cp x) (enc x)

/-- a function that compares: total, a strict weak order that parts whatever two that are not one -/
def cfo (m : α → α → Option Int) (x y : α) : Int := (m x y).getD 0
structure CmpOk (m : α → α → Option Int) : Prop where
  tot : ∀ x y, m x y = some (cfo m x y)
  swo : SWO (ltOf (cfo m))
  sep : ∀ x y, ltOf (cfo m) x y = false → ltOf (cfo m) y x = false → x = y
def sortL (m : α → α → Option Int) (l : List α) : List α := l.mergeSort fun x y => !(ltOf (cfo m)) y x
open Classical in
noncomputable def sortFM (m : α → α → Option Int) (l : List α) : Option (List α) := if l.length ≤ 1000000000000 ∧ CmpOk m then some (sortL m l) else none
omit [Inhabited α] in
theorem sortL_len {m : α → α → Option Int} {l : List α} : (sortL m l).length = l.length := by simp [sortL]

omit [Inhabited α] in
theorem slH_enc {ρ : Rep α} {enc : α → List Value} {k : Nat} (hE : EncT ρ enc k) {F : FP} {w : World} {cells : Array Value} {off : Nat} {d : List α} :
    SlH ρ F w cells off d ↔ ∀ i (hi : i < d.length), ∀ j, j < k → cells[off + i * k + j]? = (enc d[i])[j]? := by
  constructor
  · intro h i hi j hj
    obtain ⟨es, h1, h2⟩ := h i hi
    have := h2 j (by rw [hE.size]; exact hj)
    rw [hE.size] at this
    rw [this, hE.to _ _ _ _ h1]
  · intro h i hi
    refine ⟨enc d[i], hE.of _ _ _, fun j hj => ?_⟩
    rw [hE.size] at hj ⊢
    exact h i hi j hj

/-- a contract that tells of the draws too -/
abbrev FnOkS {X : Type} (P : Program) (f : FuncId) (args : List RP) (Ω0 : List OB) (res : X → List RP) (Ω1 : X → List OB) : Prop := FnOk P f args Ω0 res Ω1
/-- slices.SortFunc of a slice of structs that is ours -/
theorem sort_fnF [DrawMode] {ρ : Rep α} {enc : α → List Value} {k : Nat} (hE : EncT ρ enc k) {fS fC : Nat} {m : α → α → Option Int} {X : Type}
    (hfC : ∀ x y r, m x y = some r → FnOkS P fC [sh ρ x, sh ρ y] [] (fun _ : X => [iv .i64 r]) (fun _ => []))
    (hC : ∀ (hO : SWO (ltOf (cfo m))) (blk off cap : Nat) (d : Array α) (w : World), CmpLays P fC #[] enc k (cfo m) blk off d.size w → HoldsK enc k w blk off d → blk < w.heap.size → d.size < 4611686018427387904 →
      (∀ x y, (ltOf (cfo m)) x y = false → (ltOf (cfo m)) y x = false → x = y) →
      Calls P fS #[.slice (some ⟨blk, off, none⟩) d.size cap, .func (.func fC) #[] #[]] w fun e w' => e = .returned (.tuple #[]) ∧ ∃ n os, w' = sortWorldK enc k w blk off n (d.toList.mergeSort fun x y => !(ltOf (cfo m)) y x).toArray os)
    (hN : ∀ (p : Option Addr) (cap : Nat) (fv : Value) (w : World), Calls P fS #[.slice p 0 cap, fv] w fun e w' => e = .returned (.tuple #[]) ∧ w' = w)
    {l r : List α} (hm : sortFM m l = some r) {h : Value × List Nat} :
    FnOk P fS [pv h.1, pv (.func (.func fC) #[] #[])] [oa ρ h.1 h.2 l] (fun _ : Unit => []) (fun _ : Unit => [oa ρ h.1 h.2 r]) := by
  intro F w vs hF hmf hbd hnd hob hargs htb
  unfold sortFM at hm
  have hl : l.length ≤ 1000000000000 ∧ CmpOk m := Classical.byContradiction fun hx => by rw [if_neg hx] at hm; cases hm
  rw [if_pos hl] at hm
  cases hm
  obtain ⟨hl, hcm⟩ := hl
  match vs, hargs with
  | [v0, v1], ⟨hv0, hv1, _⟩ =>
    have hv0' : v0 = h.1 := hv0
    have hv1' : v1 = .func (.func fC) #[] #[] := hv1
    subst hv0'; subst hv1'
    obtain ⟨hv, S⟩ := h
    obtain ⟨a, c, e1, hc, hat⟩ := hob (oa ρ hv S l) (by simp)
    simp only at e1 hat hbd ⊢
    subst e1
    have hlen : (sortL m l).length = l.length := sortL_len
    rcases hat with ⟨rfl, rfl, rfl⟩ | ⟨b, off, cells, ty, rfl, rfl, hb, hsz, hH⟩
    · have : l = [] := List.eq_nil_of_length_eq_zero (by omega)
      subst this
      refine Calls.mono (hN none 0 _ w) ?_
      rintro e' w' ⟨rfl, rfl⟩
      refine ⟨(), _, rfl, .refl _ _, by simp [ow, oa], by simp [ow, oa], fun o ho => ?_, #[], rfl, trivial⟩
      rw [List.mem_singleton.1 ho]
      exact ⟨none, 0, by simp [sortL], by simp [sortL], .inl ⟨rfl, rfl, rfl⟩⟩
    · have hI := (slH_enc hE).1 hH
      have hsz' : off + c * k ≤ cells.size := by rw [← hE.size]; exact hsz
      have hk := hE.pos
      have hHo : HoldsK enc k w b off l.toArray := fun t ht => by
        have ht' : t < l.length * k := by simpa using ht
        have hq : t / k < l.length := Nat.div_lt_of_lt_mul (by rw [Nat.mul_comm]; exact ht')
        have hr : t % k < k := Nat.mod_lt _ hk
        refine ⟨?_, unfrozen_of_blockL hb⟩
        rw [cell_of_blockL hb]
        have h1 := hI (t / k) hq (t % k) hr
        rw [show off + t / k * k + t % k = off + t by have := Nat.div_add_mod t k; rw [Nat.mul_comm] at this; omega] at h1
        rw [h1, get_flatK _ _ _ _ (by simpa using ht')]
        have e : l.toArray[t / k]! = l[t / k] := by simp [hq]
        rw [e]
        have hlt : t % k < (enc l[t / k]).length := by rw [hE.len]; exact hr
        rw [List.getElem?_eq_getElem hlt]
        simp [hlt]
      have hbl := size_of_get hb
      have hcmp : CmpLays P fC #[] enc k (cfo m) b off l.toArray.size w := fun q os dk hdk x y => by
        have hsh : ∀ x : α, (sh ρ x).h (fun _ => True) (sortWorldK enc k w b off q dk os) (.agg (enc x).toArray) := fun x => sh_iff.2 ⟨enc x, hE.of x _ _, by rw [hE.agg]; rfl⟩
        have hcl := hfC x y _ (hcm.tot x y) (fun _ => True) (sortWorldK enc k w b off q dk os) [.agg (enc x).toArray, .agg (enc y).toArray] (fun _ _ => trivial) (fun _ _ => trivial) (by simp [ow]) (by simp [ow]) (by simp)
          ⟨(sh ρ x).mono (.refl fun _ _ _ => ⟨trivial, by simp [ow]⟩) (hsh x), (sh ρ y).mono (.refl fun _ _ _ => ⟨trivial, by simp [ow]⟩) (hsh y), trivial⟩ (fun _ hx => by cases hx)
        refine Calls.mono hcl ?_
        rintro e' w' ⟨_, v, rfl, hk, _, _, _, hv⟩
        have hv' : v = .int .i64 (cfo m x y) := hv
        subst hv'
        exact ⟨rfl, kept_grow hk⟩
      have hCl := hC hcm.swo b off c l.toArray w hcmp hHo hbl (by simp; omega) hcm.sep
      rw [List.size_toArray] at hCl
      refine Calls.mono hCl ?_
      rintro e' w' ⟨rfl, q, os, rfl⟩
      have hr : (l.mergeSort fun x y => !(ltOf (cfo m)) y x) = sortL m l := rfl
      rw [List.toList_toArray, hr]
      generalize sortL m l = r at *
      have hheap : ∀ i, i < w.heap.size → (sortWorldK enc k w b off q r.toArray os).heap[i]? = if i = b then some (.cells (putCells id off (flatK enc k r.toArray) cells) ty (0, 0)) else w.heap[i]? := fun i hi => by
        unfold sortWorldK putRowK grow putRow mapBlock Sort.ahead
        simp only
        rw [Array.getElem?_append_left (by simpa using hi)]
        simp only [Array.getElem?_modify]
        by_cases e : b = i
        · subst e; rw [if_pos rfl, if_pos rfl, hb]; rfl
        · rw [if_neg e, if_neg (fun h => e h.symm)]
      have hgs : w.heap.size ≤ (sortWorldK enc k w b off q r.toArray os).heap.size := by simp [sortWorldK, putRowK, grow, putRow, mapBlock, Sort.ahead]
      refine ⟨(), _, rfl, ⟨rfl, rfl, rfl, by simp [sortWorldK, putRowK, grow, putRow, mapBlock, Sort.ahead], hgs, fun i hi hk' => ?_⟩, fun i hk' => ?_, by simp [ow, oa], fun o ho => ?_, #[], rfl, trivial⟩
      · rw [hheap i hi, if_neg (fun e => hk' (by simp [ow, oa, e]))]
      · have : i = b := by simpa [ow, oa] using hk'
        subst this
        exact ⟨by omega, .inr (by simp [ow, oa])⟩
      · rw [List.mem_singleton.1 ho]
        refine ⟨_, c, by rw [hlen], by omega, .inr ⟨b, off, _, ty, rfl, rfl, by rw [hheap b hbl, if_pos rfl], ?_, (slH_enc hE).2 fun i hi j hj => ?_⟩⟩
        · simp only [putCells, Array.size_mapIdx]; rw [hE.size]; exact hsz'
        · have hic : i * k + k ≤ c * k := by rw [← Nat.succ_mul]; exact Nat.mul_le_mul_right _ (by omega)
          have hir : i * k + j < r.length * k := by
            have : i * k + k ≤ r.length * k := by rw [← Nat.succ_mul]; exact Nat.mul_le_mul_right _ (by omega)
            omega
          have hi2 : off + i * k + j < cells.size := by omega
          simp only [putCells, Array.getElem?_mapIdx, Array.getElem?_eq_getElem hi2, Option.map_some]
          rw [if_pos (by simp; omega)]
          have e1 : off + i * k + j - off = i * k + j := by omega
          rw [e1, id, get_flatK _ _ _ _ (by simpa using hir)]
          have e2 : (i * k + j) / k = i := by rw [Nat.add_comm, Nat.add_mul_div_right _ _ hk, Nat.div_eq_of_lt hj, Nat.zero_add]
          have e3 : (i * k + j) % k = j := by rw [Nat.add_comm, Nat.add_mul_mod_self_right, Nat.mod_eq_of_lt hj]
          rw [e2, e3]
          have e4 : r.toArray[i]! = r[i] := by simp [hi]
          rw [e4]
          have hlt : j < (enc r[i]).length := by rw [hE.len]; exact hj
          rw [List.getElem?_eq_getElem hlt]
          simp [hlt]
end Go.Dc

/-! slices.SortFunc of integers, under a function that compares. -/
namespace Go.Dc
open Go.Proofs Go.RowKit Go.Sort Go.Shelf Go.Lib
variable {P : Program}
def encI (x : Int) : Value := .int .i64 x
end Go.Dc

/-! slices.SortFunc of a slice of slices, under a function that compares what they hold. -/
namespace Go.Dc
open Go.Proofs Go.RowKit Go.Sort Go.Shelf Go.Lib
variable {P : Program} {τ : Type}

/-- a comparing function that parts the elements of a list, wherever they stand -/
structure CmpOn (m : τ → τ → Option Int) (l : List τ) : Prop where
  tot : ∀ x ∈ l, ∀ y ∈ l, m x y = some (cfo m x y)
  swo : SWO (ltOf fun i j : Fin l.length => cfo m l[i] l[j])
  sep : ∀ i j : Fin l.length, (ltOf fun i j : Fin l.length => cfo m l[i] l[j]) i j = false → (ltOf fun i j : Fin l.length => cfo m l[i] l[j]) j i = false → i = j
open Classical in
noncomputable def sortNM (m : τ → τ → Option Int) (l : List τ) : Option (List τ) := if l.length ≤ 1000000000000 ∧ CmpOn m l then some (sortL m l) else none

theorem fin_map {l : List τ} : (List.finRange l.length).map (fun i => l[i]) = l := by
  refine List.ext_getElem (by simp) fun i h1 h2 => ?_
  simp
theorem sort_fin {m : τ → τ → Option Int} {l : List τ} : ((List.finRange l.length).mergeSort fun i j => !(ltOf fun i j : Fin l.length => cfo m l[i] l[j]) j i).map (fun i => l[i]) = sortL m l := by
  have h := List.map_mergeSort (l := List.finRange l.length) (f := fun i : Fin l.length => l[i]) (r := fun i j => !(ltOf fun i j : Fin l.length => cfo m l[i] l[j]) j i) (s := fun x y => !(ltOf (cfo m)) y x) (fun a _ b _ => rfl)
  rw [h, fin_map]; rfl

theorem sort_fnN [DrawMode] {ρ : Rep τ} (hone : ρ.size = 1) (hagg : ρ.agg = false) {fS fC : Nat} {m : τ → τ → Option Int} {X : Type}
    (hfC : ∀ x y r, m x y = some r → FnOkS P fC [sh ρ x, sh ρ y] [] (fun _ : X => [iv .i64 r]) (fun _ => []))
    (hC : ∀ {α : Type} [Inhabited α] (enc : α → Value) (h1 : OneCell enc) (cf : α → α → Int) (hO : SWO (ltOf cf)) (blk off cap : Nat) (d : Array α) (w : World), CmpLays1 P fC #[] enc cf blk off d.size w → Holds enc w blk off d → blk < w.heap.size → d.size < 4611686018427387904 →
      (∀ x y, (ltOf cf) x y = false → (ltOf cf) y x = false → x = y) →
      Calls P fS #[.slice (some ⟨blk, off, none⟩) d.size cap, .func (.func fC) #[] #[]] w fun e w' => e = .returned (.tuple #[]) ∧ ∃ n os, w' = sortWorld enc w blk off n (d.toList.mergeSort fun x y => !(ltOf cf) y x).toArray os)
    (hN : ∀ (p : Option Addr) (cap : Nat) (fv : Value) (w : World), Calls P fS #[.slice p 0 cap, fv] w fun e w' => e = .returned (.tuple #[]) ∧ w' = w)
    {l r : List τ} (hm : sortNM m l = some r) {h : Value × List Nat} :
    FnOk P fS [pv h.1, pv (.func (.func fC) #[] #[])] [oa ρ h.1 h.2 l] (fun _ : Unit => []) (fun _ : Unit => [oa ρ h.1 h.2 r]) := by
  intro F w vs hF hmf hbd hnd hob hargs htb
  unfold sortNM at hm
  have hl : l.length ≤ 1000000000000 ∧ CmpOn m l := Classical.byContradiction fun hx => by rw [if_neg hx] at hm; cases hm
  rw [if_pos hl] at hm
  cases hm
  obtain ⟨hl, hcm⟩ := hl
  match vs, hargs with
  | [v0, v1], ⟨hv0, hv1, _⟩ =>
    have hv0' : v0 = h.1 := hv0
    have hv1' : v1 = .func (.func fC) #[] #[] := hv1
    subst hv0'; subst hv1'
    obtain ⟨hv, S⟩ := h
    have hob0 := hob (oa ρ hv S l) (by simp)
    obtain ⟨a, c, e1, hc, hat⟩ := hob0
    simp only at e1 hat hbd ⊢
    subst e1
    have hlen : (sortL m l).length = l.length := sortL_len
    by_cases hnil : l = []
    · subst hnil
      refine Calls.mono (hN a c _ w) ?_
      rintro e' w' ⟨rfl, rfl⟩
      have hs0 : sortL m ([] : List τ) = [] := by simp [sortL]
      rw [hs0]
      exact ⟨(), _, rfl, .refl _ _, fun q hq => ⟨hbd q hq, .inr hq⟩, by simpa using hnd, fun o ho => by rw [List.mem_singleton.1 ho]; exact hob (oa ρ _ S []) (by simp), #[], rfl, trivial⟩
    have hpos : 0 < l.length := Nat.pos_of_ne_zero fun e => hnil (List.eq_nil_of_length_eq_zero e)
    rcases hat with ⟨e0, e2, e3⟩ | ⟨b, off, cells, ty, rfl, rfl, hb, hsz, hH⟩
    · exact absurd e2 (by omega)
    · haveI : Inhabited (Fin l.length) := ⟨⟨0, hpos⟩⟩
      have hS : ow [oa ρ (.slice (some ⟨b, off, none⟩) l.length c) [b] l] = [b] := by simp [ow, oa]
      have hex : ∀ i : Fin l.length, ∃ v : Value, cells[off + i.val]? = some v ∧ AllP (fun x => F x ∧ x ∉ ow [oa ρ (.slice (some ⟨b, off, none⟩) l.length c) [b] l]) w (ρ.cp l[i]) [v] := fun i => by
        obtain ⟨es, h1, h2⟩ := hH i.val i.isLt
        have hle := h1.length
        rw [ρ.len, hone] at hle
        obtain ⟨v, rfl⟩ := List.length_eq_one_iff.1 hle
        have h3 := h2 0 (by rw [hone]; exact Nat.one_pos)
        rw [hone, Nat.mul_one, Nat.add_zero] at h3
        exact ⟨v, h3, h1⟩
      obtain ⟨enc, henc⟩ : ∃ enc : Fin l.length → Value, ∀ i, cells[off + i.val]? = some (enc i) ∧ AllP (fun x => F x ∧ x ∉ ow [oa ρ (.slice (some ⟨b, off, none⟩) l.length c) [b] l]) w (ρ.cp l[i]) [enc i] :=
        ⟨fun i => (hex i).choose, fun i => (hex i).choose_spec⟩
      have h1c : OneCell enc := fun i => (henc i).2.atoms (ρ.at_ _) _ (by simp)
      have hsz' : off + c ≤ cells.size := by have := hsz; rw [hone, Nat.mul_one] at this; exact this
      have hbl := size_of_get hb
      have hHo : Holds enc w b off (List.finRange l.length).toArray := fun t ht => by
        have ht' : t < l.length := by simpa using ht
        refine ⟨?_, unfrozen_of_blockL hb⟩
        have e : (List.finRange l.length).toArray[t]! = ⟨t, ht'⟩ := by simp [ht']
        rw [cell_of_blockL hb, e]
        exact (henc ⟨t, ht'⟩).1
      have hheap : ∀ (q : Nat) (dk : Array (Fin l.length)) (os : Array Obj) i, i < w.heap.size → (sortWorld enc w b off q dk os).heap[i]? = if i = b then some (.cells (putCells enc off dk cells) ty (0, 0)) else w.heap[i]? := fun q dk os i hi => by
        unfold sortWorld grow putRow mapBlock Sort.ahead
        simp only
        rw [Array.getElem?_append_left (by simpa using hi)]
        simp only [Array.getElem?_modify]
        by_cases e : b = i
        · subst e; rw [if_pos rfl, if_pos rfl, hb]; rfl
        · rw [if_neg e, if_neg (fun h => e h.symm)]
      have hgs : ∀ (q : Nat) (dk : Array (Fin l.length)) (os : Array Obj), w.heap.size ≤ (sortWorld enc w b off q dk os).heap.size := fun q dk os => by simp [sortWorld, grow, putRow, mapBlock, Sort.ahead]
      have hcmp : CmpLays1 P fC #[] enc (fun i j : Fin l.length => cfo m l[i] l[j]) b off (List.finRange l.length).toArray.size w := fun q os dk hdk x y => by
        have hag : Ag (fun x => F x ∧ x ∉ ow [oa ρ (.slice (some ⟨b, off, none⟩) l.length c) [b] l]) (fun x => (fun x => (F x ∧ x ≠ b) ∨ (sortWorld enc w b off q dk os).heap.size ≤ x) x ∧ x ∉ ow ([] : List OB)) w (sortWorld enc w b off q dk os) :=
          ⟨fun z hz hf => ⟨.inl ⟨hf.1, fun e => hf.2 (by rw [hS, e]; simp)⟩, by simp [ow]⟩, fun z hz hf => by rw [hheap q dk os z hz, if_neg fun e => hf.2 (by rw [hS, e]; simp)]⟩
        have hsh : ∀ i : Fin l.length, (sh ρ l[i]).h (fun x => (fun x => (F x ∧ x ≠ b) ∨ (sortWorld enc w b off q dk os).heap.size ≤ x) x ∧ x ∉ ow ([] : List OB)) (sortWorld enc w b off q dk os) (enc i) := fun i => sh_iff.2 ⟨[enc i], (henc i).2.mono hag, by rw [hagg]; rfl⟩
        have hcl := hfC l[x] l[y] _ (hcm.tot _ (List.getElem_mem _) _ (List.getElem_mem _)) (fun x => (F x ∧ x ≠ b) ∨ (sortWorld enc w b off q dk os).heap.size ≤ x) (sortWorld enc w b off q dk os) [enc x, enc y] (fun _ h => .inr h) (by simp [ow]) (by simp [ow]) (by simp [ow]) (by simp)
          ⟨hsh x, hsh y, trivial⟩ (fun _ hx => by cases hx)
        refine Calls.mono hcl ?_
        rintro e' w' ⟨_, v, rfl, hk, _, _, _, hv⟩
        have hv' : v = .int .i64 (cfo m l[x] l[y]) := hv
        subst hv'
        exact ⟨rfl, kept_grow hk⟩
      have hCl := hC enc h1c (fun i j : Fin l.length => cfo m l[i] l[j]) hcm.swo b off c (List.finRange l.length).toArray w hcmp hHo hbl (by simp; omega) hcm.sep
      rw [show (List.finRange l.length).toArray.size = l.length by simp] at hCl
      refine Calls.mono hCl ?_
      rintro e' w' ⟨rfl, q, os, rfl⟩
      have hr := sort_fin (m := m) (l := l)
      rw [List.toList_toArray]
      generalize ((List.finRange l.length).mergeSort fun x y => !(ltOf fun i j : Fin l.length => cfo m l[i] l[j]) y x) = rs at *
      have hrl : rs.length = l.length := by have h9 := congrArg List.length hr; rw [List.length_map] at h9; exact h9.trans hlen
      refine ⟨(), _, rfl, ⟨rfl, rfl, rfl, by simp [sortWorld, grow, putRow, mapBlock, Sort.ahead], hgs _ _ _, fun i hi hk' => ?_⟩, fun i hk' => ?_, by simp [ow, oa], fun o ho => ?_, #[], rfl, trivial⟩
      · rw [hheap _ _ _ i hi, if_neg (fun e => hk' (by rw [hS, e]; simp))]
      · have : i = b := by simpa [ow, oa] using hk'
        subst this
        exact ⟨Nat.lt_of_lt_of_le hbl (hgs _ _ _), .inr (by simp [ow, oa])⟩
      · rw [List.mem_singleton.1 ho]
        refine ⟨_, c, by rw [hlen], by omega, .inr ⟨b, off, _, ty, rfl, rfl, by rw [hheap _ _ _ b hbl, if_pos rfl], ?_, fun i hi => ?_⟩⟩
        · simp only [putCells, Array.size_mapIdx]; exact hsz
        · have hi2 : i < rs.length := by omega
          have hag : Ag (fun x => F x ∧ x ∉ ow [oa ρ (.slice (some ⟨b, off, none⟩) l.length c) [b] l]) (fun x => F x ∧ x ∉ ow [oa ρ (.slice (some ⟨b, off, none⟩) l.length c) [b] (sortL m l)]) w (sortWorld enc w b off q rs.toArray os) :=
            ⟨fun z hz hf => ⟨hf.1, fun hm => hf.2 (by simpa [ow, oa] using hm)⟩, fun z hz hf => by rw [hheap q _ os z hz, if_neg fun e => hf.2 (by rw [hS, e]; simp)]⟩
          have e5 : (sortL m l)[i] = l[rs[i]] := by
            have : (sortL m l)[i]? = some l[rs[i]] := by rw [← hr, List.getElem?_map, List.getElem?_eq_getElem hi2]; rfl
            rw [List.getElem?_eq_getElem hi] at this
            exact Option.some.inj this
          refine ⟨[enc rs[i]], by rw [e5]; exact (henc rs[i]).2.mono hag, fun j hj => ?_⟩
          have : j = 0 := by rw [hone] at hj; omega
          subst this
          rw [hone, Nat.mul_one, Nat.add_zero]
          have hi3 : off + i < cells.size := by omega
          simp only [putCells, Array.getElem?_mapIdx, Array.getElem?_eq_getElem hi3, Option.map_some]
          rw [if_pos (by simp; omega)]
          have e1 : off + i - off = i := by omega
          rw [e1]
          have e4 : rs.toArray[i]! = rs[i] := by simp [hi2]
          rw [e4]; rfl
end Go.Dc

/-! slices.SortFunc of flat structs under a function that parts the elements of the list. -/
namespace Go.Dc
open Go.Proofs Go.RowKit Go.Sort Go.Shelf Go.Lib
variable {P : Program} {α : Type} [Inhabited α]
theorem sort_fnQ [DrawMode] {ρ : Rep α} {enc : α → List Value} {k : Nat} (hE : EncT ρ enc k) {fS fC : Nat} {m : α → α → Option Int} {X : Type}
    (hfC : ∀ x y r, m x y = some r → FnOkS P fC [sh ρ x, sh ρ y] [] (fun _ : X => [iv .i64 r]) (fun _ => []))
    (hC : ∀ {β : Type} [Inhabited β] (enc : β → List Value) (hk : ∀ x, (enc x).length = k) (h1 : ∀ x, ∀ v ∈ enc x, v.oneCell' = true) (cf : β → β → Int) (hO : SWO (ltOf cf)) (blk off cap : Nat) (d : Array β) (w : World), CmpLays P fC #[] enc k cf blk off d.size w → HoldsK enc k w blk off d → blk < w.heap.size → d.size < 4611686018427387904 →
      (∀ x y, (ltOf cf) x y = false → (ltOf cf) y x = false → x = y) →
      Calls P fS #[.slice (some ⟨blk, off, none⟩) d.size cap, .func (.func fC) #[] #[]] w fun e w' => e = .returned (.tuple #[]) ∧ ∃ n os, w' = sortWorldK enc k w blk off n (d.toList.mergeSort fun x y => !(ltOf cf) y x).toArray os)
    (hN : ∀ (p : Option Addr) (cap : Nat) (fv : Value) (w : World), Calls P fS #[.slice p 0 cap, fv] w fun e w' => e = .returned (.tuple #[]) ∧ w' = w)
    {l r : List α} (hm : sortNM m l = some r) {h : Value × List Nat} :
    FnOk P fS [pv h.1, pv (.func (.func fC) #[] #[])] [oa ρ h.1 h.2 l] (fun _ : Unit => []) (fun _ : Unit => [oa ρ h.1 h.2 r]) := by
  intro F w vs hF hmf hbd hnd hob hargs htb
  unfold sortNM at hm
  have hl : l.length ≤ 1000000000000 ∧ CmpOn m l := Classical.byContradiction fun hx => by rw [if_neg hx] at hm; cases hm
  rw [if_pos hl] at hm
  cases hm
  obtain ⟨hl, hcm⟩ := hl
  match vs, hargs with
  | [v0, v1], ⟨hv0, hv1, _⟩ =>
    have hv0' : v0 = h.1 := hv0
    have hv1' : v1 = .func (.func fC) #[] #[] := hv1
    subst hv0'; subst hv1'
    obtain ⟨hv, S⟩ := h
    obtain ⟨a, c, e1, hc, hat⟩ := hob (oa ρ hv S l) (by simp)
    simp only at e1 hat hbd ⊢
    subst e1
    have hlen : (sortL m l).length = l.length := sortL_len
    by_cases hnil : l = []
    · subst hnil
      refine Calls.mono (hN a c _ w) ?_
      rintro e' w' ⟨rfl, rfl⟩
      have hs0 : sortL m ([] : List α) = [] := by simp [sortL]
      rw [hs0]
      exact ⟨(), _, rfl, .refl _ _, fun q hq => ⟨hbd q hq, .inr hq⟩, by simpa using hnd, fun o ho => by rw [List.mem_singleton.1 ho]; exact hob (oa ρ _ S []) (by simp), #[], rfl, trivial⟩
    have hpos : 0 < l.length := Nat.pos_of_ne_zero fun e => hnil (List.eq_nil_of_length_eq_zero e)
    haveI : Inhabited (Fin l.length) := ⟨⟨0, hpos⟩⟩
    rcases hat with ⟨rfl, rfl, rfl⟩ | ⟨b, off, cells, ty, rfl, rfl, hb, hsz, hH⟩
    · have : l = [] := List.eq_nil_of_length_eq_zero (by omega)
      subst this
      refine Calls.mono (hN none 0 _ w) ?_
      rintro e' w' ⟨rfl, rfl⟩
      refine ⟨(), _, rfl, .refl _ _, by simp [ow, oa], by simp [ow, oa], fun o ho => ?_, #[], rfl, trivial⟩
      rw [List.mem_singleton.1 ho]
      exact ⟨none, 0, by simp [sortL], by simp [sortL], .inl ⟨rfl, rfl, rfl⟩⟩
    · have hI := (slH_enc hE).1 hH
      have hsz' : off + c * k ≤ cells.size := by rw [← hE.size]; exact hsz
      have hk := hE.pos
      let enc' : Fin l.length → List Value := fun i => enc l[i]
      have hlen' : ∀ x, (enc' x).length = k := fun x => hE.len _
      have hHo : HoldsK enc' k w b off (List.finRange l.length).toArray := fun t ht => by
        have ht' : t < l.length * k := by simpa using ht
        have hq : t / k < l.length := Nat.div_lt_of_lt_mul (by rw [Nat.mul_comm]; exact ht')
        have hr : t % k < k := Nat.mod_lt _ hk
        refine ⟨?_, unfrozen_of_blockL hb⟩
        rw [cell_of_blockL hb]
        have h1 := hI (t / k) hq (t % k) hr
        rw [show off + t / k * k + t % k = off + t by have := Nat.div_add_mod t k; rw [Nat.mul_comm] at this; omega] at h1
        rw [h1, get_flatK _ _ _ _ (by simpa using ht')]
        have e : (List.finRange l.length).toArray[t / k]! = ⟨t / k, hq⟩ := by simp [hq]
        rw [e]
        show (enc l[t / k])[t % k]? = _
        have hlt : t % k < (enc l[t / k]).length := by rw [hE.len]; exact hr
        rw [List.getElem?_eq_getElem hlt]
        simp [enc', hlt]
      have hbl := size_of_get hb
      have hcmp : CmpLays P fC #[] enc' k (fun i j : Fin l.length => cfo m l[i] l[j]) b off (List.finRange l.length).toArray.size w := fun q os dk hdk x y => by
        have hsh : ∀ x : α, (sh ρ x).h (fun _ => True) (sortWorldK enc' k w b off q dk os) (.agg (enc x).toArray) := fun x => sh_iff.2 ⟨enc x, hE.of x _ _, by rw [hE.agg]; rfl⟩
        have hcl := hfC l[x] l[y] _ (hcm.tot _ (List.getElem_mem _) _ (List.getElem_mem _)) (fun _ => True) (sortWorldK enc' k w b off q dk os) [.agg (enc l[x]).toArray, .agg (enc l[y]).toArray] (fun _ _ => trivial) (fun _ _ => trivial) (by simp [ow]) (by simp [ow]) (by simp)
          ⟨(sh ρ l[x]).mono (.refl fun _ _ _ => ⟨trivial, by simp [ow]⟩) (hsh l[x]), (sh ρ l[y]).mono (.refl fun _ _ _ => ⟨trivial, by simp [ow]⟩) (hsh l[y]), trivial⟩ (fun _ hx => by cases hx)
        refine Calls.mono hcl ?_
        rintro e' w' ⟨_, v, rfl, hk, _, _, _, hv⟩
        have hv' : v = .int .i64 (cfo m l[x] l[y]) := hv
        subst hv'
        exact ⟨rfl, kept_grow hk⟩
      have hCl := hC enc' hlen' (fun x => hE.one _) (fun i j : Fin l.length => cfo m l[i] l[j]) hcm.swo b off c (List.finRange l.length).toArray w hcmp hHo hbl (by simp; omega) hcm.sep
      rw [show (List.finRange l.length).toArray.size = l.length by simp] at hCl
      refine Calls.mono hCl ?_
      rintro e' w' ⟨rfl, q, os, rfl⟩
      have hr := sort_fin (m := m) (l := l)
      rw [List.toList_toArray]
      generalize ((List.finRange l.length).mergeSort fun x y => !(ltOf fun i j : Fin l.length => cfo m l[i] l[j]) y x) = r at *
      have hrl : r.length = l.length := by have h9 := congrArg List.length hr; rw [List.length_map] at h9; exact h9.trans hlen
      have hheap : ∀ i, i < w.heap.size → (sortWorldK enc' k w b off q r.toArray os).heap[i]? = if i = b then some (.cells (putCells id off (flatK enc' k r.toArray) cells) ty (0, 0)) else w.heap[i]? := fun i hi => by
        unfold sortWorldK putRowK grow putRow mapBlock Sort.ahead
        simp only
        rw [Array.getElem?_append_left (by simpa using hi)]
        simp only [Array.getElem?_modify]
        by_cases e : b = i
        · subst e; rw [if_pos rfl, if_pos rfl, hb]; rfl
        · rw [if_neg e, if_neg (fun h => e h.symm)]
      have hgs : w.heap.size ≤ (sortWorldK enc' k w b off q r.toArray os).heap.size := by simp [sortWorldK, putRowK, grow, putRow, mapBlock, Sort.ahead]
      refine ⟨(), _, rfl, ⟨rfl, rfl, rfl, by simp [sortWorldK, putRowK, grow, putRow, mapBlock, Sort.ahead], hgs, fun i hi hk' => ?_⟩, fun i hk' => ?_, by simp [ow, oa], fun o ho => ?_, #[], rfl, trivial⟩
      · rw [hheap i hi, if_neg (fun e => hk' (by simp [ow, oa, e]))]
      · have : i = b := by simpa [ow, oa] using hk'
        subst this
        exact ⟨by omega, .inr (by simp [ow, oa])⟩
      · rw [List.mem_singleton.1 ho]
        refine ⟨_, c, by rw [hlen], by omega, .inr ⟨b, off, _, ty, rfl, rfl, by rw [hheap b hbl, if_pos rfl], ?_, (slH_enc hE).2 fun i hi j hj => ?_⟩⟩
        · simp only [putCells, Array.size_mapIdx]; rw [hE.size]; exact hsz'
        · have hic : i * k + k ≤ c * k := by rw [← Nat.succ_mul]; exact Nat.mul_le_mul_right _ (by omega)
          have hir : i * k + j < r.length * k := by
            have : i * k + k ≤ r.length * k := by rw [← Nat.succ_mul]; exact Nat.mul_le_mul_right _ (by omega)
            omega
          have hi2 : off + i * k + j < cells.size := by omega
          simp only [putCells, Array.getElem?_mapIdx, Array.getElem?_eq_getElem hi2, Option.map_some]
          rw [if_pos (by simp; omega)]
          have e1 : off + i * k + j - off = i * k + j := by omega
          rw [e1, id, get_flatK _ _ _ _ (by simpa using hir)]
          have e2 : (i * k + j) / k = i := by rw [Nat.add_comm, Nat.add_mul_div_right _ _ hk, Nat.div_eq_of_lt hj, Nat.zero_add]
          have e3 : (i * k + j) % k = j := by rw [Nat.add_comm, Nat.add_mul_mod_self_right, Nat.mod_eq_of_lt hj]
          rw [e2, e3]
          have hir2 : i < r.length := by omega
          have e4 : r.toArray[i]! = r[i] := by simp [hir2]
          rw [e4]
          have e5 : (sortL m l)[i] = l[r[i]] := by
            have : (sortL m l)[i]? = some l[r[i]] := by rw [← hr, List.getElem?_map, List.getElem?_eq_getElem hir2]; rfl
            rw [List.getElem?_eq_getElem hi] at this
            exact Option.some.inj this
          rw [e5]
          show some ((enc l[r[i]])[j]!) = _
          have hlt : j < (enc l[r[i]]).length := by rw [hE.len]; exact hj
          rw [List.getElem?_eq_getElem hlt, getElem!_pos (enc l[r[i]]) j hlt]
end Go.Dc

/-! A comparing function's contract, for slices.SortFunc (the count of draws does not fall). -/
namespace Go.Dc
variable {P : Program} {f : FuncId} [PTab P]
theorem conCmp {t : Ty} {m : t.den → t.den → Option Int} {ps : List (Bool × List KA)} {X Y : RP} {x y : t.den} {r : Int}
    (h : ConFn P f ⟨[t, t], [.int .i64], fun a => m a.1 a.2, ps, [], [(false, [.d 0 0])], [], 0, 0⟩) (hm : m x y = some r)
    (he : ∀ hs, Con.args (P := P) ⟨[t, t], [.int .i64], fun a => m a.1 a.2, ps, [], [(false, [.d 0 0])], [], 0, 0⟩ (x, y) hs = [X, Y]) :
    FnOkS P f [X, Y] [] (fun _ : Unit => [iv .i64 r]) (fun _ => []) := by
  have h1 := h.ok (x, y) r hm (fun _ => ⟨.nilIface, [], 0, rfl⟩)
  rw [he] at h1
  exact h1.re fun _ _ _ _ => ⟨(), rfl, rfl⟩
end Go.Dc

/-! bits.TrailingZeros64 as_ a contract of ours: its table is known throughout. -/
namespace Go.Dc
open Go.Proofs
variable [DrawMode] {P : Program}
def tzM (x : Int) : Option Int := if 0 ≤ x ∧ x < 18446744073709551616 then some (Lib.ctz 64 x.toNat : Int) else none
def tzCells : Array Value := (Lib.deBruijn64tab.map fun z : Nat => Value.int .u8 (z : Int)).toArray
theorem tz_fn {f g : Nat} (hC : ∀ (x : Nat), x < 18446744073709551616 → ∀ w : World, (x ≠ 0 → TabAt g Lib.deBruijn64tab w) → Calls P f #[.int .u64 x] w fun e w' => e = .returned (.int .i64 (Lib.ctz 64 x)) ∧ w' = w)
    (hT : (g, tzCells) ∈ DrawMode.tabs) {x r : Int} (h : tzM x = some r) : FnOk P f [iv .u64 x] [] (fun _ : Unit => [iv .i64 r]) (fun _ => []) := by
  intro F w vs hF hmf hbd hnd hob hargs htb
  unfold tzM at h
  split at h
  · rename_i hx
    cases h
    match vs, hargs with
    | [v0], ⟨hv, _⟩ =>
      have hv : v0 = .int .u64 x := hv
      subst hv
      obtain ⟨_, ty, fz, hg⟩ := htb _ hT
      have htab : TabAt g Lib.deBruijn64tab w := fun j hj => by
        have hg' : w.heap[g]? = some (.cells tzCells ty fz) := hg
        simp only [World.cell?, hg']
        simp [tzCells, List.getD, hj]
      have e : x = ((x.toNat : Nat) : Int) := by omega
      have hc := hC x.toNat (by omega) w fun _ => htab
      rw [← e] at hc
      refine hc.mono ?_
      rintro e' w' ⟨rfl, rfl⟩
      exact ⟨(), _, rfl, .refl _ _, by simp [ow], by simp [ow], by simp, rfl⟩
  · cases h
theorem tz_con [PTab P] {f : Nat} (h : ∀ {x r : Int}, tzM x = some r → FnOk P f [iv .u64 x] [] (fun _ : Unit => [iv .i64 r]) (fun _ => [])) :
    ConOk P f ⟨[.int .u64], [.int .i64], tzM, [(false, [.d 0 0])], [], [(false, [.d 0 0])], [], 0, 0⟩ := fun _ _ hr hs =>
  (h hr).re fun _ _ _ _ => ⟨⟨hs, fun i hi => absurd hi (Nat.not_lt_zero i)⟩, rfl, rfl⟩
end Go.Dc
namespace Go.Dc
def tzInts : List Int := Lib.deBruijn64tab.map fun z : Nat => (z : Int)
theorem tz_inv {W : World} {g : Nat} (h : ∃ ty fz, W.heap[g]? = some (.cells (tzInts.map fun z => Value.int .u8 z).toArray ty fz)) : ∃ ty fz, W.heap[g]? = some (.cells tzCells ty fz) := by
  obtain ⟨ty, fz, h⟩ := h
  unfold tzInts at h
  rw [List.map_map] at h
  exact ⟨ty, fz, h⟩
end Go.Dc

/-! copy into a whole slice that is ours. -/
namespace Go.Dc
variable [DrawMode]
variable {P : Program} {E : Env} {N : Nat} {Γ : List (Nat × RP)} {Ω : List OB} {ty : TypeId} {α : Type} {ρ : Rep α} {bytes t e j : Nat} {x y : Operand} {hv : Value} {S : List Nat} {d : List α}

def cpA {α : Type} (d d' : List α) : List α := d'.take d.length ++ d.drop (min d'.length d.length)
theorem s_copyA {d' : List α} (hu : P.underlying t = some (.slice e)) (h : ElT P e ρ bytes) (hx : lkO Γ x = some (pv hv)) (hj : Ω[j]? = some (oa ρ hv S d)) (hy : lkO Γ y = some (slv ρ d')) :
    St P E N (.call ⟨.builtin .copy, #[x, y], #[t, t]⟩) ty Γ Ω [j] (fun _ : Unit => iv .i64 ((min d'.length d.length : Nat) : Int)) (fun _ => Ω.set j (oa ρ hv S (cpA d d'))) := by
  by_cases h0 : 0 < d.length
  · intro a w hs
    obtain ⟨ad, c, rfl, hdc, hob⟩ := hs.objAt hj
    have e1 : subV (.slice ad d.length c) ρ.size 0 d.length = .slice ad d.length c := by
      rw [subV_slice, if_neg (by omega)]
      congr 1
      cases ad with
      | none => rfl
      | some q => cases q; simp [Addr.add]
    have := s_copyS (P := P) (E := E) (N := N) (ty := ty) (l := 0) (m := d.length) (d' := d') h0 (Nat.le_refl _) hu h (by rw [e1]; exact hx) hj hy a w hs
    simpa [cpA] using this
  · have hd : d = [] := List.eq_nil_of_length_eq_zero (by omega)
    subst hd
    intro a w hs
    have hvx : a.eval x = hv := hs.op hx
    obtain ⟨ya, yc, hvy, hyc, hyat⟩ := hs.op hy
    obtain ⟨ad, c, rfl, hdc, hob⟩ := hs.objAt hj
    obtain ⟨i, hi, his, _⟩ := h.info
    have hfc : ∀ ya yc, (Builtin.firstCells i.size 0 (.slice ya d'.length yc)).run P w = .ok #[] w := fun ya yc => by
      have := run_fc (P := P) (size := i.size) (m := 0) (yc := yc) (ya := ya) (news := []) (w := w) (by simp) (.inl (by simp))
      cases ya <;> exact this
    have hr : (Builtin.copy_ #[t, t] ty #[.slice ad 0 c, .slice ya d'.length yc]).run P w = .ok (goInt 0) w := by
      simp only [Builtin.copy_]
      cases ad with
      | none => simp [run_underlying hu, Builtin.lenOf, sizeOf, typeInfo, hi, hfc]
      | some q => simp [run_underlying hu, Builtin.lenOf, sizeOf, typeInfo, hi, hfc, storeCells]
    have hdd : cpA ([] : List α) d' = [] := by simp [cpA]
    refine opwp_val (fun o ho ht => run_copy_call ho hvx hvy (by rw [ht]; exact hr)) ⟨(), ?_, ?_, Nat.le_refl _, fun _ _ _ => rfl, fun b hb hm => ?_⟩
    · rw [hdd, set_same hj]; exact hs
    · simp; rfl
    · rw [hdd, set_same hj] at hm; exact hm
end Go.Dc

/-! A range over a map that is ours: the order is drawn; what follows must not hang on it. -/
namespace Go.Dc
variable [DrawMode]
variable {P : Program} {E : Env} {N : Nat} {Γ : List (Nat × RP)} {Ω : List OB} {ty : TypeId} {α β : Type} [DecidableEq α] {κ : Rep α} {ν : Rep β}

def bornAt (es : List MapEntry) (i : Nat) : Nat := (es[i]?.map (·.born)).getD 0
/-- a map over which a loop ranges; ix: the places of the entries that were handed out -/
def omi {α β : Type} (κ : Rep α) (ν : Rep β) (b it : Nat) (d : List (α × β)) (ix : List Nat) : OB where
  S := [b, it]
  h := fun F w => b ≠ it ∧ ∃ es clock seen last, w.heap[b]? = some (.map es clock) ∧ Ents κ ν F w es.toList d ∧ (∀ e ∈ es.toList, e.born < clock) ∧ (es.toList.map (·.born)).Nodup ∧
    w.heap[it]? = some (.mapIter (some b) clock seen last) ∧ clock ≤ last ∧ (ix ≠ [] → last = clock) ∧ seen.toList = ix.map (bornAt es.toList) ∧ ix.Nodup ∧ ∀ i ∈ ix, i < d.length
  mono := by
    rintro F F' w w' ag hs ⟨hne, es, clock, seen, last, h1, h2, h3, h4, h5, h6⟩
    exact ⟨hne, es, clock, seen, last, by rw [hs b (by simp)]; exact h1, h2.mono ag, h3, h4, by rw [hs it (by simp)]; exact h5, h6⟩

/-- what a step hands out -/
def nxT (κ : Rep α) (ν : Rep β) : Option (Nat × α × β) → RP
  | none => tup [bv false]
  | some p => tup [bv true, sh κ p.2.1, sh ν p.2.2]
def ixn (ix : List Nat) : Option (Nat × α × β) → List Nat
  | none => ix
  | some p => ix ++ [p.1]
def NxOk (d : List (α × β)) (ix : List Nat) : Option (Nat × α × β) → Prop
  | none => ∀ i, i < d.length → i ∈ ix
  | some p => p.1 ∉ ix ∧ d[p.1]? = some p.2

section
variable {it b j : Nat} {d : List (α × β)} {ix : List Nat} {x : Operand}
end

/-! ### the loop -/
open Classical in
/-- what comes of a loop over the entries in any order: only where the order does not matter -/
noncomputable def rngM {γ σ R : Type} (d : List γ) (f : σ → γ → Option σ) (s0 : σ) (k : σ → Option R) : Option R :=
  if ∀ l : List γ, l.Perm d → (l.foldlM f s0).bind k = (d.foldlM f s0).bind k then (d.foldlM f s0).bind k else none
section
variable {σ X Y R γ : Type} {id : Nat} {Γl : σ → X → List (Nat × RP)} {Ωl : σ → X → List Nat → List OB} {Γb : σ → Y → List (Nat × RP)} {Ωb : σ → Y → List Nat → List OB} {k : σ → Option R} {K : KT R}
/-- where a round ends -/
def rngK (E : Env) (N : Nat) (id : Nat) (d : List γ) (f : σ → γ → Option σ) (Γl : σ → X → List (Nat × RP)) (Ωl : σ → X → List Nat → List OB) (Γb : σ → Y → List (Nat × RP)) (Ωb : σ → Y → List Nat → List OB) (ix : List Nat) (s : σ) : KT Unit :=
  fun _ e a w => (e = .exit id ∧ (∀ i, i < d.length → i ∈ ix) ∧ ∃ y, Sat E N (Γb s y) (Ωb s y ix) a w) ∨
    (e = .normal ∧ ∃ i p s', i ∉ ix ∧ d[i]? = some p ∧ f s p = some s' ∧ ∃ x', Sat E N (Γl s' x') (Ωl s' x' (ix ++ [i])) a w)

/-- the end of a round's own code -/
def rngG (E : Env) (N : Nat) (Γl : σ → X → List (Nat × RP)) (Ωl : σ → X → List Nat → List OB) (ix : List Nat) : KT σ := fun s' e a w => e = .normal ∧ ∃ x', Sat E N (Γl s' x') (Ωl s' x' ix) a w
end
end Go.Dc

/-! a new slice of ours out of data and a number (slices.Repeat) -/
namespace Go.Dc

variable [DrawMode] {P : Program} {f : FuncId} [PTab P]
def conW4 (t : Ty) (m : List t.den → Int → Option (List t.den)) : Con := ⟨[.sl t, .int .i64], [.sl t], fun a => m a.1 a.2, [(false, [.d 0 0]), (false, [.d 1 0])], [], [(false, [.own 0])], [.oa 0 (.d 0 0)], 0, 1⟩
theorem conW4_ok {t : Ty} {m : List t.den → Int → Option (List t.den)} (h : ∀ s n r, m s n = some r → FnOk P f [slv t.rep s, iv .i64 n] [] (fun x : Value × List Nat => [pv x.1]) (fun x => [oa t.rep x.1 x.2 r])) :
    ConOk P f (conW4 t m) := fun a r har hs => by
  refine (h a.1 a.2 r har).re fun x F w hx => ?_
  have h1 : x.1.oneCell' = true := oa_one (hx (oa t.rep x.1 x.2 r) (List.mem_singleton.2 rfl))
  refine ⟨⟨updHd hs 0 ⟨x.1, x.2, 0, h1⟩, fun i hi => ?_⟩, rfl, rfl⟩
  have : i < 0 := hi
  omega
end Go.Dc
