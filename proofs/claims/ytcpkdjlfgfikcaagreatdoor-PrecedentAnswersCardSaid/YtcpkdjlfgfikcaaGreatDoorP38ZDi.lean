/- Part P38Z.Di of a proof: lemmas. -/
import Derived.Test.YtcpkdjlfgfikcaaGreatDoorP38ZFc
import Derived.Test.YtcpkdjlfgfikcaaGreatDoorDcSortS
set_option linter.unusedVariables false
set_option linter.unusedSimpArgs false
set_option linter.unusedSectionVars false
/-! Libraries that anyone may give: what distinguishes a case, both ways the same. -/
namespace Go.Dc
variable {l : T_Lib} {f : List ByteArray} {c : T_Cas}

theorem bl_lt : ∀ x y : List UInt8, Op.bytesLess x y = decide (x < y)
  | [], [] => by simp [Op.bytesLess]
  | _ :: _, [] => by simp [Op.bytesLess]
  | [], _ :: _ => by simp [Op.bytesLess]
  | a :: x, b :: y => by
    rw [Op.bytesLess, bl_lt x y]
    simp only [List.cons_lt_cons_iff]
    by_cases h1 : a < b <;> by_cases h2 : a = b <;> by_cases h3 : x < y <;> simp [h1, h2, h3]
abbrev LeB (a b : ByteArray) : Prop := a.toList ≤ b.toList
/-- strictly ascending -/
abbrev AscB (s : List ByteArray) : Prop := s.Pairwise fun a b => a.toList < b.toList
theorem asc_of {s : List ByteArray} (hs : s.length ≤ 1000000) (h : riB s = true) : AscB s := by
  obtain ⟨r, h1, h2⟩ := ris_plain hs
  have e : r = true := by unfold riB at h; rw [h1] at h; exact h
  have h3 := h2 e
  have step : ∀ m i, (hm : i + m + 1 < s.length) → s[i].toList < (s[i + m + 1]).toList := fun m => by
    induction m with
    | zero => intro i hm; have := h3 i hm; rw [bl_lt] at this; exact of_decide_eq_true this
    | succ m ih =>
      intro i hm
      have a1 := ih i (by omega)
      have a2 := h3 (i + m + 1) (by omega)
      rw [bl_lt] at a2
      exact List.lt_trans a1 (of_decide_eq_true a2)
  refine List.pairwise_iff_getElem.2 fun i j hi hj hij => ?_
  have := step (j - i - 1) i (by omega)
  simpa only [show i + (j - i - 1) + 1 = j by omega] using this
theorem sort_unique {s t : List ByteArray} (hp : s.Perm t) (hs : s.Pairwise LeB) : s = sortS t := by
  rw [← isortS_eq]
  exact List.Perm.eq_of_pairwise (le := LeB) (fun a b _ _ h1 h2 => ba_inj.1 (List.le_antisymm h1 h2)) hs (isortS_pw t) (hp.trans (isortS_perm t).symm)

/-- two ascending lists, merged -/
structure Mg (p q : ByteArray → Bool) (a b : List ByteArray) (i j : Nat) (o : List ByteArray) : Prop where
  li : i ≤ a.length
  lj : j ≤ b.length
  perm : o.Perm ((a.take i).filter p ++ (b.take j).filter q)
  pw : o.Pairwise LeB
  ra : ∀ x ∈ o, ∀ y ∈ a.drop i, LeB x y
  rb : ∀ x ∈ o, ∀ y ∈ b.drop j, LeB x y
theorem take_filter {p : ByteArray → Bool} {a : List ByteArray} {i : Nat} (hi : i < a.length) : (a.take (i + 1)).filter p = (a.take i).filter p ++ (if p a[i] then [a[i]] else []) := by
  rw [List.take_add_one, List.getElem?_eq_getElem hi, List.filter_append]
  congr 1; simp [List.filter_cons]
theorem asc_drop {a : List ByteArray} (h : AscB a) {i : Nat} (hi : i < a.length) : ∀ y ∈ a.drop (i + 1), a[i].toList < y.toList := fun y hy => by
  obtain ⟨k, hk, rfl⟩ := List.getElem_of_mem hy
  rw [List.getElem_drop]
  exact List.pairwise_iff_getElem.1 h i (i + 1 + k) hi (by rw [List.length_drop] at hk; omega) (by omega)
theorem lt_le {x y : List UInt8} (h : x < y) : x ≤ y := List.le_of_lt h
section
variable {p q : ByteArray → Bool} {a b o : List ByteArray} {i j : Nat}
theorem drop_sub {i : Nat} {y : ByteArray} (h : y ∈ a.drop (i + 1)) : y ∈ a.drop i := by
  rw [← List.drop_drop] at h
  exact List.mem_of_mem_drop h
theorem mem_drop0 {i : Nat} (hi : i < a.length) : a[i] ∈ a.drop i := by
  rw [List.drop_eq_getElem_cons hi]; exact List.mem_cons_self ..
theorem Mg.skipA (h : Mg p q a b i j o) (hi : i < a.length) (hp : p a[i] = false) : Mg p q a b (i + 1) j o :=
  ⟨hi, h.lj, by rw [take_filter hi, hp]; simpa using h.perm, h.pw, fun x hx y hy => h.ra x hx y (drop_sub hy), h.rb⟩
theorem Mg.skipB (h : Mg p q a b i j o) (hj : j < b.length) (hq : q b[j] = false) : Mg p q a b i (j + 1) o :=
  ⟨h.li, hj, by rw [take_filter hj, hq]; simpa using h.perm, h.pw, h.ra, fun x hx y hy => h.rb x hx y (drop_sub hy)⟩
theorem Mg.addA (h : Mg p q a b i j o) (ha : AscB a) (hi : i < a.length) (hp : p a[i] = true) (hb : ∀ y ∈ b.drop j, LeB a[i] y) : Mg p q a b (i + 1) j (o ++ [a[i]]) := by
  refine ⟨hi, h.lj, ?_, List.pairwise_append.2 ⟨h.pw, List.pairwise_singleton _ _, fun x hx y hy => ?_⟩, fun x hx y hy => ?_, fun x hx y hy => ?_⟩
  · rw [take_filter hi, hp, if_pos rfl, List.append_assoc]
    refine (h.perm.append_right _).trans ?_
    rw [List.append_assoc]
    exact List.Perm.append_left _ List.perm_append_comm
  · rw [List.mem_singleton.1 hy]
    exact h.ra x hx _ (mem_drop0 hi)
  · rcases List.mem_append.1 hx with hx | hx
    · exact h.ra x hx y (drop_sub hy)
    · rw [List.mem_singleton.1 hx]; exact lt_le (asc_drop ha hi y hy)
  · rcases List.mem_append.1 hx with hx | hx
    · exact h.rb x hx y hy
    · rw [List.mem_singleton.1 hx]; exact hb y hy
theorem Mg.addB (h : Mg p q a b i j o) (hb : AscB b) (hj : j < b.length) (hq : q b[j] = true) (ha : ∀ y ∈ a.drop i, LeB b[j] y) : Mg p q a b i (j + 1) (o ++ [b[j]]) := by
  refine ⟨h.li, hj, ?_, List.pairwise_append.2 ⟨h.pw, List.pairwise_singleton _ _, fun x hx y hy => ?_⟩, fun x hx y hy => ?_, fun x hx y hy => ?_⟩
  · rw [take_filter hj, hq, if_pos rfl, ← List.append_assoc]
    exact h.perm.append_right _
  · rw [List.mem_singleton.1 hy]
    exact h.rb x hx _ (mem_drop0 hj)
  · rcases List.mem_append.1 hx with hx | hx
    · exact h.ra x hx y hy
    · rw [List.mem_singleton.1 hx]; exact ha y hy
  · rcases List.mem_append.1 hx with hx | hx
    · exact h.rb x hx y (drop_sub hy)
    · rw [List.mem_singleton.1 hx]; exact lt_le (asc_drop hb hj y hy)
theorem Mg.len (h : Mg p q a b i j o) : o.length ≤ i + j := by
  rw [h.perm.length_eq, List.length_append]
  have h1 := List.length_filter_le p (a.take i)
  have h2 := List.length_filter_le q (b.take j)
  rw [List.length_take] at h1 h2; omega
end

theorem merge_loop {own ctr : List ByteArray} (ho : AscB own) (hc : AscB ctr) (h1 : own.length ≤ 1000) (h2 : ctr.length ≤ 1000) (hf : f.length ≤ 1000) (hcf : c.Facts.length ≤ 1000) :
    T (loopC (ref38_Distinguish_l1 f c own ctr) (0, 0, [])) fun r => r = sortS (own.filter (fun x => !memB x f) ++ ctr.filter (fun x => !memB x c.Facts)) := by
  refine T.loopM (fun s => ∃ i j : Nat, s.1 = (i : Int) ∧ s.2.1 = (j : Int) ∧ Mg (fun x => !memB x f) (fun x => !memB x c.Facts) own ctr i j s.2.2) (fun s => own.length + ctr.length - s.1.toNat - s.2.1.toNat) ⟨0, 0, rfl, rfl, ⟨by omega, by omega, by simp, .nil, by simp, by simp⟩⟩ ?_
  rintro ⟨_, _, o⟩ ⟨i, j, rfl, rfl, h⟩
  dsimp only [ref38_Distinguish_l1] at h ⊢
  have hi := h.li; have hj := h.lj; have hl := h.len
  refine T.joinP (fun _ => i < own.length ∨ j < ctr.length) (fun _ hor => ?_) fun kk hkk => ?_
  · refine T.joinP (fun b => (b = true → i < own.length ∧ ∀ y ∈ ctr.drop j, LeB (own.getD i ByteArray.empty) y) ∧ (b = false → j < ctr.length ∧ ∀ y ∈ own.drop i, LeB (ctr.getD j ByteArray.empty) y)) (fun b hb => ?_) fun kk hkk => ?_
    · refine T.cond (fun e => ?_) fun e => ?_
      · obtain ⟨hi2, hle⟩ := hb.1 e
        have eg : own.getD i ByteArray.empty = own[i] := by simp [hi2]
        rw [eg] at hle
        rw [idxM_nat hi2, some_bind, rIn_eq (by omega), some_bind]
        simp only [some_bind, letM_eq]
        rw [iadd1 (by omega)]
        refine T.cond (fun e2 => ?_) fun e2 => .ret ⟨⟨i + 1, j, rfl, rfl, h.skipA hi2 e2⟩, by simp only; omega⟩
        rw [appM_eq (by simp; omega), some_bind]
        exact .ret ⟨⟨i + 1, j, rfl, rfl, h.addA ho hi2 e2 hle⟩, by simp only; omega⟩
      · obtain ⟨hj2, hle⟩ := hb.2 e
        have eg : ctr.getD j ByteArray.empty = ctr[j] := by simp [hj2]
        rw [eg] at hle
        rw [idxM_nat hj2, some_bind, rIn_eq (by omega), some_bind]
        simp only [some_bind, letM_eq]
        rw [iadd1 (by omega)]
        refine T.cond (fun e2 => ?_) fun e2 => .ret ⟨⟨i, j + 1, rfl, rfl, h.skipB hj2 e2⟩, by simp only; omega⟩
        rw [appM_eq (by simp; omega), some_bind]
        exact .ret ⟨⟨i, j + 1, rfl, rfl, h.addB hc hj2 e2 hle⟩, by simp only; omega⟩
    · refine T.cond (fun e => hkk _ ⟨fun _ => ?_, fun e => (by cases e)⟩) fun e => ?_
      · have ej : (j : Int) = (ctr.length : Int) := of_decide_eq_true e
        have ej2 : j = ctr.length := by omega
        refine ⟨by omega, fun y hy => ?_⟩
        rw [ej2, List.drop_length] at hy; cases hy
      · have ej : (j : Int) ≠ (ctr.length : Int) := of_decide_eq_false e
        have hj2 : j < ctr.length := by omega
        have eb : ctr.getD j ByteArray.empty = ctr[j] := by simp [hj2]
        refine T.cond (fun e2 => ?_) fun e2 => hkk _ ⟨fun e => (by cases e), fun _ => ⟨hj2, fun y hy => ?_⟩⟩
        · have hi2 : i < own.length := by have := of_decide_eq_true e2; omega
          have ea : own.getD i ByteArray.empty = own[i] := by simp [hi2]
          rw [idxM_nat hi2, some_bind, idxM_nat hj2, some_bind, bl_lt]
          refine hkk _ ⟨fun e3 => ⟨hi2, fun y hy => ?_⟩, fun e3 => ⟨hj2, fun y hy => ?_⟩⟩
          · have e3 := of_decide_eq_true e3
            rw [ea]
            rw [List.drop_eq_getElem_cons hj2] at hy
            rcases List.mem_cons.1 hy with e4 | hy
            · rw [e4]; exact lt_le e3
            · exact lt_le (List.lt_trans e3 (asc_drop hc hj2 y hy))
          · have e3 := List.not_lt.1 (of_decide_eq_false e3)
            rw [eb]
            rw [List.drop_eq_getElem_cons hi2] at hy
            rcases List.mem_cons.1 hy with e4 | hy
            · rw [e4]; exact e3
            · exact List.le_trans e3 (lt_le (asc_drop ho hi2 y hy))
        · have := of_decide_eq_false e2
          rw [show i = own.length by omega, List.drop_length] at hy; cases hy
  · refine T.cond (fun e => hkk _ (.inl (by have := of_decide_eq_true e; omega))) fun e => T.cond (fun e2 => hkk _ (.inr (by have := of_decide_eq_true e2; omega))) fun e2 => .ret ?_
    have ei : i = own.length := by have := of_decide_eq_false e; omega
    have ej : j = ctr.length := by have := of_decide_eq_false e2; omega
    have hp := h.perm
    rw [ei, ej, List.take_length, List.take_length] at hp
    exact sort_unique hp h.pw

theorem ownF_asc {w : Int} (h : AscB f) : AscB (ownF l f w) := List.Pairwise.filter _ h

/-- what Distinguish gives -/
def dis (l : T_Lib) (f : List ByteArray) (c : T_Cas) : List ByteArray :=
  sortS ((ownF l c.Facts c.Winner).filter (fun x => !memB x f) ++ (ownF l f (3 - c.Winner)).filter (fun x => !memB x c.Facts))
noncomputable def knE (l : T_Lib) (f : List ByteArray) : Int := bif !riB f then 8 else bif !facsB l f then 6 else 0
noncomputable def disE (l : T_Lib) (ix : Int) (f : List ByteArray) : List ByteArray × Int :=
  bif verr l != 0 then ([], verr l) else bif decide (ix < 0) then ([], 1) else bif decide (ix ≥ (l.Cases.length : Int)) then ([], 1) else bif knE l f != 0 then ([], knE l f)
  else (dis l f (l.Cases.getD ix.toNat ⟨ByteArray.empty, [], 0, []⟩), 0)

theorem Dis_p (h : Sz l) (hf : f.length ≤ 1000) {ix : Int} : pc_Distinguish_m l ix f = some (disE l ix f) := by
  unfold pc_Distinguish_m disE
  rw [Val_p h, some_bind]
  cases e1 : verr l != 0 with
  | true => rfl
  | false =>
    rw [cond_false, cond_false]
    cases e2 : decide (ix < 0) with
    | true => rfl
    | false =>
      cases e3 : decide (ix ≥ (l.Cases.length : Int)) with
      | true => rfl
      | false =>
        have e2 := of_decide_eq_false e2
        have e3 := of_decide_eq_false e3
        simp only [cond_false]
        rw [known_p h hf, some_bind]
        show (bif knE l f != 0 then some (([] : List ByteArray), knE l f) else _) = _
        cases e4 : knE l f != 0 with
        | true => rfl
        | false =>
          obtain ⟨n, rfl⟩ : ∃ n : Nat, ix = (n : Int) := ⟨ix.toNat, by omega⟩
          have hn : n < l.Cases.length := by omega
          have hv := vd_of h (by simpa using e1)
          have hw := hv.w _ (List.getElem_mem hn)
          have hc := h.c _ (List.getElem_mem hn)
          have hs := h.sd l.Cases[n].Winner; have hs2 := h.sd (3 - l.Cases[n].Winner)
          have ho := ownF_len (l := l) (f := l.Cases[n].Facts) (w := l.Cases[n].Winner)
          have ho2 := ownF_len (l := l) (f := f) (w := 3 - l.Cases[n].Winner)
          have eg : l.Cases.getD (n : Int).toNat ⟨ByteArray.empty, [], 0, []⟩ = l.Cases[n] := by simp [hn]
          rw [cond_false, cond_false, eg, idxM_nat hn, some_bind, own_eq hw (by omega) (by omega), some_bind]
          have hg : ∀ x ∈ ownF l l.Cases[n].Facts l.Cases[n].Winner, pc_Distinguish_1_m x f = some (memB x f) := fun x _ => by
            unfold pc_Distinguish_1_m
            rw [Contains_eq (by omega), some_bind]
          have hix : sIF_S_4_m (ownF l l.Cases[n].Facts l.Cases[n].Winner) f = _ := ix_eq (g := fun x => pc_Distinguish_1_m x f) (p := fun x => memB x f) (by omega) hg (F := sIF_S_4_l1 (ownF l l.Cases[n].Facts l.Cases[n].Winner) f) (by funext k; rfl)
          have hd := df_eq (z := ByteArray.empty) (by omega) hg hix (F := sDF_S_1_l1 f) (by funext st; rfl)
          have hdm : sDF_S_1_m (ownF l l.Cases[n].Facts l.Cases[n].Winner) f = _ := hd
          rw [hdm, some_bind, counter_eq hw (by omega) (by omega), some_bind]
          generalize hA : (ownF l l.Cases[n].Facts l.Cases[n].Winner).filter (fun x => !memB x f) = A
          have hAl : A.length ≤ 1000 := by
            rw [← hA]
            exact Nat.le_trans (List.length_filter_le _ _) (by omega)
          generalize hB : ownF l f (3 - l.Cases[n].Winner) = B
          rw [hB] at ho2
          have hlp : loopC (pc_Distinguish_l1 l.Cases[n] B) (0, A) = some (A ++ B.filter fun x => !memB x l.Cases[n].Facts) := by
            refine T.eq (T.loopK B.length (fun k s => k ≤ B.length ∧ s = ((k : Int), A ++ (B.take k).filter fun x => !memB x l.Cases[n].Facts)) ⟨by omega, by simp⟩ ?_)
            rintro k _ ⟨hk, rfl⟩
            dsimp only [pc_Distinguish_l1]
            refine T.cond (fun c => ?_) fun c => ?_
            · have hk2 : k < B.length := by have := of_decide_eq_true c; omega
              have hfl := List.length_filter_le (fun x => !memB x l.Cases[n].Facts) (B.take k)
              rw [List.length_take] at hfl
              rw [idxM_nat hk2, some_bind, Contains_eq (by omega), some_bind, iadd1 (by omega), take_filter hk2]
              refine T.cond (fun c2 => ?_) fun c2 => .ret ⟨hk2, hk2, by simp only [c2]; simp⟩
              rw [appM_eq (by simp; omega), some_bind]
              refine .ret ⟨hk2, hk2, ?_⟩
              simp only [c2]; simp
            · have e : k = B.length := by have := of_decide_eq_false c; omega
              subst e
              refine .ret ?_
              show A ++ (B.take B.length).filter _ = _
              rw [List.take_length]
          have hfl := List.length_filter_le (fun x => !memB x l.Cases[n].Facts) B
          rw [hlp, some_bind, show sortedSM (A ++ B.filter fun x => !memB x l.Cases[n].Facts) = some (sortS (A ++ B.filter fun x => !memB x l.Cases[n].Facts)) from if_pos (by simp only [List.length_append]; omega), some_bind]
          unfold dis
          rw [hA, hB]
theorem Dis_r (h : Sz l) (hf : f.length ≤ 1000) {ix : Int} : ref38_Distinguish_m l ix f = some (disE l ix f) := by
  unfold ref38_Distinguish_m disE
  rw [Val_r h, some_bind]
  cases e1 : verr l != 0 with
  | true => rfl
  | false =>
    rw [cond_false, cond_false]
    cases e2 : decide (ix < 0) with
    | true => rfl
    | false =>
      cases e3 : decide (ix ≥ (l.Cases.length : Int)) with
      | true => rfl
      | false =>
        have e2 := of_decide_eq_false e2
        have e3 := of_decide_eq_false e3
        simp only [cond_false]
        rw [sit_r h hf, some_bind]
        have es : sitE l f = knE l f := by unfold sitE knE; rw [e1]; rfl
        rw [es]
        cases e4 : knE l f != 0 with
        | true => rfl
        | false =>
          obtain ⟨n, rfl⟩ : ∃ n : Nat, ix = (n : Int) := ⟨ix.toNat, by omega⟩
          have hn : n < l.Cases.length := by omega
          have hv := vd_of h (by simpa using e1)
          have hw := hv.w _ (List.getElem_mem hn)
          have hri := hv.ris _ (List.getElem_mem hn)
          have hrf : riB f = true := by
            cases q : riB f with
            | true => rfl
            | false => unfold knE at e4; rw [q] at e4; cases e4
          have hc := h.c _ (List.getElem_mem hn)
          have hs := h.sd l.Cases[n].Winner; have hs2 := h.sd (3 - l.Cases[n].Winner)
          have ho := ownF_len (l := l) (f := l.Cases[n].Facts) (w := l.Cases[n].Winner)
          have ho2 := ownF_len (l := l) (f := f) (w := 3 - l.Cases[n].Winner)
          have eg : l.Cases.getD (n : Int).toNat ⟨ByteArray.empty, [], 0, []⟩ = l.Cases[n] := by simp [hn]
          rw [cond_false, cond_false, eg, idxM_nat hn, some_bind, rOwn_eq hw (by omega) (by omega), some_bind, isub64 (by omega) (by omega), rOwn_eq (by omega) (by omega) (by omega), some_bind]
          rw [T.eq (merge_loop (ownF_asc (asc_of (by omega) hri)) (ownF_asc (asc_of (by omega) hrf)) (by omega) (by omega) hf hc.1), some_bind]
          rfl
end Go.Dc
