/- Part P38Z.Val2 of a proof: lemmas. -/
import Derived.Test.YtcpkdjlfgfikcaaGreatDoorP38ZMade
set_option linter.unusedVariables false
set_option linter.unusedSimpArgs false
set_option linter.unusedSectionVars false
/-! Libraries that anyone may give: what Validate says. -/
namespace Go.Dc

/-! ### names -/
def cv (s : ByteArray) (k : Nat) : Int := ((s[k]?.getD 0).toNat : Int)
theorem sidx_cv {s : ByteArray} {k : Nat} (h : k < s.size) : sidxM s (k : Int) = some (cv s k) := by
  unfold sidxM
  rw [if_pos (by omega)]
  unfold cv
  rw [show ((k : Int).toNat) = k from rfl, getElem?_pos s k h]; rfl
def low (c : Int) : Prop := 97 ≤ c ∧ c ≤ 122
def okc (c : Int) : Prop := (97 ≤ c ∧ c ≤ 122) ∨ (48 ≤ c ∧ c ≤ 57) ∨ c = 95
structure VN (s : ByteArray) : Prop where
  pos : 0 < s.size
  le : s.size ≤ 12
  fst : low (cv s 0)
  all : ∀ i, i < s.size → okc (cv s i)

theorem litName {s : ByteArray} : T (literal_ValidName_m s) fun r => r = true ↔ VN s := by
  unfold literal_ValidName_m
  refine T.cond (fun c => .ret ⟨fun e => (by cases e), fun v => absurd v.pos (by have := of_decide_eq_true c; omega)⟩) fun c => ?_
  have h1 : (s.size : Int) ≠ 0 := of_decide_eq_false c
  refine T.cond (fun c => .ret ⟨fun e => (by cases e), fun v => absurd v.le (by have := of_decide_eq_true c; omega)⟩) fun c => ?_
  have h2 := of_decide_eq_false c
  refine T.bind (P := fun o => match o with | .inl r => r = false ∧ ¬ VN s | .inr _ => VN s) ?_ fun o ho => ?_
  · refine T.loopK s.size (fun k z => k ≤ s.size ∧ z = (k : Int) ∧ (0 < k → low (cv s 0)) ∧ ∀ i, i < k → okc (cv s i)) ⟨by omega, rfl, by omega, by omega⟩ ?_
    rintro k _ ⟨hk, rfl, hf, ha⟩
    dsimp only [literal_ValidName_l1]
    refine T.cond (fun g => ?_) fun g => ?_
    · have hk2 : k < s.size := by have := of_decide_eq_true g; omega
      rw [sidx_cv hk2, some_bind, iadd1 (by omega)]
      have yes : okc (cv s k) → (0 < k ∨ low (cv s k)) → k < s.size ∧ (k + 1 ≤ s.size ∧ ((k + 1 : Nat) : Int) = ((k + 1 : Nat) : Int) ∧ (0 < k + 1 → low (cv s 0)) ∧ ∀ i, i < k + 1 → okc (cv s i)) := fun y f => by
        refine ⟨hk2, hk2, rfl, fun _ => ?_, fun i hi => ?_⟩
        · rcases Nat.eq_zero_or_pos k with e | e
          · subst e; rcases f with f | f
            · omega
            · exact f
          · exact hf e
        · rcases Nat.lt_or_ge i k with q | q
          · exact ha i q
          · have : i = k := by omega
            subst this; exact y
      refine T.joinP (fun j => j = true ↔ low (cv s k)) (fun j hj => ?_) fun kk hkk => ?_
      · refine T.cond (fun c1 => .ret (yes (.inl (hj.1 c1)) (.inr (hj.1 c1)))) fun c1 => ?_
        have nl : ¬ low (cv s k) := fun e => by rw [hj.2 e] at c1; cases c1
        have no : ¬ okc (cv s k) ∨ k = 0 → (false = false ∧ ¬ VN s) := fun e => ⟨rfl, fun v => e.elim (fun q => q (v.all k hk2)) fun q => by subst q; exact nl v.fst⟩
        refine T.cond (fun c2 => ?_) fun c2 => .ret (no (.inr (by have := of_decide_eq_false c2; omega)))
        have hp : 0 < k := by have := of_decide_eq_true c2; omega
        have dig : ¬ (48 ≤ cv s k ∧ cv s k ≤ 57) → T (bif cv s k == 95 then some (Sum.inr (((k + 1 : Nat) : Int))) else some (Sum.inl (Sum.inl false)) : Option (Sum (Sum Bool Unit) Int)) (onO (fun o => match o with | .inl r => r = false ∧ ¬ VN s | .inr _ => VN s) fun z => k < s.size ∧ (k + 1 ≤ s.size ∧ z = ((k + 1 : Nat) : Int) ∧ (0 < k + 1 → low (cv s 0)) ∧ ∀ i, i < k + 1 → okc (cv s i))) := fun nd => by
          refine T.cond (fun c5 => .ret (yes (.inr (.inr (of_decide_eq_true c5))) (.inl hp))) fun c5 => .ret (no (.inl fun o => ?_))
          have c5 : cv s k ≠ 95 := of_decide_eq_false c5
          unfold low at nl; unfold okc at o; omega
        refine T.cond (fun c3 => T.cond (fun c4 => .ret (yes (.inr (.inl ⟨of_decide_eq_true c3, of_decide_eq_true c4⟩)) (.inl hp))) fun c4 => ?_) fun c3 => ?_
        · exact dig (by have := of_decide_eq_false c4; omega)
        · exact dig (by have := of_decide_eq_false c3; omega)
      · refine T.cond (fun c1 => ?_) fun c1 => hkk _ ⟨fun e => (by cases e), fun e => by have := of_decide_eq_false c1; unfold low at e; omega⟩
        rw [letM_eq]
        refine hkk _ ?_
        rw [decide_eq_true_iff]
        exact ⟨fun e => ⟨of_decide_eq_true c1, e⟩, fun e => e.2⟩
    · have e : k = s.size := by have := of_decide_eq_false g; omega
      subst e
      exact .ret ⟨by omega, by omega, hf (by omega), ha⟩
  · rcases o with r | u
    · exact .ret (by rw [ho.1]; exact ⟨fun e => (by cases e), fun e => absurd e ho.2⟩)
    · exact .ret ⟨fun _ => ho, fun _ => rfl⟩

theorem refName {s : ByteArray} : T (ref01_ValidName_m s) fun r => r = true ↔ VN s := by
  unfold ref01_ValidName_m
  refine T.cond (fun c => .ret ⟨fun e => (by cases e), fun v => absurd v.pos (by have := of_decide_eq_true c; omega)⟩) fun c => ?_
  have h1 := of_decide_eq_false c
  refine T.cond (fun c => .ret ⟨fun e => (by cases e), fun v => absurd v.le (by have := of_decide_eq_true c; omega)⟩) fun c => ?_
  have h2 := of_decide_eq_false c
  rw [show sidxM s 0 = some (cv s 0) from sidx_cv (k := 0) (by omega), some_bind]
  refine T.cond (fun c => .ret ⟨fun e => (by cases e), fun v => absurd v.fst (by have := of_decide_eq_true c; unfold low; omega)⟩) fun c3 => ?_
  rw [some_bind]
  refine T.cond (fun c => .ret ⟨fun e => (by cases e), fun v => absurd v.fst (by have := of_decide_eq_true c; unfold low; omega)⟩) fun c4 => ?_
  have hl : low (cv s 0) := ⟨by have := of_decide_eq_false c3; omega, by have := of_decide_eq_false c4; omega⟩
  refine T.bind (P := fun o => match o with | .inl r => r = false ∧ ¬ VN s | .inr _ => VN s) ?_ fun o ho => ?_
  · refine T.loopK s.size (fun k z => k ≤ s.size ∧ z = (k : Int) ∧ ∀ i, i < k → okc (cv s i)) ⟨by omega, rfl, by omega⟩ ?_
    rintro k _ ⟨hk, rfl, ha⟩
    dsimp only [ref01_ValidName_l1]
    refine T.cond (fun g => ?_) fun g => ?_
    · have hk2 : k < s.size := by have := of_decide_eq_true g; omega
      simp only [sidx_cv hk2, some_bind, letM_eq]
      rw [iadd1 (by omega)]
      have yes : okc (cv s k) → k < s.size ∧ (k + 1 ≤ s.size ∧ ((k + 1 : Nat) : Int) = ((k + 1 : Nat) : Int) ∧ ∀ i, i < k + 1 → okc (cv s i)) := fun y => by
        refine ⟨hk2, hk2, rfl, fun i hi => ?_⟩
        rcases Nat.lt_or_ge i k with q | q
        · exact ha i q
        · have : i = k := by omega
          subst this; exact y
      have no : ¬ okc (cv s k) → (false = false ∧ ¬ VN s) := fun e => ⟨rfl, fun v => e (v.all k hk2)⟩
      have tail : ¬ (97 ≤ cv s k ∧ cv s k ≤ 122) → ¬ (48 ≤ cv s k ∧ cv s k ≤ 57) → T (bif cv s k != 95 then some (Sum.inl (Sum.inl false)) else some (Sum.inr (((k + 1 : Nat) : Int))) : Option (Sum (Sum Bool Unit) Int)) (onO (fun o => match o with | .inl r => r = false ∧ ¬ VN s | .inr _ => VN s) fun z => k < s.size ∧ (k + 1 ≤ s.size ∧ z = ((k + 1 : Nat) : Int) ∧ ∀ i, i < k + 1 → okc (cv s i))) := fun n1 n2 => by
        refine T.cond (fun c5 => .ret (no fun o => ?_)) fun c5 => .ret (yes (.inr (.inr (by simpa using c5))))
        have c5 : cv s k ≠ 95 := by simpa using c5
        unfold okc at o; omega
      refine T.cond (fun d1 => ?_) fun d1 => ?_
      · have d1 := of_decide_eq_true d1
        refine T.cond (fun d2 => tail (by omega) (by have := of_decide_eq_true d2; omega)) fun d2 => ?_
        have d2 := of_decide_eq_false d2
        refine T.cond (fun d3 => tail (by omega) (by have := of_decide_eq_true d3; omega)) fun d3 => .ret (yes (.inr (.inl ⟨by omega, by have := of_decide_eq_false d3; omega⟩)))
      · have d1 := of_decide_eq_false d1
        refine T.cond (fun d2 => ?_) fun d2 => .ret (yes (.inl ⟨by omega, by have := of_decide_eq_false d2; omega⟩))
        have d2 := of_decide_eq_true d2
        refine T.cond (fun d3 => tail (by omega) (by have := of_decide_eq_true d3; omega)) fun d3 => ?_
        refine T.cond (fun d4 => tail (by omega) (by have := of_decide_eq_true d4; omega)) fun d4 => .ret (yes (.inr (.inl ⟨by have := of_decide_eq_false d3; omega, by have := of_decide_eq_false d4; omega⟩)))
    · have e : k = s.size := by have := of_decide_eq_false g; omega
      subst e
      exact .ret ⟨by omega, by omega, hl, ha⟩
  · rcases o with r | u
    · exact .ret (by rw [ho.1]; exact ⟨fun e => (by cases e), fun e => absurd e ho.2⟩)
    · exact .ret ⟨fun _ => ho, fun _ => rfl⟩

noncomputable def vnB (s : ByteArray) : Bool := (literal_ValidName_m s).getD false
theorem lit_vn (s : ByteArray) : literal_ValidName_m s = some (vnB s) := by
  obtain ⟨r, h, _⟩ := litName (s := s); unfold vnB; rw [h]; rfl
theorem ref_vn (s : ByteArray) : ref01_ValidName_m s = some (vnB s) := by
  obtain ⟨r, h, h2⟩ := litName (s := s)
  obtain ⟨r', h', h2'⟩ := refName (s := s)
  unfold vnB; rw [h, h']
  congr 1
  show r' = r
  rw [Bool.eq_iff_iff, h2, h2']

/-! ### ascending lists -/
theorem asc_same (f : List ByteArray) : ref38_ascending_m f = pc_rising_m f := rfl
theorem ris_plain {f : List ByteArray} (hf : f.length ≤ 1000000) : T (pc_rising_m f) fun r => r = true → ∀ k, (h : k + 1 < f.length) → Op.bytesLess f[k].toList f[k+1].toList = true := by
  unfold pc_rising_m
  refine T.bind (P := fun o => match o with | .inl r => r = false | .inr _ => ∀ k, (h : k + 1 < f.length) → Op.bytesLess f[k].toList f[k+1].toList = true) ?_ fun o ho => ?_
  · refine T.loopK f.length (fun k s => s = ((k + 1 : Nat) : Int) ∧ ∀ i, i < k → (h : i + 1 < f.length) → Op.bytesLess f[i].toList f[i+1].toList = true) ⟨rfl, by omega⟩ ?_
    rintro k _ ⟨rfl, hn⟩
    dsimp only [pc_rising_l1]
    refine T.cond (fun c => ?_) fun c => .ret fun i hi => hn i (by have := of_decide_eq_false c; omega) hi
    have hk2 : k + 1 < f.length := by have := of_decide_eq_true c; omega
    rw [isub64 (by omega) (by omega), show ((k + 1 : Nat) : Int) - 1 = (k : Int) by omega, idxM_nat (show k < f.length by omega), some_bind, idxM_nat hk2, some_bind, iadd1 (by omega)]
    refine T.cond (fun c2 => .ret rfl) fun c2 => .ret ⟨by omega, rfl, fun i hi h => ?_⟩
    rcases Nat.lt_or_ge i k with q | q
    · exact hn i q h
    · have : i = k := by omega
      subst this; simpa using c2
  · rcases o with r | u
    · exact .ret fun e => by rw [show r = false from ho] at e; cases e
    · exact .ret fun _ => ho
noncomputable def riB (f : List ByteArray) : Bool := (pc_rising_m f).getD false
theorem ris_eq {f : List ByteArray} (hf : f.length ≤ 1000000) : pc_rising_m f = some (riB f) := by
  obtain ⟨r, h, _⟩ := ris_plain hf; unfold riB; rw [h]; rfl
theorem asc_eq {f : List ByteArray} (hf : f.length ≤ 1000000) : ref38_ascending_m f = some (riB f) := by rw [asc_same, ris_eq hf]
end Go.Dc

set_option linter.unusedVariables false
set_option linter.unusedSimpArgs false
set_option linter.unusedSectionVars false
/-! Libraries that anyone may give: both Validates say the same. -/
namespace Go.Dc

structure Sz (l : T_Lib) : Prop where
  s1 : l.Sides.i0.length ≤ 1000
  s2 : l.Sides.i1.length ≤ 1000
  n : l.Cases.length ≤ 1000
  c : ∀ c ∈ l.Cases, c.Facts.length ≤ 1000 ∧ c.Reason.length ≤ 1000
theorem Sz.sd {l : T_Lib} (h : Sz l) (w : Int) : (sdl l w).length ≤ 1000 := by
  unfold sdl; split
  · exact h.s1
  · exact h.s2

/-- a loop that ends at the first element of a kind -/
theorem scan {α β : Type} {s : List α} {p : α → Bool} {r : β} {F : Int → Option (Sum (Sum β Unit) Int)}
    (hi : ∀ i, (h : i < s.length) → F (i : Int) = some (bif p s[i] then .inl (.inl r) else .inr ((i + 1 : Nat) : Int))) (he : F (s.length : Int) = some (.inl (.inr ()))) :
    loopC F 0 = some (bif s.any p then .inl r else .inr ()) := by
  refine T.eq (T.loopK s.length (fun k z => k ≤ s.length ∧ z = (k : Int) ∧ ∀ i, i < k → ∀ (hi : i < s.length), p s[i] = false) ⟨by omega, rfl, by omega⟩ ?_)
  rintro k _ ⟨hk, rfl, hn⟩
  rcases Nat.lt_or_ge k s.length with q | q
  · rw [hi k q]
    cases c : p s[k] with
    | true =>
      refine .ret ?_
      show Sum.inl r = _
      rw [show s.any p = true from List.any_eq_true.2 ⟨_, List.getElem_mem q, c⟩]; rfl
    | false =>
      refine .ret ⟨q, q, rfl, fun i hi h => ?_⟩
      rcases Nat.lt_or_ge i k with h2 | h2
      · exact hn i h2 h
      · have : i = k := by omega
        subst this; exact c
  · have e : k = s.length := by omega
    subst e
    rw [he]
    refine .ret ?_
    show Sum.inr () = _
    rw [show s.any p = false from ?_]; · rfl
    rw [List.any_eq_false]
    intro x hx
    obtain ⟨i, hi, rfl⟩ := List.getElem_of_mem hx
    rw [hn i hi hi]; simp

def facsB (l : T_Lib) (f : List ByteArray) : Bool := f.all fun x => memB x (l.Sides.i0 ++ l.Sides.i1)
def badW (c : T_Cas) : Bool := bif c.Winner != 1 then c.Winner != 2 else false
def bad6 (l : T_Lib) (c : T_Cas) : Bool := bif !facsB l c.Facts then true else bif (c.Reason.length : Int) == 0 then true else !(c.Reason.all fun x => memB x (ownF l c.Facts c.Winner))
noncomputable def badR (c : T_Cas) : Bool := bif !riB c.Facts then true else !riB c.Reason
noncomputable def verr (l : T_Lib) : Int :=
  bif (bif decide ((l.Sides.i0.length : Int) > 12) then true else bif decide ((l.Sides.i1.length : Int) > 12) then true else decide ((l.Cases.length : Int) > 16)) then 2
  else bif (bif !(l.Sides.i0.all vnB) then true else bif !(l.Sides.i1.all vnB) then true else l.Cases.any fun c => !vnB c.Name) then 3
  else bif (bif !riB l.Sides.i0 then true else bif !riB l.Sides.i1 then true else l.Cases.any badR) then 8
  else bif l.Sides.i0.any fun x => memB x l.Sides.i1 then 10
  else bif !decide (l.Cases.map (·.Name)).Nodup then 5
  else bif l.Cases.any badW then 1
  else bif l.Cases.any (bad6 l) then 6 else 0

variable {l : T_Lib} {f : List ByteArray} {c : T_Cas}
theorem winner_of (h : badW c = false) : c.Winner = 1 ∨ c.Winner = 2 := by
  unfold badW at h
  cases h1 : c.Winner != 1 with
  | true => rw [h1] at h; right; simpa using h
  | false => left; simpa using h1
theorem factors_p (h : Sz l) : pc_factors_m l = some (l.Sides.i0 ++ l.Sides.i1) := by
  have := h.s1; have := h.s2
  unfold pc_factors_m
  rw [Concat_eq (by omega) (by omega)]; rfl
theorem within_fac (h : Sz l) (hf : f.length ≤ 1000) : pc_within_m f (l.Sides.i0 ++ l.Sides.i1) = some (facsB l f) := by
  have := h.s1; have := h.s2
  rw [within_eq (by omega) (by simp; omega)]; rfl
theorem rfactors (h : Sz l) (hf : f.length ≤ 1000) : ref38_factors_m l f = some (facsB l f) := by
  have := h.s1; have := h.s2
  unfold ref38_factors_m
  have e : loopC (ref38_factors_l1 l f) 0 = some (bif (f.any fun x => !memB x (l.Sides.i0 ++ l.Sides.i1)) then .inl false else .inr ()) := by
    refine scan (fun i hi => ?_) ?_
    · dsimp only [ref38_factors_l1]
      rw [decide_eq_true (by omega), cond_true, idxM_nat hi]
      simp only [some_bind, letM_eq]
      rw [rIn_eq (by omega), rIn_eq (by omega), iadd1 (by omega)]
      have e : memB f[i] (l.Sides.i0 ++ l.Sides.i1) = (memB f[i] l.Sides.i0 || memB f[i] l.Sides.i1) := by unfold memB; rw [List.any_append]
      rw [e]
      cases memB f[i] l.Sides.i0 <;> cases memB f[i] l.Sides.i1 <;> rfl
    · dsimp only [ref38_factors_l1]
      rw [decide_eq_false (by omega)]; rfl
  rw [e, some_bind]
  unfold facsB
  rw [List.any_eq_not_all_not]
  simp only [Bool.not_not]
  cases f.all fun x => memB x (l.Sides.i0 ++ l.Sides.i1) <;> rfl
theorem rInside_eq {a b : List ByteArray} (ha : a.length ≤ 1000000) (hb : b.length ≤ 1000000) : ref38_Inside_m a b = some (a.all fun x => memB x b) := by
  unfold ref38_Inside_m
  exact all_eq (g := fun t => ref38_In_m b t) ha (fun t _ => rIn_eq hb) (by funext k; rfl)

theorem named_p {s : List ByteArray} (hs : s.length ≤ 1000) : pc_named_m s = some (s.all vnB) := by
  unfold pc_named_m sCF_S_m sIF_S_m
  rw [cf_eq (s := s) (g := fun x => pc_named_1_m x) (p := fun x => !vnB x) (by omega) (fun x hm => by unfold pc_named_1_m; rw [lit_vn]; rfl) (by funext k; rfl), some_bind]
  rw [List.any_eq_not_all_not]; simp
theorem names_r {s : List ByteArray} (hs : s.length ≤ 1000) : ref38_names_m s = some (s.all vnB) := by
  unfold ref38_names_m
  exact all_eq (g := fun t => ref01_ValidName_m t) (by omega) (fun t _ => ref_vn t) (by funext k; rfl)
theorem some0_p (h : Sz l) : pc_some_m l = some (l.Cases.any fun c => !vnB c.Name) := by
  have := h.n
  unfold pc_some_m sCF_C_m sIF_C_m
  rw [cf_eq (s := l.Cases) (g := fun x => pc_Validate_1_m x) (p := fun c => !vnB c.Name) (by omega) (fun c hc => by unfold pc_Validate_1_m; rw [lit_vn]; rfl) (by funext k; rfl), some_bind]
theorem some1_p (h : Sz l) : pc_some_1_m l = some (l.Cases.any badR) := by
  have := h.n
  unfold pc_some_1_m sCF_C_1_m sIF_C_1_m
  rw [cf_eq (s := l.Cases) (g := fun x => pc_Validate_2_m x) (p := badR) (by omega) (fun c hc => by
    have := h.c c hc
    unfold pc_Validate_2_m badR
    rw [ris_eq (by omega), some_bind, ris_eq (by omega), some_bind]
    cases riB c.Facts <;> rfl) (by funext k; rfl), some_bind]
theorem some2_p (h : Sz l) : pc_some_2_m l = some (l.Cases.any badW) := by
  have := h.n
  unfold pc_some_2_m sCF_C_2_m sIF_C_2_m
  rw [cf_eq (s := l.Cases) (g := fun x => pc_Validate_4_m x) (p := badW) (by omega) (fun c hc => by
    unfold pc_Validate_4_m badW
    cases c.Winner != 1 <;> rfl) (by funext k; rfl), some_bind]
theorem some3_p (h : Sz l) (hw : l.Cases.any badW = false) : pc_some_3_m l l = some (l.Cases.any (bad6 l)) := by
  have := h.n
  unfold pc_some_3_m sCF_C_3_m sIF_C_3_m
  rw [cf_eq (s := l.Cases) (g := fun x => pc_Validate_5_m x l) (p := bad6 l) (by omega) (fun c hc => by
    have hl := h.c c hc
    have hs := h.sd c.Winner
    have hwc := winner_of (by have := List.any_eq_false.1 hw c hc; simpa using this)
    have ho := ownF_len (l := l) (f := c.Facts) (w := c.Winner)
    unfold pc_Validate_5_m bad6
    rw [factors_p h, some_bind, within_fac h (by omega), some_bind, own_eq hwc (by omega) (by omega), some_bind, within_eq (by omega) (by omega), some_bind]
    cases facsB l c.Facts <;> cases ((c.Reason.length : Int) == 0) <;> rfl) (by funext k; rfl), some_bind]
theorem over_p (h : Sz l) : sCF_S_2_m l.Sides.i0 l.Sides.i1 = some (l.Sides.i0.any fun x => memB x l.Sides.i1) := by
  have := h.s1; have := h.s2
  unfold sCF_S_2_m sIF_S_3_m
  exact cf_eq (s := l.Sides.i0) (g := fun x => pc_Validate_3_m x l.Sides.i1) (p := fun x => memB x l.Sides.i1) (by omega) (fun x hx => by unfold pc_Validate_3_m; rw [Contains_eq (by omega)]; rfl) (by funext k; rfl)

theorem Val_p (h : Sz l) : pc_Validate_m l = some (verr l) := by
  have hn := h.n; have h1 := h.s1; have h2 := h.s2
  unfold pc_Validate_m
  refine T.eq (T.bind (P := fun q => decide ((q.length : Int) < (l.Cases.length : Int)) = !decide (l.Cases.map (·.Name)).Nodup) ?_ fun q hq => .of ?_ rfl)
  · refine T.loopK l.Cases.length (fun k s => k ≤ l.Cases.length ∧ s.1 = (k : Int) ∧ Filled s.2 ((l.Cases.take k).map (·.Name))) ⟨by omega, rfl, Filled.nil⟩ ?_
    rintro k ⟨_, s⟩ ⟨hk, rfl, hs⟩
    dsimp only [pc_Validate_l1] at hs ⊢
    refine T.cond (fun c => ?_) fun c => ?_
    · have hk2 : k < l.Cases.length := by have := of_decide_eq_true c; omega
      rw [idxM_nat hk2, some_bind, iadd1 (by omega)]
      refine .ret ⟨hk2, hk2, rfl, ?_⟩
      rw [List.take_add_one, List.getElem?_eq_getElem hk2, List.map_append]
      exact hs.put _ true
    · have e : k = l.Cases.length := by have := of_decide_eq_false c; omega
      subst e
      rw [List.take_length] at hs
      refine .ret ?_
      have hi := hs.iff
      have hl := hs.len
      rw [List.length_map] at hi hl
      by_cases hd : (l.Cases.map (·.Name)).Nodup
      · have e := hi.2 hd
        show decide ((s.length : Int) < (l.Cases.length : Int)) = _
        rw [decide_eq_true hd, decide_eq_false (by omega)]; rfl
      · have e : s.length ≠ l.Cases.length := fun e => hd (hi.1 e)
        show decide ((s.length : Int) < (l.Cases.length : Int)) = _
        rw [decide_eq_false hd, decide_eq_true (by omega)]; rfl
  · simp only [joinM_eq, letM_eq]
    rw [hq]
    simp only [named_p h1, named_p h2, some0_p h, some1_p h, some2_p h, over_p h, ris_eq (show l.Sides.i0.length ≤ 1000000 by omega), ris_eq (show l.Sides.i1.length ≤ 1000000 by omega), some_bind]
    unfold verr
    cases hw : l.Cases.any badW with
    | false =>
      rw [some3_p h hw, some_bind]
      cases decide ((l.Sides.i0.length : Int) > 12) <;> cases decide ((l.Sides.i1.length : Int) > 12) <;> cases decide ((l.Cases.length : Int) > 16) <;> try rfl
      cases l.Sides.i0.all vnB <;> cases l.Sides.i1.all vnB <;> cases (l.Cases.any fun c => !vnB c.Name) <;> try rfl
      cases riB l.Sides.i0 <;> cases riB l.Sides.i1 <;> cases l.Cases.any badR <;> try rfl
      cases (l.Sides.i0.any fun x => memB x l.Sides.i1) <;> cases decide (l.Cases.map (·.Name)).Nodup <;> cases l.Cases.any (bad6 l) <;> rfl
    | true =>
      cases decide ((l.Sides.i0.length : Int) > 12) <;> cases decide ((l.Sides.i1.length : Int) > 12) <;> cases decide ((l.Cases.length : Int) > 16) <;> try rfl
      cases l.Sides.i0.all vnB <;> cases l.Sides.i1.all vnB <;> cases (l.Cases.any fun c => !vnB c.Name) <;> try rfl
      cases riB l.Sides.i0 <;> cases riB l.Sides.i1 <;> cases l.Cases.any badR <;> try rfl
      cases (l.Sides.i0.any fun x => memB x l.Sides.i1) <;> cases decide (l.Cases.map (·.Name)).Nodup <;> rfl

/-! the other Validate -/
theorem forms_r (h : Sz l) : ref38_forms_m l = some (
    bif (bif decide ((l.Sides.i0.length : Int) > 12) then true else bif decide ((l.Sides.i1.length : Int) > 12) then true else decide ((l.Cases.length : Int) > 16)) then 2
    else bif (bif !(l.Sides.i0.all vnB) then true else bif !(l.Sides.i1.all vnB) then true else l.Cases.any fun c => !vnB c.Name) then 3
    else bif (bif !riB l.Sides.i0 then true else bif !riB l.Sides.i1 then true else l.Cases.any badR) then 8 else 0) := by
  have hn := h.n; have h1 := h.s1; have h2 := h.s2
  have e1 : loopC (ref38_forms_l1 l) 0 = some (bif (l.Cases.any fun c => !vnB c.Name) then .inl 3 else .inr ()) := by
    refine scan (fun i hi => ?_) ?_
    · dsimp only [ref38_forms_l1]
      rw [decide_eq_true (by omega), cond_true, idxM_nat hi, some_bind, ref_vn, some_bind, letM_eq, iadd1 (by omega)]
      cases vnB l.Cases[i].Name <;> rfl
    · dsimp only [ref38_forms_l1]
      rw [decide_eq_false (by omega)]; rfl
  have e2 : loopC (ref38_forms_l2 l) 0 = some (bif (l.Cases.any badR) then .inl 8 else .inr ()) := by
    refine scan (fun i hi => ?_) ?_
    · have := h.c _ (List.getElem_mem hi)
      dsimp only [ref38_forms_l2]
      rw [decide_eq_true (by omega), cond_true, idxM_nat hi, some_bind, asc_eq (by omega), some_bind, some_bind, asc_eq (by omega), some_bind, letM_eq, iadd1 (by omega)]
      unfold badR
      cases riB l.Cases[i].Facts <;> cases riB l.Cases[i].Reason <;> rfl
    · dsimp only [ref38_forms_l2]
      rw [decide_eq_false (by omega)]; rfl
  unfold ref38_forms_m
  simp only [names_r h1, names_r h2, e1, e2, asc_eq (show l.Sides.i0.length ≤ 1000000 by omega), asc_eq (show l.Sides.i1.length ≤ 1000000 by omega), some_bind]
  cases decide ((l.Sides.i0.length : Int) > 12) <;> cases decide ((l.Sides.i1.length : Int) > 12) <;> cases decide ((l.Cases.length : Int) > 16) <;> try rfl
  cases l.Sides.i0.all vnB <;> cases l.Sides.i1.all vnB <;> cases (l.Cases.any fun c => !vnB c.Name) <;> try rfl
  cases riB l.Sides.i0 <;> cases riB l.Sides.i1 <;> cases l.Cases.any badR <;> rfl
theorem dup_r (h : Sz l) : loopC (ref38_Validate_l2 l) 0 = some (bif !decide (l.Cases.map (·.Name)).Nodup then .inl 5 else .inr ()) := by
  have hn := h.n
  refine T.eq (T.loopK l.Cases.length (fun k z => k ≤ l.Cases.length ∧ z = (k : Int) ∧ ∀ i j, i < k → j < i → ∀ (hi : i < l.Cases.length) (hj : j < l.Cases.length), l.Cases[i].Name ≠ l.Cases[j].Name) ⟨by omega, rfl, by omega⟩ ?_)
  rintro k _ ⟨hk, rfl, hd⟩
  dsimp only [ref38_Validate_l2]
  refine T.cond (fun c => ?_) fun c => ?_
  · have hk2 : k < l.Cases.length := by have := of_decide_eq_true c; omega
    have e : loopC (ref38_Validate_l3 l k) 0 = some (bif ((l.Cases.take k).any fun x => decide (l.Cases[k].Name = x.Name)) then .inl 5 else .inr ()) := by
      refine scan (fun i hi => ?_) ?_
      · have hi2 : i < k := by rw [List.length_take] at hi; omega
        dsimp only [ref38_Validate_l3]
        rw [decide_eq_true (by omega), cond_true, idxM_nat hk2, some_bind, idxM_nat (show i < l.Cases.length by omega), some_bind, ba_beq, letM_eq, iadd1 (by omega), List.getElem_take]
        cases decide (l.Cases[k].Name = l.Cases[i].Name) <;> rfl
      · dsimp only [ref38_Validate_l3]
        rw [decide_eq_false (by rw [List.length_take]; omega)]; rfl
    rw [e, some_bind]
    cases ha : ((l.Cases.take k).any fun x => decide (l.Cases[k].Name = x.Name)) with
    | true =>
      refine .ret ?_
      show Sum.inl 5 = _
      rw [decide_eq_false ?_]; · rfl
      intro nd
      obtain ⟨x, hx, hxe⟩ := List.any_eq_true.1 ha
      obtain ⟨j, hj, rfl⟩ := List.getElem_of_mem hx
      have hj2 : j < k := by rw [List.length_take] at hj; omega
      have := List.pairwise_iff_getElem.1 nd j k (by rw [List.length_map]; omega) (by rw [List.length_map]; omega) hj2
      rw [List.getElem_map, List.getElem_map] at this
      have hxe := of_decide_eq_true hxe
      rw [List.getElem_take] at hxe
      exact this hxe.symm
    | false =>
      rw [cond_false, sumK_inr, letM_eq, iadd1 (by omega)]
      refine .ret ⟨hk2, hk2, rfl, fun i j hi hj hil hjl => ?_⟩
      rcases Nat.lt_or_ge i k with q | q
      · exact hd i j q hj hil hjl
      · have e2 : i = k := by omega
        subst e2
        have := List.any_eq_false.1 ha l.Cases[j] (by
          have hjt : j < (l.Cases.take i).length := by rw [List.length_take]; omega
          have := List.getElem_mem hjt
          rwa [List.getElem_take] at this)
        intro e3
        rw [decide_eq_true e3] at this
        exact this rfl
  · have e : k = l.Cases.length := by have := of_decide_eq_false c; omega
    subst e
    refine .ret ?_
    show Sum.inr () = _
    rw [decide_eq_true ?_]; · rfl
    refine List.pairwise_iff_getElem.2 fun i j hi hj hij => ?_
    rw [List.getElem_map, List.getElem_map]
    rw [List.length_map] at hi hj
    exact fun e => hd j i hj hij hj hi e.symm
theorem Val_r (h : Sz l) : ref38_Validate_m l = some (verr l) := by
  have hn := h.n; have h1 := h.s1; have h2 := h.s2
  have e1 : loopC (ref38_Validate_l1 l) 0 = some (bif (l.Sides.i0.any fun x => memB x l.Sides.i1) then .inl 10 else .inr ()) := by
    refine scan (fun i hi => ?_) ?_
    · dsimp only [ref38_Validate_l1]
      rw [decide_eq_true (by omega), cond_true, idxM_nat hi, some_bind, rIn_eq (by omega), some_bind, letM_eq, iadd1 (by omega)]
      cases memB l.Sides.i0[i] l.Sides.i1 <;> rfl
    · dsimp only [ref38_Validate_l1]
      rw [decide_eq_false (by omega)]; rfl
  have e4 : loopC (ref38_Validate_l4 l) 0 = some (bif (l.Cases.any badW) then .inl 1 else .inr ()) := by
    refine scan (fun i hi => ?_) ?_
    · dsimp only [ref38_Validate_l4]
      rw [decide_eq_true (by omega), cond_true, idxM_nat hi, some_bind, some_bind, letM_eq, iadd1 (by omega)]
      unfold badW
      cases l.Cases[i].Winner != 1 <;> cases l.Cases[i].Winner != 2 <;> rfl
    · dsimp only [ref38_Validate_l4]
      rw [decide_eq_false (by omega)]; rfl
  unfold ref38_Validate_m
  rw [forms_r h, some_bind]
  simp only [e1, dup_r h, e4, some_bind]
  unfold verr
  have key : ∀ K : Option Int, (l.Cases.any badW = false → K = some (bif l.Cases.any (bad6 l) then 6 else 0)) →
      sumK (fun a : Int => some a) (fun _ : Unit => K) (bif l.Cases.any badW then Sum.inl 1 else Sum.inr ()) = some (bif l.Cases.any badW then 1 else bif l.Cases.any (bad6 l) then 6 else 0) := fun K hK => by
    cases hw : l.Cases.any badW with
    | true => rfl
    | false => rw [cond_false, sumK_inr, hK hw]; rfl
  rw [key _ fun hw => ?_]
  · cases decide ((l.Sides.i0.length : Int) > 12) <;> cases decide ((l.Sides.i1.length : Int) > 12) <;> cases decide ((l.Cases.length : Int) > 16) <;> try rfl
    cases l.Sides.i0.all vnB <;> cases l.Sides.i1.all vnB <;> cases (l.Cases.any fun c => !vnB c.Name) <;> try rfl
    cases riB l.Sides.i0 <;> cases riB l.Sides.i1 <;> cases l.Cases.any badR <;> try rfl
    cases (l.Sides.i0.any fun x => memB x l.Sides.i1) <;> cases decide (l.Cases.map (·.Name)).Nodup <;> rfl
  · have e5 : loopC (ref38_Validate_l5 l) 0 = some (bif (l.Cases.any (bad6 l)) then .inl 6 else .inr ()) := by
     refine scan (fun i hi => ?_) ?_
     · have hl := h.c _ (List.getElem_mem hi)
       have hs := h.sd l.Cases[i].Winner
       have hwc := winner_of (by have := List.any_eq_false.1 hw _ (List.getElem_mem hi); simpa using this)
       have ho := ownF_len (l := l) (f := l.Cases[i].Facts) (w := l.Cases[i].Winner)
       dsimp only [ref38_Validate_l5]
       rw [decide_eq_true (by omega), cond_true, idxM_nat hi, some_bind, rfactors h (by omega), some_bind, rOwn_eq hwc (by omega) (by omega), some_bind, rInside_eq (by omega) (by omega), some_bind, letM_eq, iadd1 (by omega)]
       unfold bad6
       cases facsB l l.Cases[i].Facts <;> cases ((l.Cases[i].Reason.length : Int) == 0) <;> cases (l.Cases[i].Reason.all fun x => memB x (ownF l l.Cases[i].Facts l.Cases[i].Winner)) <;> rfl
     · dsimp only [ref38_Validate_l5]
       rw [decide_eq_false (by omega)]; rfl
    rw [e5, some_bind]
    cases l.Cases.any (bad6 l) <;> rfl
end Go.Dc
