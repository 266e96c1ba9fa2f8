/- Part P38S.Force of a proof: lemmas. -/
import Derived.Test.YtcpkdjlfgfikcaaDoorP38SMade
set_option linter.unusedVariables false
set_option linter.unusedSimpArgs false
set_option linter.unusedSectionVars false
/-! Cases that force a side. -/
namespace Go.Dc
variable {l : T_api_Library} {f : List ByteArray} {c : T_api_Case}

theorem known_plain (h : LibOk l) (hf : f.Sublist all6) : precedent_known_m l f = some 0 := by
  unfold precedent_known_m
  rw [rising_eq (by have := sub_len hf; omega) (sub_rise hf), some_bind, Bool.not_true, cond_false, h.factors, some_bind, all6_within hf, some_bind]; rfl
theorem situation_plain (h : LibOk l) (hf : f.Sublist all6) : precedent_situation_m l f = some 0 := by
  unfold precedent_situation_m
  rw [Validate_plain h, some_bind, show ((0 : Int) != 0) = false from rfl, cond_false, known_plain h hf]; rfl

/-- nothing counts for the other side that the case has not -/
def ctr (l : T_api_Library) (f : List ByteArray) (c : T_api_Case) : Bool := (ownF l f (3 - c.Winner)).all fun x => memB x c.Facts
def hitS (l : T_api_Library) (f : List ByteArray) (c : T_api_Case) : Bool := ((ownF l c.Facts c.Winner).all fun x => memB x f) && ctr l f c
def hitR (l : T_api_Library) (f : List ByteArray) (c : T_api_Case) : Bool := (c.Reason.all fun x => memB x f) && ctr l f c

/-- the cases of a side that fulfil a condition -/
def picks (q : T_api_Case → Bool) (C : List T_api_Case) (k : Nat) : List Int := ((List.range k).filter fun i => q (C.getD i ⟨ByteArray.empty, [], 0, []⟩)).map fun i => ((i : Nat) : Int)
theorem picks_succ {q : T_api_Case → Bool} {C : List T_api_Case} {k : Nat} (hk : k < C.length) : picks q C (k + 1) = picks q C k ++ if q C[k] then [(k : Int)] else [] := by
  unfold picks
  rw [List.range_succ, List.filter_append, List.map_append]
  congr 1
  have : C.getD k ⟨ByteArray.empty, [], 0, []⟩ = C[k] := by simp [hk]
  simp only [List.filter_cons, List.filter_nil, this]
  cases q C[k] <;> rfl
theorem mem_picks {q : T_api_Case → Bool} {C : List T_api_Case} {i : Int} : i ∈ picks q C C.length ↔ ∃ k : Nat, ∃ hk : k < C.length, i = k ∧ q C[k] = true := by
  unfold picks
  rw [List.mem_map]
  constructor
  · rintro ⟨k, hk, rfl⟩
    rw [List.mem_filter, List.mem_range] at hk
    exact ⟨k, hk.1, rfl, by have := hk.2; simpa [hk.1] using this⟩
  · rintro ⟨k, hk, rfl, hq⟩
    exact ⟨k, List.mem_filter.2 ⟨List.mem_range.2 hk, by simpa [hk] using hq⟩, rfl⟩
theorem mem_picks_nat {q : T_api_Case → Bool} {C : List T_api_Case} {k : Nat} (hk : k < C.length) : decide ((k : Int) ∈ picks q C C.length) = q C[k] := by
  rw [Bool.eq_iff_iff, decide_eq_true_iff, mem_picks]
  constructor
  · rintro ⟨j, hj, e, h⟩
    have : k = j := by omega
    subst this; exact h
  · exact fun h => ⟨k, hk, rfl, h⟩
theorem picks_len {q : T_api_Case → Bool} {C : List T_api_Case} {k : Nat} : (picks q C k).length ≤ k := by
  unfold picks
  rw [List.length_map]
  exact Nat.le_trans (List.length_filter_le _ _) (by simp)
theorem picks_pos {q : T_api_Case → Bool} {C : List T_api_Case} : decide (((picks q C C.length).length : Int) > 0) = C.any q := by
  rw [Bool.eq_iff_iff, decide_eq_true_iff, List.any_eq_true]
  constructor
  · intro h
    match hp : picks q C C.length with
    | [] => rw [hp] at h; simp at h
    | i :: r =>
      have hi : i ∈ picks q C C.length := by rw [hp]; simp
      obtain ⟨k, hk, _, hq⟩ := mem_picks.1 hi
      exact ⟨_, List.getElem_mem hk, hq⟩
  · rintro ⟨c, hc, hq⟩
    obtain ⟨k, hk, rfl⟩ := List.getElem_of_mem hc
    have := List.length_pos_of_mem (mem_picks.2 ⟨k, hk, rfl, hq⟩)
    omega

def w1 (q : T_api_Case → Bool) (c : T_api_Case) : Bool := q c && (c.Winner == 1)
def w2 (q : T_api_Case → Bool) (c : T_api_Case) : Bool := q c && !(c.Winner == 1)

theorem counter_plain (h : LibOk l) (hf : f.Sublist all6) (hw : c.Winner = 1 ∨ c.Winner = 2) (hc : c.Facts.length ≤ 6) : (Option.bind (precedent_counter_m l f c.Winner) fun t => precedent_within_m t c.Facts) = some (ctr l f c) := by
  have := sub_len hf
  have := ownF_len (l := l) (f := f) (w := 3 - c.Winner)
  rw [counter_eq hw (by rw [h.sdlen]; omega) (by omega), some_bind, within_eq (by omega) (by omega)]; rfl

theorem Strong_plain (h : LibOk l) (hf : f.Sublist all6) : precedent_Strong_m l f = some (⟨picks (w1 (hitS l f)) l.Cases l.Cases.length, picks (w2 (hitS l f)) l.Cases l.Cases.length⟩, 0) := by
  have hlen := h.len
  have hfl := sub_len hf
  unfold precedent_Strong_m precedent_forced_m
  rw [situation_plain h hf, some_bind, show ((0 : Int) != 0) = false from rfl, cond_false]
  refine T.eq (T.bind (P := fun q => q = ((⟨picks (w1 (hitS l f)) l.Cases l.Cases.length, picks (w2 (hitS l f)) l.Cases l.Cases.length⟩ : T_api_Force), 0)) (T.bind (P := fun q => q = (picks (w1 (hitS l f)) l.Cases l.Cases.length, picks (w2 (hitS l f)) l.Cases l.Cases.length)) ?_ fun q hq => .ret (by rw [hq])) fun q hq => .ret hq)
  refine T.loopK l.Cases.length (fun k s => k ≤ l.Cases.length ∧ s = ((k : Int), picks (w1 (hitS l f)) l.Cases k, picks (w2 (hitS l f)) l.Cases k)) ⟨by omega, rfl⟩ ?_
  rintro k _ ⟨hk, rfl⟩
  dsimp only [precedent_forced_l1]
  refine T.cond (fun g => ?_) fun g => ?_
  · have hk2 : k < l.Cases.length := by have := of_decide_eq_true g; omega
    have ok := h.ok k hk2
    have hcf := sub_len ok.facts
    have p1 := picks_len (q := w1 (hitS l f)) (C := l.Cases) (k := k)
    have p2 := picks_len (q := w2 (hitS l f)) (C := l.Cases) (k := k)
    have ho := ownF_len (l := l) (f := l.Cases[k].Facts) (w := l.Cases[k].Winner)
    have hc := counter_plain h hf ok.win hcf
    rw [idxM_nat hk2, some_bind]
    unfold precedent_Strong_1_m
    rw [own_eq ok.win (by rw [h.sdlen]; omega) (by omega), some_bind, some_bind, within_eq (by omega) (by omega), some_bind, iadd1 (by omega), picks_succ hk2, picks_succ hk2]
    have hq : hitS l f l.Cases[k] = (((ownF l l.Cases[k].Facts l.Cases[k].Winner).all fun x => memB x f) && ctr l f l.Cases[k]) := rfl
    rw [show w1 (hitS l f) l.Cases[k] = (hitS l f l.Cases[k] && (l.Cases[k].Winner == 1)) from rfl, show w2 (hitS l f) l.Cases[k] = (hitS l f l.Cases[k] && !(l.Cases[k].Winner == 1)) from rfl, hq]
    refine T.cond (fun a1 => ?_) fun a1 => ?_
    · have e : ((ownF l l.Cases[k].Facts l.Cases[k].Winner).all fun x => memB x f) = false := by simpa using a1
      rw [e]
      exact .ret ⟨hk2, hk2, by simp⟩
    · have e : ((ownF l l.Cases[k].Facts l.Cases[k].Winner).all fun x => memB x f) = true := by simpa using a1
      rw [e]
      obtain ⟨t, ht, hc2⟩ := Option.bind_eq_some_iff.1 hc
      rw [ht, some_bind, hc2, some_bind]
      refine T.cond (fun a2 => ?_) fun a2 => ?_
      · have e2 : ctr l f l.Cases[k] = false := by simpa using a2
        rw [e2]
        exact .ret ⟨hk2, hk2, by simp⟩
      · have e2 : ctr l f l.Cases[k] = true := by simpa using a2
        rw [e2]
        refine T.cond (fun a3 => ?_) fun a3 => ?_
        · rw [appM_eq (by simp; omega), some_bind, a3]
          exact .ret ⟨hk2, hk2, by simp⟩
        · rw [appM_eq (by simp; omega), some_bind, a3]
          exact .ret ⟨hk2, hk2, by simp⟩
  · have e : k = l.Cases.length := by have := of_decide_eq_false g; omega
    subst e
    exact .ret rfl

theorem Reasons_plain (h : LibOk l) (hf : f.Sublist all6) : precedent_Reasons_m l f = some (⟨picks (w1 (hitR l f)) l.Cases l.Cases.length, picks (w2 (hitR l f)) l.Cases l.Cases.length⟩, 0) := by
  have hlen := h.len
  have hfl := sub_len hf
  unfold precedent_Reasons_m precedent_forced_1_m
  rw [situation_plain h hf, some_bind, show ((0 : Int) != 0) = false from rfl, cond_false]
  refine T.eq (T.bind (P := fun q => q = ((⟨picks (w1 (hitR l f)) l.Cases l.Cases.length, picks (w2 (hitR l f)) l.Cases l.Cases.length⟩ : T_api_Force), 0)) (T.bind (P := fun q => q = (picks (w1 (hitR l f)) l.Cases l.Cases.length, picks (w2 (hitR l f)) l.Cases l.Cases.length)) ?_ fun q hq => .ret (by rw [hq])) fun q hq => .ret hq)
  refine T.loopK l.Cases.length (fun k s => k ≤ l.Cases.length ∧ s = ((k : Int), picks (w1 (hitR l f)) l.Cases k, picks (w2 (hitR l f)) l.Cases k)) ⟨by omega, rfl⟩ ?_
  rintro k _ ⟨hk, rfl⟩
  dsimp only [precedent_forced_1_l1]
  refine T.cond (fun g => ?_) fun g => ?_
  · have hk2 : k < l.Cases.length := by have := of_decide_eq_true g; omega
    have ok := h.ok k hk2
    have hcf := sub_len ok.facts
    have hcr := sub_len ok.reason
    have p1 := picks_len (q := w1 (hitR l f)) (C := l.Cases) (k := k)
    have p2 := picks_len (q := w2 (hitR l f)) (C := l.Cases) (k := k)
    have hc := counter_plain h hf ok.win hcf
    rw [idxM_nat hk2, some_bind]
    unfold precedent_Reasons_1_m
    rw [some_bind, within_eq (by omega) (by omega), some_bind, iadd1 (by omega), picks_succ hk2, picks_succ hk2]
    have hq : hitR l f l.Cases[k] = ((l.Cases[k].Reason.all fun x => memB x f) && ctr l f l.Cases[k]) := rfl
    rw [show w1 (hitR l f) l.Cases[k] = (hitR l f l.Cases[k] && (l.Cases[k].Winner == 1)) from rfl, show w2 (hitR l f) l.Cases[k] = (hitR l f l.Cases[k] && !(l.Cases[k].Winner == 1)) from rfl, hq]
    refine T.cond (fun a1 => ?_) fun a1 => ?_
    · have e : (l.Cases[k].Reason.all fun x => memB x f) = false := by simpa using a1
      rw [e]
      exact .ret ⟨hk2, hk2, by simp⟩
    · have e : (l.Cases[k].Reason.all fun x => memB x f) = true := by simpa using a1
      rw [e]
      obtain ⟨t, ht, hc2⟩ := Option.bind_eq_some_iff.1 hc
      rw [ht, some_bind, hc2, some_bind]
      refine T.cond (fun a2 => ?_) fun a2 => ?_
      · have e2 : ctr l f l.Cases[k] = false := by simpa using a2
        rw [e2]
        exact .ret ⟨hk2, hk2, by simp⟩
      · have e2 : ctr l f l.Cases[k] = true := by simpa using a2
        rw [e2]
        refine T.cond (fun a3 => ?_) fun a3 => ?_
        · rw [appM_eq (by simp; omega), some_bind, a3]
          exact .ret ⟨hk2, hk2, by simp⟩
        · rw [appM_eq (by simp; omega), some_bind, a3]
          exact .ret ⟨hk2, hk2, by simp⟩
  · have e : k = l.Cases.length := by have := of_decide_eq_false g; omega
    subst e
    exact .ret rfl

/-! what the conditions mean -/
theorem ctr_iff : ctr l f c = true ↔ ∀ x ∈ f, x ∈ sdl l (3 - c.Winner) → x ∈ c.Facts := by
  unfold ctr
  rw [List.all_eq_true]
  simp only [mem_ownF, memB_iff, and_imp]
theorem hitS_iff : hitS l f c = true ↔ (∀ x ∈ c.Facts, x ∈ sdl l c.Winner → x ∈ f) ∧ ∀ x ∈ f, x ∈ sdl l (3 - c.Winner) → x ∈ c.Facts := by
  unfold hitS
  rw [Bool.and_eq_true, ctr_iff, List.all_eq_true]
  simp only [mem_ownF, memB_iff, and_imp]
theorem hitR_iff : hitR l f c = true ↔ (∀ x ∈ c.Reason, x ∈ f) ∧ ∀ x ∈ f, x ∈ sdl l (3 - c.Winner) → x ∈ c.Facts := by
  unfold hitR
  rw [Bool.and_eq_true, ctr_iff, List.all_eq_true]
  simp only [memB_iff]
theorem w1_iff {q : T_api_Case → Bool} : w1 q c = true ↔ q c = true ∧ c.Winner = 1 := by unfold w1; rw [Bool.and_eq_true, beq_iff_eq]
theorem w2_iff {q : T_api_Case → Bool} : w2 q c = true ↔ q c = true ∧ c.Winner ≠ 1 := by unfold w2; rw [Bool.and_eq_true]; simp
theorem picks_inside {q q' : T_api_Case → Bool} {C : List T_api_Case} (hl : C.length ≤ 1000) (h : ∀ c ∈ C, q c = true → q' c = true) : keep_Inside_m (picks q C C.length) (picks q' C C.length) = some true := by
  have p1 := picks_len (q := q) (C := C) (k := C.length)
  have p2 := picks_len (q := q') (C := C) (k := C.length)
  rw [kInside_eq (by omega) (by omega)]
  congr 1
  rw [List.all_eq_true]
  intro i hi
  obtain ⟨k, hk, rfl, hq⟩ := mem_picks.1 hi
  exact decide_eq_true (mem_picks.2 ⟨k, hk, rfl, h _ (List.getElem_mem hk) hq⟩)
theorem LibOk.sides {l : T_api_Library} (h : LibOk l) {w : Int} (hw : w = 1 ∨ w = 2) {x : ByteArray} (h1 : x ∈ Dc.sdl l w) : x ∉ Dc.sdl l (3 - w) := by
  rw [h.sdl] at h1 ⊢
  rcases hw with rfl | rfl
  · simp only [if_true] at h1
    have hx : x ∈ all6 := sd1_sub.subset h1
    rcases sd_cases hx with ⟨_, h2⟩ | ⟨_, h2⟩
    · simpa using h2
    · exact absurd h1 h2
  · have h1' : x ∈ sd2 := by simpa using h1
    have hx : x ∈ all6 := sd2_sub.subset h1'
    rcases sd_cases hx with ⟨_, h2⟩ | ⟨_, h2⟩
    · exact absurd h1' h2
    · simpa using h2
end Go.Dc
