/- Part P06.Trs of a proof: lemmas. -/
import Derived.Test.YtejhbimlekcllaaDoorP06Val
set_option linter.unusedVariables false
set_option linter.unusedSimpArgs false
set_option linter.unusedSectionVars false
set_option maxRecDepth 100000
/-! New names; comparisons; the transposes of a rule. -/
namespace Go.Dc
def cmpl (x : Li) : Li := { x with Neg := !x.Neg }
theorem pig {α : Type} [DecidableEq α] : ∀ {l m : List α}, l.Nodup → (∀ x ∈ l, x ∈ m) → l.length ≤ m.length
  | [], m, _, _ => by simp
  | a :: l, m, hn, hs => by
    rw [List.nodup_cons] at hn
    have ha := hs a (by simp)
    have h1 := pig (l := l) (m := m.erase a) hn.2 fun x hx => by
      refine (List.mem_erase_of_ne fun e => ?_).2 (hs x (by simp [hx]))
      subst e; exact hn.1 hx
    rw [List.length_erase_of_mem ha] at h1
    have : 0 < m.length := List.length_pos_of_mem ha
    simp; omega

/-- the names of new rules -/
def dg (k : Nat) : ByteArray := if k < 10 then ByteArray.mk #[(48 + k).toUInt8] else ByteArray.mk #[(48 + k / 10).toUInt8, (48 + k % 10).toUInt8]
def tn (k : Nat) : ByteArray := if k < 10 then ByteArray.mk #[116, (48 + k).toUInt8] else ByteArray.mk #[116, (48 + k / 10).toUInt8, (48 + k % 10).toUInt8]
theorem tn_inj : ∀ i, i < 40 → ∀ j, j < 40 → tn i = tn j → i = j := by decide +kernel
theorem scon_t : ∀ k, k < 40 → sconM (ByteArray.mk #[116]) (dg k) = some (tn k) := by decide +kernel
/-- names are taken: there are at least as many rules -/
theorem taken {l : List T_api_Rule} {j : Nat} (hj : j < 38) (h : ∀ i, i < j → ∃ r ∈ l, r.Name = tn (i + 1)) : j ≤ l.length := by
  have h1 := pig (l := (List.range j).map fun i => tn (i + 1)) (m := l.map (·.Name)) (by
    rw [List.nodup_iff_pairwise_ne, List.pairwise_map]
    refine List.Pairwise.imp_of_mem ?_ List.nodup_range
    intro a b ha hb hne e
    rw [List.mem_range] at ha hb
    have := tn_inj _ (by omega) _ (by omega) e
    omega) fun x hx => by
      obtain ⟨i, hi, rfl⟩ := List.mem_map.1 hx
      obtain ⟨r, hr, e⟩ := h i (List.mem_range.1 hi)
      exact List.mem_map.2 ⟨r, hr, e⟩
  simpa using h1

theorem tn_vn : ∀ k : Nat, k < 40 → literal_ValidName_f 20 (tn k) = some true := by decide +kernel
theorem itoa_f : ∀ k : Nat, k < 40 → strconv_Itoa_f 20 (k : Int) = some (dg k) := by decide +kernel
theorem itoa_eq {k : Nat} (h : k < 40) : strconv_Itoa_m (k : Int) = some (dg k) := strconv_Itoa_f_le (k_ := 20) _ (itoa_f k h)
theorem fresh_plain {b : T_api_Base} (hl : b.Rules.length ≤ 30) : T (strict_fresh_m b) fun nm => ∃ k, k < 40 ∧ nm = tn k ∧ ∀ r ∈ b.Rules, r.Name ≠ tn k := by
  unfold strict_fresh_m
  refine T.bind (P := fun nm => ∃ k, k < 40 ∧ nm = tn k ∧ ∀ r ∈ b.Rules, r.Name ≠ tn k) ?_ fun q hq => .ret hq
  refine T.loopK 32 (fun j s => s = ((j + 1 : Nat) : Int) ∧ j < 38 ∧ ∀ i, i < j → ∃ r ∈ b.Rules, r.Name = tn (i + 1)) ⟨rfl, by omega, fun _ h => absurd h (by omega)⟩ ?_
  rintro j _ ⟨rfl, hj, hp⟩
  have hj2 := taken hj hp
  dsimp only [strict_fresh_l1]
  rw [itoa_eq (by omega), some_bind, scon_t _ (by omega), some_bind, Find_eq (by omega), some_bind, iadd1 (by omega)]
  cases h : b.Rules.findIdx? (fun r => decide (r.Name = tn (j + 1))) with
  | none =>
    rw [List.findIdx?_eq_none_iff] at h
    exact .ret ⟨_, by omega, rfl, fun r hr e => by have := h r hr; simp [e] at this⟩
  | some k =>
    rw [List.findIdx?_eq_some_iff_getElem] at h
    obtain ⟨hk, he, _⟩ := h
    simp only [decide_eq_false (show ¬ (k : Int) < 0 by omega), cond_false]
    refine .ret ⟨by omega, rfl, by omega, fun i hi => ?_⟩
    rcases Nat.lt_or_ge i j with h | h
    · exact hp i h
    · have : i = j := by omega
      subst this
      exact ⟨_, List.getElem_mem hk, of_decide_eq_true he⟩

theorem rSame_eq {a b : List Li} (ha : a.length ≤ 1000000) : ref01_Same_m a b = some (decide (a = b)) := by
  unfold ref01_Same_m
  refine T.eq (T.cond (fun g => .ret ?_) fun g => ?_)
  · rw [decide_eq_false]
    rintro rfl
    simp at g
  · have hl : a.length = b.length := by
      have : (a.length : Int) = b.length := by simpa using g
      omega
    refine T.bind (P := fun o => match o with | .inl r => r = decide (a = b) | .inr _ => a = b) ?_ fun o ho => ?_
    · refine T.loopK a.length (fun k s => s = (k : Int) ∧ k ≤ a.length ∧ ∀ i (h1 : i < a.length) (h2 : i < b.length), i < k → a[i] = b[i]) ⟨rfl, by omega, fun _ _ _ h => absurd h (by omega)⟩ ?_
      rintro k _ ⟨rfl, hk, hp⟩
      dsimp only [ref01_Same_l1]
      refine T.cond (fun c => ?_) fun c => ?_
      · have hk2 : k < a.length := by have := of_decide_eq_true c; omega
        rw [idxM_nat hk2, some_bind, idxM_nat (by omega), some_bind, iadd1 (by omega)]
        refine T.cond (fun c2 => .ret ?_) fun c2 => .ret ⟨hk2, rfl, by omega, fun i h1 h2 hi => ?_⟩
        · show false = _
          rw [decide_eq_false]
          intro e
          simp only [Bool.not_eq_true', decide_eq_false_iff_not] at c2
          exact c2 (by simp [e])
        · rcases Nat.lt_or_ge i k with h | h
          · exact hp i h1 h2 h
          · have : i = k := by omega
            subst this; simpa using c2
      · have hk2 : k = a.length := by have := of_decide_eq_false c; omega
        exact .ret (List.ext_getElem hl fun i h1 h2 => hp i h1 h2 (by omega))
    · rcases o with r | u
      · exact .ret ho
      · exact .ret (decide_eq_true (show a = b from ho)).symm

theorem Equal_eq {a b : List Li} (ha : a.length ≤ 1000000) : slices_Equal_api_Literal_api_Literal_m a b = some (decide (a = b)) := by
  unfold slices_Equal_api_Literal_api_Literal_m
  refine T.eq (T.cond (fun g => .ret ?_) fun g => ?_)
  · rw [decide_eq_false]
    rintro rfl
    simp at g
  · have hl : a.length = b.length := by
      have : (a.length : Int) = b.length := by simpa using g
      omega
    refine T.bind (P := fun o => match o with | .inl r => r = decide (a = b) | .inr _ => a = b) ?_ fun o ho => ?_
    · refine T.loopK a.length (fun k s => s = (k : Int) ∧ k ≤ a.length ∧ ∀ i (h1 : i < a.length) (h2 : i < b.length), i < k → a[i] = b[i]) ⟨rfl, by omega, fun _ _ _ h => absurd h (by omega)⟩ ?_
      rintro k _ ⟨rfl, hk, hp⟩
      dsimp only [slices_Equal_api_Literal_api_Literal_l1]
      refine T.cond (fun c => ?_) fun c => ?_
      · have hk2 : k < a.length := by have := of_decide_eq_true c; omega
        rw [idxM_nat hk2, some_bind, idxM_nat (by omega), some_bind, iadd1 (by omega)]
        refine T.cond (fun c2 => .ret ?_) fun c2 => .ret ⟨hk2, rfl, by omega, fun i h1 h2 hi => ?_⟩
        · show false = _
          rw [decide_eq_false]
          intro e
          simp only [Bool.not_eq_true', decide_eq_false_iff_not] at c2
          exact c2 (by simp [e])
        · rcases Nat.lt_or_ge i k with h | h
          · exact hp i h1 h2 h
          · have : i = k := by omega
            subst this; simpa using c2
      · have hk2 : k = a.length := by have := of_decide_eq_false c; omega
        exact .ret (List.ext_getElem hl fun i h1 h2 => hp i h1 h2 (by omega))
    · rcases o with r | u
      · exact .ret ho
      · exact .ret (decide_eq_true (show a = b from ho)).symm

/-- a strict rule with this head and body -/
def likeB (R : List T_api_Rule) (t : T_api_Rule) : Bool := R.any fun q => q.Strict && (decide (q.Head = t.Head) && decide (q.Body = t.Body))
theorem likeB_iff {R : List T_api_Rule} {t : T_api_Rule} : likeB R t = true ↔ ∃ q ∈ R, q.Strict = true ∧ q.Head = t.Head ∧ q.Body = t.Body := by
  simp [likeB, List.any_eq_true]
theorem alike1_eq {q t : T_api_Rule} (hq : q.Body.length ≤ 1000000) : strict_alike_1_m q t = some (q.Strict && (decide (q.Head = t.Head) && decide (q.Body = t.Body))) := by
  unfold strict_alike_1_m
  rw [Equal_eq hq, some_bind]
  cases q.Strict <;> cases decide (q.Head = t.Head) <;> cases decide (q.Body = t.Body) <;> rfl
theorem like1_eq {R : List T_api_Rule} {t : T_api_Rule} (hl : R.length ≤ 1000000) (hb : ∀ r ∈ R, r.Body.length ≤ 1000000) : slices_ContainsFunc_api_Rule_api_Rule_m R t = some (likeB R t) := by
  unfold slices_ContainsFunc_api_Rule_api_Rule_m slices_IndexFunc_api_Rule_api_Rule_1_m
  rw [ix_eq (s := R) (F := slices_IndexFunc_api_Rule_api_Rule_1_l1 R t) (g := fun q => strict_alike_1_m q t) (p := fun q => q.Strict && (decide (q.Head = t.Head) && decide (q.Body = t.Body))) hl (fun q hq => alike1_eq (hb q hq)) rfl, some_bind, letM_eq, any_ix]
  rfl
theorem like2_eq {R : List T_api_Rule} {t : T_api_Rule} (hl : R.length ≤ 1000000) (hb : ∀ r ∈ R, r.Body.length ≤ 1000000) : slices_ContainsFunc_api_Rule_api_Rule_1_m R t = some (likeB R t) := by
  unfold slices_ContainsFunc_api_Rule_api_Rule_1_m slices_IndexFunc_api_Rule_api_Rule_2_m
  rw [ix_eq (s := R) (F := slices_IndexFunc_api_Rule_api_Rule_2_l1 R t) (g := fun q => strict_alike_1_m q t) (p := fun q => q.Strict && (decide (q.Head = t.Head) && decide (q.Body = t.Body))) hl (fun q hq => alike1_eq (hb q hq)) rfl, some_bind, letM_eq, any_ix]
  rfl
theorem likeB_app {R L : List T_api_Rule} {t : T_api_Rule} (h : likeB R t = true) : likeB (R ++ L) t = true := by
  obtain ⟨q, hq, h1⟩ := likeB_iff.1 h
  exact likeB_iff.2 ⟨q, List.mem_append_left _ hq, h1⟩

/-- the transpose of a rule by an element of its body -/
structure TrS (r : T_api_Rule) (t : T_api_Rule) : Prop where
  strict : t.Strict = true
  rank : t.Rank = 0
  head : ∃ x ∈ r.Body, t.Head = cmpl x
  mem : ∀ z ∈ t.Body, z = cmpl r.Head ∨ z ∈ r.Body
  asc : AscL t.Body
  len : t.Body.length ≤ r.Body.length
noncomputable def trs (r : T_api_Rule) : List T_api_Rule := (strict_transposes_m r).getD []
theorem trs_plain {r : T_api_Rule} (hl : r.Body.length ≤ 10000) : strict_transposes_m r = some (trs r) ∧ (trs r).length ≤ r.Body.length ∧ ∀ t ∈ trs r, TrS r t := by
  suffices h : T (strict_transposes_m r) fun ts => ts.length ≤ r.Body.length ∧ ∀ t ∈ ts, TrS r t by
    obtain ⟨ts, h1, h2⟩ := h
    have : trs r = ts := by unfold trs; rw [h1]; rfl
    rw [this]; exact ⟨h1, h2⟩
  unfold strict_transposes_m
  refine T.bind (P := fun ts => ts.length ≤ r.Body.length ∧ ∀ t ∈ ts, TrS r t) ?_ fun q hq => .ret hq
  refine T.loopK r.Body.length (fun k s => s.1 = (k : Int) ∧ k ≤ r.Body.length ∧ s.2.length ≤ k ∧ ∀ t ∈ s.2, TrS r t) ⟨rfl, by omega, by simp, by simp⟩ ?_
  rintro k ⟨_, o⟩ ⟨rfl, hk, ho, hm⟩
  dsimp only at ho hm
  unfold strict_transposes_l1
  dsimp only
  refine T.cond (fun g => ?_) fun g => .ret ⟨by omega, hm⟩
  have hk2 : k < r.Body.length := by have := of_decide_eq_true g; omega
  unfold slices_Clone_api_Literal_api_Literal_m slices_Delete_api_Literal_api_Literal_m literal_Complement_m
  rw [idxM_nat hk2, some_bind, appM_eq (by simp; omega), some_bind, List.nil_append, iadd1 (by omega)]
  have hd : delM r.Body (k : Int) ((k + 1 : Nat) : Int) = some (r.Body.take k ++ r.Body.drop (k + 1)) := by
    unfold delM
    rw [if_pos ⟨by omega, by omega, by omega⟩]; rfl
  have hlen : (r.Body.take k ++ r.Body.drop (k + 1)).length = r.Body.length - 1 := by simp; omega
  rw [hd, some_bind, some_bind, appM_eq (by rw [hlen]; simp; omega), some_bind]
  refine T.bind (Normal_plain (by rw [List.length_append, hlen]; simp; omega)) fun nb hnb => ?_
  rw [some_bind, appM_eq (by simp; omega), some_bind]
  refine .ret ⟨hk2, rfl, hk2, by simp; omega, fun t ht => ?_⟩
  rcases List.mem_append.1 ht with h | h
  · exact hm t h
  · rw [List.mem_singleton.1 h]
    refine ⟨rfl, rfl, ⟨_, List.getElem_mem hk2, rfl⟩, fun z hz => ?_, hnb.asc, ?_⟩
    · have h1 := (hnb.mem z).1 hz
      rcases List.mem_append.1 h1 with h1 | h1
      · rcases List.mem_append.1 h1 with h1 | h1
        · exact .inr (List.mem_of_mem_take h1)
        · exact .inr (List.mem_of_mem_drop h1)
      · exact .inl (List.mem_singleton.1 h1)
    · have := hnb.len
      rw [List.length_append, hlen] at this
      simp at this ⊢; omega

theorem Has_eq {l : List Li} {x : Li} (hl : l.length ≤ 1000000) : literal_Has_m l x = some (decide (x ∈ l)) := by
  unfold literal_Has_m slices_Contains_api_Literal_api_Literal_m slices_Index_api_Literal_api_Literal_m
  rw [ix_eq (s := l) (g := fun t => some (decide (x = t))) (p := fun t => decide (x = t)) hl (fun _ _ => rfl) (by
    funext k
    simp only [some_bind, slices_Index_api_Literal_api_Literal_l1])]
  rw [some_bind, letM_eq, any_ix, some_bind]
  congr 1
  rw [Bool.eq_iff_iff]
  simp [List.any_eq_true]
theorem Promote_eq {b : T_api_Base} (h : Vb b) : rulebase_Promote_m b [] = some b := by
  have h1 := h.prem; have h2 := h.rules; have h3 := h.prom
  unfold rulebase_Promote_m slices_Clone_api_Premise_api_Premise_m slices_Clone_api_Rule_api_Rule_m slices_Clone_api_Promotion_api_Promotion_m
  rw [appM_eq (by simp; omega), some_bind, appM_eq (by simp; omega), some_bind, appM_eq (by simp; omega), some_bind]
  refine T.eq (T.bind (P := fun q => q = b.Rules) ?_ fun q hq => by subst hq; exact .ret rfl)
  refine T.loopK b.Rules.length (fun k s => s = ((k : Int), b.Rules) ∧ k ≤ b.Rules.length) ⟨rfl, by omega⟩ ?_
  rintro k _ ⟨rfl, hk⟩
  unfold rulebase_Promote_l1
  dsimp only
  refine T.cond (fun g => ?_) fun g => .ret rfl
  have hk2 : k < b.Rules.length := by have := of_decide_eq_true g; omega
  have hb := (h.rok _ (List.getElem_mem hk2)).len
  unfold slices_Clone_api_Literal_api_Literal_m
  rw [idxM_nat hk2, some_bind, appM_eq (by simp; omega), some_bind, some_bind, iadd1 (by omega), Int.toNat_natCast, List.nil_append]
  have e : b.Rules.set k (T_api_Rule.mk b.Rules[k].Name b.Rules[k].Strict b.Rules[k].Rank b.Rules[k].Body b.Rules[k].Head) = b.Rules := List.set_getElem_self hk2
  rw [e]
  refine T.bind (P := fun q => q = b.Rules) ?_ fun q hq => by subst hq; exact .ret ⟨hk2, rfl, hk2⟩
  refine T.loopK b.Promotions.length (fun i s => s = ((i : Int), b.Rules) ∧ i ≤ b.Promotions.length) ⟨rfl, by omega⟩ ?_
  rintro i _ ⟨rfl, hi⟩
  unfold rulebase_Promote_l2
  dsimp only
  refine T.cond (fun g => ?_) fun g => .ret rfl
  have hi2 : i < b.Promotions.length := by have := of_decide_eq_true g; omega
  rw [idxM_nat hi2, some_bind, joinM_eq, iadd1 (by omega), Has_eq (by simp), some_bind]
  simp only [List.not_mem_nil, decide_false, cond_false]
  refine T.cond (fun _ => T.cond (fun _ => ?_) fun _ => ?_) fun _ => ?_ <;> exact .ret ⟨hi2, rfl, hi2⟩
end Go.Dc
