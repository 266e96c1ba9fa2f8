/- Part P06Z.Name of a proof: lemmas. -/
import Derived.Test.YtejhbimlekcllaaGreatDoorP06ZBase
import Derived.Test.YtejhbimlekcllaaGreatDoorP06ZRef
import Derived.Test.YtejhbimlekcllaaGreatDoorP06ZContra
import Derived.Test.YtejhbimlekcllaaGreatDoorDcRec
set_option linter.unusedVariables false
set_option linter.unusedSimpArgs false
set_option linter.unusedSectionVars false
set_option maxRecDepth 100000
/-! Names of new rules; comparisons; what the reference's Transpose makes. -/
namespace Go.Dc
/-- a loop that goes through -/
theorem pass {ρ : Type} {f : Int → Option (Sum ρ Int)} {n : Nat} {r : ρ} (h : ∀ i, i < n → f (i : Int) = some (.inr ((i + 1 : Nat) : Int))) (hend : f (n : Int) = some (.inl r)) : loopC f 0 = some r := by
  refine T.eq (T.loopK n (fun k s => k ≤ n ∧ s = (k : Int)) ⟨by omega, rfl⟩ ?_)
  rintro k _ ⟨hk, rfl⟩
  rcases Nat.lt_or_ge k n with h1 | h1
  · rw [h k h1]; exact .ret ⟨h1, h1, rfl⟩
  · have : k = n := by omega
    subst this
    rw [hend]; exact .ret rfl

theorem pig {α : Type} [DecidableEq α] : ∀ {l m : List α}, l.Nodup → (∀ x ∈ l, x ∈ m) → l.length ≤ m.length
  | [], m, _, _ => by simp
  | a :: l, m, hn, hs => by
    rw [List.nodup_cons] at hn
    have ha := hs a (by simp)
    have h1 := pig (l := l) (m := m.erase a) hn.2 fun x hx => by
      refine (List.mem_erase_of_ne fun e => ?_).2 (hs x (by simp [hx]))
      subst e; exact hn.1 hx
    rw [List.length_erase_of_mem ha] at h1
    have : 0 < m.length := List.length_pos_of_mem ha
    simp; omega

/-- the names of new rules -/
def dg (k : Nat) : ByteArray := if k < 10 then ByteArray.mk #[(48 + k).toUInt8] else ByteArray.mk #[(48 + k / 10).toUInt8, (48 + k % 10).toUInt8]
def tn (k : Nat) : ByteArray := if k < 10 then ByteArray.mk #[116, (48 + k).toUInt8] else ByteArray.mk #[116, (48 + k / 10).toUInt8, (48 + k % 10).toUInt8]
theorem tn_inj : ∀ i, i < 40 → ∀ j, j < 40 → tn i = tn j → i = j := by decide +kernel
theorem scon_t : ∀ k, k < 40 → sconM (ByteArray.mk #[116]) (dg k) = some (tn k) := by decide +kernel
/-- names are taken: there are at least as many rules -/
theorem taken {l : List T_api_Rule} {j : Nat} (hj : j < 38) (h : ∀ i, i < j → ∃ r ∈ l, r.Name = tn (i + 1)) : j ≤ l.length := by
  have h1 := pig (l := (List.range j).map fun i => tn (i + 1)) (m := l.map (·.Name)) (by
    rw [List.nodup_iff_pairwise_ne, List.pairwise_map]
    refine List.Pairwise.imp_of_mem ?_ List.nodup_range
    intro a b ha hb hne e
    rw [List.mem_range] at ha hb
    have := tn_inj _ (by omega) _ (by omega) e
    omega) fun x hx => by
      obtain ⟨i, hi, rfl⟩ := List.mem_map.1 hx
      obtain ⟨r, hr, e⟩ := h i (List.mem_range.1 hi)
      exact List.mem_map.2 ⟨r, hr, e⟩
  simpa using h1

theorem decimal_n : ∀ k : Nat, k < 40 → ref06_decimal_n 3 (k : Int) = some (dg k) := by decide +kernel
theorem decimal_eq {k : Nat} (h : k < 40) : ref06_decimal_m (k : Int) = some (dg k) := recC_of (fun n => ref06_decimal_n_le n _) (decimal_n k h)

theorem rFind_eq {b : T_api_Base} {nm : ByteArray} (hl : b.Rules.length ≤ 1000000) : ref05_Find_m b nm = some (match b.Rules.findIdx? (fun r => decide (r.Name = nm)) with | some k => (k : Int) | none => -1) := by
  unfold ref05_Find_m
  refine ix_eq (g := fun r => some (decide (r.Name = nm))) hl (fun _ _ => rfl) ?_
  funext k
  simp only [some_bind, ref05_Find_l1, ba_beq]
theorem rSame_eq {a b : List Li} (ha : a.length ≤ 1000000) : ref01_Same_m a b = some (decide (a = b)) := by
  unfold ref01_Same_m
  refine T.eq (T.cond (fun g => .ret ?_) fun g => ?_)
  · rw [decide_eq_false]
    rintro rfl
    simp at g
  · have hl : a.length = b.length := by
      have : (a.length : Int) = b.length := by simpa using g
      omega
    refine T.bind (P := fun o => match o with | .inl r => r = decide (a = b) | .inr _ => a = b) ?_ fun o ho => ?_
    · refine T.loopK a.length (fun k s => s = (k : Int) ∧ k ≤ a.length ∧ ∀ i (h1 : i < a.length) (h2 : i < b.length), i < k → a[i] = b[i]) ⟨rfl, by omega, fun _ _ _ h => absurd h (by omega)⟩ ?_
      rintro k _ ⟨rfl, hk, hp⟩
      dsimp only [ref01_Same_l1]
      refine T.cond (fun c => ?_) fun c => ?_
      · have hk2 : k < a.length := by have := of_decide_eq_true c; omega
        rw [idxM_nat hk2, some_bind, idxM_nat (by omega), some_bind, iadd1 (by omega)]
        refine T.cond (fun c2 => .ret ?_) fun c2 => .ret ⟨hk2, rfl, by omega, fun i h1 h2 hi => ?_⟩
        · show false = _
          rw [decide_eq_false]
          intro e
          simp only [Bool.not_eq_true', decide_eq_false_iff_not] at c2
          exact c2 (by simp [e])
        · rcases Nat.lt_or_ge i k with h | h
          · exact hp i h1 h2 h
          · have : i = k := by omega
            subst this; simpa using c2
      · have hk2 : k = a.length := by have := of_decide_eq_false c; omega
        exact .ret (List.ext_getElem hl fun i h1 h2 => hp i h1 h2 (by omega))
    · rcases o with r | u
      · exact .ret ho
      · exact .ret (decide_eq_true (show a = b from ho)).symm

/-- a strict rule with this head and body -/
def likeB (R : List T_api_Rule) (t : T_api_Rule) : Bool := R.any fun q => q.Strict && (decide (q.Head = t.Head) && decide (q.Body = t.Body))
theorem likeB_iff {R : List T_api_Rule} {t : T_api_Rule} : likeB R t = true ↔ ∃ q ∈ R, q.Strict = true ∧ q.Head = t.Head ∧ q.Body = t.Body := by
  simp [likeB, List.any_eq_true]
theorem ralike_eq {b : T_api_Base} {t : T_api_Rule} (hl : b.Rules.length ≤ 1000000) (hb : ∀ r ∈ b.Rules, r.Body.length ≤ 1000000) : ref06_alike_m b t = some (likeB b.Rules t) := by
  unfold ref06_alike_m likeB
  refine any_bind (fun i hi => ?_) ?_
  · unfold ref06_alike_l1
    rw [decide_eq_true (by omega : (i : Int) < (b.Rules.length : Int)), cond_true, idxM_nat hi, some_bind, letM_eq, iadd1 (by omega), rSame_eq (hb _ (List.getElem_mem hi)), some_bind]
    cases b.Rules[i].Strict <;> cases decide (b.Rules[i].Head = t.Head) <;> cases decide (b.Rules[i].Body = t.Body) <;> rfl
  · unfold ref06_alike_l1
    rw [decide_eq_false (by omega)]; rfl

theorem rname_plain {b : T_api_Base} (hl : b.Rules.length ≤ 30) : T (ref06_name_m b) fun nm => ∃ k, k < 40 ∧ nm = tn k ∧ ∀ r ∈ b.Rules, r.Name ≠ tn k := by
  unfold ref06_name_m
  refine T.bind (P := fun q => ∃ k : Nat, q = (k : Int) ∧ k < 40 ∧ ∀ r ∈ b.Rules, r.Name ≠ tn k) ?_ ?_
  · refine T.loopK 32 (fun j s => s = ((j + 1 : Nat) : Int) ∧ j < 38 ∧ ∀ i, i < j → ∃ r ∈ b.Rules, r.Name = tn (i + 1)) ⟨rfl, by omega, fun _ h => absurd h (by omega)⟩ ?_
    rintro j _ ⟨rfl, hj, hp⟩
    have hj2 := taken hj hp
    dsimp only [ref06_name_l1]
    rw [decimal_eq (by omega), some_bind, scon_t _ (by omega), some_bind, rFind_eq (by omega), some_bind, iadd1 (by omega)]
    cases h : b.Rules.findIdx? (fun r => decide (r.Name = tn (j + 1))) with
    | none =>
      rw [List.findIdx?_eq_none_iff] at h
      exact .ret ⟨_, rfl, by omega, fun r hr e => by have := h r hr; simp [e] at this⟩
    | some k =>
      rw [List.findIdx?_eq_some_iff_getElem] at h
      obtain ⟨hk, he, _⟩ := h
      simp only [decide_eq_true (show (k : Int) ≥ 0 by omega), cond_true]
      refine .ret ⟨by omega, rfl, by omega, fun i hi => ?_⟩
      rcases Nat.lt_or_ge i j with h | h
      · exact hp i h
      · have : i = j := by omega
        subst this
        exact ⟨_, List.getElem_mem hk, of_decide_eq_true he⟩
  · rintro _ ⟨k, rfl, hk, hn⟩
    rw [decimal_eq hk, some_bind, scon_t _ hk, some_bind]
    exact .ret ⟨k, hk, rfl, hn⟩

/-- the transpose of a rule by an element of its body -/
structure Tr (r : T_api_Rule) (x : Li) (t : T_api_Rule) : Prop where
  strict : t.Strict = true
  rank : t.Rank = 0
  head : t.Head = cmpl x
  body : Nf (r.Body.filter (fun z => !decide (z = x)) ++ [cmpl r.Head]) t.Body
theorem rtrans_plain {r : T_api_Rule} {i : Nat} (hl : r.Body.length ≤ 10000) (hi : i < r.Body.length) : T (ref06_transpose_m r (i : Int)) (Tr r r.Body[i]) := by
  unfold ref06_transpose_m
  refine T.bind (P := fun q => q = r.Body.filter (fun z => !decide (z = r.Body[i]))) ?_ ?_
  · refine T.loopK r.Body.length (fun k s => s.1 = (k : Int) ∧ k ≤ r.Body.length ∧ s.2 = (r.Body.take k).filter (fun z => !decide (z = r.Body[i]))) ⟨rfl, by omega, by simp⟩ ?_
    rintro k ⟨_, o⟩ ⟨rfl, hk, rfl⟩
    dsimp only [ref06_transpose_l1]
    refine T.cond (fun c => ?_) fun c => ?_
    · have hk2 : k < r.Body.length := by have := of_decide_eq_true c; omega
      have hlen : ((r.Body.take k).filter (fun z => !decide (z = r.Body[i]))).length ≤ k := Nat.le_trans (List.length_filter_le _ _) (by simp; omega)
      have ht : r.Body.take (k + 1) = r.Body.take k ++ [r.Body[k]] := by rw [List.take_add_one, List.getElem?_eq_getElem hk2]; rfl
      rw [idxM_nat hk2, some_bind, idxM_nat hi, some_bind, some_bind, iadd1 (by omega), letM_eq]
      refine T.cond (fun c2 => ?_) fun c2 => ?_
      · rw [appM_eq (by simp only [List.length_singleton]; omega), some_bind, letM_eq]
        refine .ret ⟨hk2, rfl, hk2, ?_⟩
        show _ ++ [_] = _
        rw [ht, List.filter_append]
        simp only [List.filter_cons, List.filter_nil, c2, if_true]
      · refine .ret ⟨hk2, rfl, hk2, ?_⟩
        show List.filter _ _ = _
        rw [ht, List.filter_append]
        simp [List.filter_cons, c2]
    · have hk2 : k = r.Body.length := by have := of_decide_eq_false c; omega
      refine .ret ?_
      show List.filter _ _ = _
      rw [hk2, List.take_length]
  · rintro _ rfl
    have hlen : (r.Body.filter (fun z => !decide (z = r.Body[i]))).length ≤ 10000 := Nat.le_trans (List.length_filter_le _ _) hl
    unfold ref01_Complement_m
    rw [some_bind, appM_eq (by simp only [List.length_singleton]; omega), some_bind, idxM_nat hi, some_bind]
    refine T.bind (rNormal_plain (by simp only [List.length_append, List.length_singleton]; omega)) fun nb hnb => ?_
    exact .ret ⟨rfl, rfl, rfl, hnb⟩
theorem Tr.mem {r t : T_api_Rule} {x z : Li} (h : Tr r x t) : z ∈ t.Body ↔ z = cmpl r.Head ∨ (z ∈ r.Body ∧ z ≠ x) := by
  rw [h.body.mem, List.mem_append, List.mem_filter, List.mem_singleton]
  simp [or_comm]
theorem Tr.len {r t : T_api_Rule} {x : Li} (h : Tr r x t) (hx : x ∈ r.Body) : t.Body.length ≤ r.Body.length := by
  refine Nat.le_trans h.body.len ?_
  have : (r.Body.filter (fun z => !decide (z = x))).length < r.Body.length := List.length_filter_lt_length_iff_exists.2 ⟨x, hx, by simp⟩
  simp; omega
end Go.Dc
