/- Part P06.Srt of a proof: lemmas. -/
import Derived.Test.YtejhbimlekcllaaDoorP06Base
import Derived.Test.YtejhbimlekcllaaDoorP06Awake
import Derived.Test.YtejhbimlekcllaaDoorP06Ref
set_option linter.unusedVariables false
set_option linter.unusedSimpArgs false
set_option linter.unusedSectionVars false
set_option maxRecDepth 100000
/-! Names that are valid; lists that the source sorts. -/
namespace Go.Dc
abbrev VN (s : ByteArray) : Prop := literal_ValidName_m s = some true
theorem vn_of {s : ByteArray} (h : literal_ValidName_f 20 s = some true) : VN s := literal_ValidName_f_le (k_ := 20) _ h
theorem lit_names : ∀ m : Nat, m < 52 → literal_ValidName_f 20 (bstr [IntKind.wrap .u8 (iadd .i64 97 (iquo .i64 (m : Int) 2))]) = some true := by decide +kernel
def rnm (i : Nat) : ByteArray := ByteArray.mk #[114, (97 + i).toUInt8]
theorem rn_eq : ∀ i : Nat, i < 26 → keep_RuleName_m (i : Int) = some (rnm i) := by decide +kernel
theorem rnm_vn : ∀ i : Nat, i < 26 → literal_ValidName_f 20 (rnm i) = some true := by decide +kernel
theorem rnm_inj : ∀ i : Nat, i < 26 → ∀ j : Nat, j < 26 → rnm i = rnm j → i = j := by decide +kernel

theorem LiteralV {s : T_deliberationkeep_Src} (h : SrcOk s) {n : Int} (h1 : 1 ≤ n) (h2 : n ≤ 26) : T (keep_Src_Literal_m s n) fun r => SrcOk r.2 ∧ VN r.1.Name := by
  unfold keep_Src_Literal_m
  rw [imul64 (by omega) (by omega)]
  refine T.bind (N_plain h (by omega)) fun k hk => ?_
  obtain ⟨h3, h4⟩ := hk.2 (by omega)
  refine .ret ⟨hk.1, vn_of ?_⟩
  have := lit_names k.1.toNat (by omega)
  rwa [Int.toNat_of_nonneg h3] at this
theorem LiteralsV {s : T_deliberationkeep_Src} (h : SrcOk s) {n : Int} (most : Nat) (hm : most ≤ 100) (h1 : 1 ≤ n) (h2 : n ≤ 26) : T (keep_Src_Literals_m s (most : Int) n) fun r => SrcOk r.2 ∧ r.1.length ≤ most ∧ ∀ x ∈ r.1, VN x.Name := by
  unfold keep_Src_Literals_m
  rw [iadd64 (by omega) (by omega)]
  refine T.bind (N_plain h (by omega)) ?_
  rintro k ⟨hk, hk2⟩
  obtain ⟨k0, k1⟩ := hk2 (by omega)
  refine T.bind (P := fun q : T_deliberationkeep_Src × List T_api_Literal => SrcOk q.1 ∧ q.2.length ≤ most ∧ ∀ x ∈ q.2, VN x.Name) ?_ fun q hq => .ret hq
  refine T.loopK (most + 1) (fun j s => s.1 = k.1 - j ∧ (j : Int) ≤ k.1 ∧ SrcOk s.2.1 ∧ s.2.2.length = j ∧ ∀ x ∈ s.2.2, VN x.Name) ⟨by simp, by simpa using k0, hk, rfl, by simp⟩ ?_
  rintro j ⟨a, src, out⟩ ⟨e, hj, hs, hl, hv⟩
  simp only at e hl hs hv
  dsimp only [keep_Src_Literals_l1]
  refine T.cond (fun g => ?_) fun g => .ret ⟨hs, by simp only; omega, hv⟩
  have := of_decide_eq_true g
  refine T.bind (LiteralV hs h1 h2) fun t ht => ?_
  rw [appM_eq (by simp; omega), some_bind, letM_eq]
  refine .ret ⟨by omega, by simp only; rw [isub64 (by omega) (by omega)]; omega, by omega, ht.1, by simp [hl], fun x hx => ?_⟩
  rcases List.mem_append.1 hx with h | h
  · exact hv x h
  · rw [List.mem_singleton.1 h]; exact ht.2
theorem PickV {s : T_deliberationkeep_Src} (h : SrcOk s) {l : List Int} (h1 : 1 ≤ l.length) (h2 : l.length ≤ 100) : T (keep_Src_Pick_m s l) fun r => SrcOk r.2 ∧ r.1 ∈ l := by
  unfold keep_Src_Pick_m
  refine T.bind (N_plain h (by omega)) fun k hk => ?_
  obtain ⟨h3, h4⟩ := hk.2 (by omega)
  rw [idxM_eq h3 (by omega), some_bind]
  exact .ret ⟨hk.1, List.getElem_mem _⟩
theorem TextV {s : T_deliberationkeep_Src} (h : SrcOk s) {l : List ByteArray} (h1 : 1 ≤ l.length) (h2 : l.length ≤ 100) : T (keep_Src_Text_m s l) fun r => SrcOk r.2 ∧ r.1 ∈ l := by
  unfold keep_Src_Text_m
  refine T.bind (N_plain h (by omega)) fun k hk => ?_
  obtain ⟨h3, h4⟩ := hk.2 (by omega)
  rw [idxM_eq h3 (by omega), some_bind]
  exact .ret ⟨hk.1, List.getElem_mem _⟩

/-- an element put in at its place -/
theorem ins_asc {l : List Li} {x : Li} {k : Nat} (ha : AscL l) (hk : k ≤ l.length) (hb : ∀ i, i < k → (hi : i < l.length) → LtL l[i] x) (hn : (hk : k < l.length) → ¬ LtL l[k] x) (hne : ∀ hk : k < l.length, l[k] ≠ x) : AscL (l.take k ++ x :: l.drop k) := by
  have hlt : ∀ i j, (hij : i < j) → (hj : j < l.length) → LtL (l[i]'(by omega)) l[j] := fun i j hij hj => List.pairwise_iff_getElem.1 ha i j (by omega) hj hij
  have hup : ∀ y ∈ l.drop k, LtL x y := fun y hy => by
    obtain ⟨i, hi, hki, rfl⟩ := drop_mem.1 hy
    have h1 : LtL x (l[k]'(by omega)) := ltL_of (hn (by omega)) fun e => hne (by omega) e.symm
    rcases Nat.lt_or_ge k i with q | q
    · exact ltL_trans h1 (hlt k i q hi)
    · have : i = k := by omega
      subst this; exact h1
  have hdn : ∀ y ∈ l.take k, LtL y x := fun y hy => by
    obtain ⟨i, hi, hik, rfl⟩ := mem_take_iff.1 hy
    exact hb i hik hi
  refine List.pairwise_append.2 ⟨ha.sublist (List.take_sublist _ _), ?_, fun y hy z hz => ?_⟩
  · exact List.pairwise_cons.2 ⟨hup, ha.sublist (List.drop_sublist _ _)⟩
  · rcases List.mem_cons.1 hz with e | hz
    · rw [e]; exact hdn y hy
    · exact ltL_trans (hdn y hy) (hup z hz)
theorem cpO_ins {α : Type} {out : List α} {z t : α} {k : Nat} (hk : k ≤ out.length) : (cpO (out ++ [z]) ((k + 1 : Nat) : Int) ((out ++ [z]).length : Int) (k : Int) ((out ++ [z]).length : Int)).set k t = out.take k ++ t :: out.drop k := by
  unfold cpO
  simp only [Int.toNat_natCast, List.take_length]
  have e1 : (out ++ [z]).take (k + 1) = out.take k ++ [(out ++ [z])[k]'(by simp; omega)] := by
    rw [List.take_add_one, List.getElem?_eq_getElem (by simp; omega), List.take_append_of_le_length hk]; rfl
  have e2 : ((out ++ [z]).drop k).take ((out ++ [z]).length - (k + 1)) = out.drop k := by
    rw [List.drop_append_of_le_length hk, List.take_append_of_le_length (by simp), List.take_of_length_le (by simp)]
  have e3 : (out ++ [z]).drop (k + 1 + min ((out ++ [z]).drop k).length ((out ++ [z]).length - (k + 1))) = [] := List.drop_of_length_le (by simp; omega)
  rw [e1, e2, e3, List.append_nil, List.append_assoc, List.set_append_right _ _ (by simp; omega)]
  have : k - (out.take k).length = 0 := by simp; omega
  rw [this]; rfl
theorem srtV {l : List T_api_Literal} (hl : l.length ≤ 1000) : T (keep_sorted_m l) fun r => r.length ≤ l.length ∧ AscL r ∧ ∀ x ∈ r, x ∈ l := by
  unfold keep_sorted_m
  refine T.bind (P := fun q : List T_api_Literal => q.length ≤ l.length ∧ AscL q ∧ ∀ x ∈ q, x ∈ l) ?_ fun q hq => .ret hq
  refine T.loopK l.length (fun j s => s.1 = (j : Int) ∧ j ≤ l.length ∧ s.2.length ≤ j ∧ AscL s.2 ∧ ∀ x ∈ s.2, x ∈ l) ⟨rfl, by omega, by simp, List.Pairwise.nil, by simp⟩ ?_
  rintro j ⟨a, out⟩ ⟨e, hj, ho, ha, hm⟩
  simp only at e ho ha hm
  subst e
  dsimp only [keep_sorted_l1]
  refine T.cond (fun g => ?_) fun g => .ret ⟨by omega, ha, hm⟩
  have hj2 : j < l.length := by have := of_decide_eq_true g; omega
  rw [idxM_nat hj2, some_bind]
  have L2 : T (loopC (keep_sorted_l2 ((j : Int), out) l[j]) 0) fun q => ∃ k : Nat, q = (k : Int) ∧ k ≤ out.length ∧ (∀ i, i < k → (hi : i < out.length) → LtL out[i] l[j]) ∧ ((hk : k < out.length) → ¬ LtL out[k] l[j]) := by
    refine T.loopK out.length (fun i s => s = (i : Int) ∧ i ≤ out.length ∧ ∀ z, z < i → (hz : z < out.length) → LtL out[z] l[j]) ⟨rfl, by omega, by omega⟩ ?_
    rintro i _ ⟨rfl, hi, hb⟩
    dsimp only [keep_sorted_l2]
    refine T.cond (fun g => ?_) fun g => .ret ⟨i, rfl, hi, hb, fun h => absurd (of_decide_eq_false g) (by omega)⟩
    have hi2 : i < out.length := by have := of_decide_eq_true g; omega
    rw [idxM_nat hi2, some_bind, some_bind, some_bind, letM_eq, iadd1 (by omega)]
    have y : LtL out[i] l[j] → T (some (Sum.inr (((i + 1 : Nat) : Int))) : Option (Sum Int Int)) (onO (fun q => ∃ k : Nat, q = (k : Int) ∧ k ≤ out.length ∧ (∀ i, i < k → (hi : i < out.length) → LtL out[i] l[j]) ∧ ((hk : k < out.length) → ¬ LtL out[k] l[j])) fun s' => i < out.length ∧ s' = ((i + 1 : Nat) : Int) ∧ i + 1 ≤ out.length ∧ ∀ z, z < i + 1 → (hz : z < out.length) → LtL out[z] l[j]) := fun h => .ret ⟨hi2, rfl, hi2, fun z hz h2 => by
      rcases Nat.lt_or_ge z i with h3 | h3
      · exact hb z h3 h2
      · have : z = i := by omega
        subst this; exact h⟩
    have n : ¬ LtL out[i] l[j] → T (some (Sum.inl (i : Int)) : Option (Sum Int Int)) (onO (fun q => ∃ k : Nat, q = (k : Int) ∧ k ≤ out.length ∧ (∀ i, i < k → (hi : i < out.length) → LtL out[i] l[j]) ∧ ((hk : k < out.length) → ¬ LtL out[k] l[j])) fun s' => i < out.length ∧ s' = ((i + 1 : Nat) : Int) ∧ i + 1 ≤ out.length ∧ ∀ z, z < i + 1 → (hz : z < out.length) → LtL out[z] l[j]) := fun h => .ret ⟨i, rfl, hi, hb, fun _ => h⟩
    rw [bl_lt, ba_beq]
    refine T.cond (fun c1 => y (.inl (of_decide_eq_true c1))) fun c1 => T.cond (fun c2 => T.cond (fun c3 => T.cond (fun c4 => y (.inr ⟨of_decide_eq_true c2, by simpa using c3, c4⟩)) fun c4 => n ?_) fun c3 => n ?_) fun c2 => n ?_
    · rintro (h | ⟨_, _, h⟩)
      · exact of_decide_eq_false c1 h
      · rw [h] at c4; cases c4
    · rintro (h | ⟨_, h, _⟩)
      · exact of_decide_eq_false c1 h
      · rw [h] at c3; cases c3
    · rintro (h | ⟨h, _⟩)
      · exact of_decide_eq_false c1 h
      · exact of_decide_eq_false c2 h
  refine T.bind L2 ?_
  rintro _ ⟨k, rfl, hk, hb, hn⟩
  have build : (∀ hk : k < out.length, out[k] ≠ l[j]) → T (Option.bind (appM 24 out [(T_api_Literal.mk false ByteArray.empty)]) fun out89 =>
        Option.bind (slM out89 (iadd .i64 (k : Int) 1) (out89.length : Int)) fun t91 =>
        Option.bind (slM out89 (k : Int) (out89.length : Int)) fun t92 =>
        Option.bind (idxM (cpO out89 (iadd .i64 (k : Int) 1) (out89.length : Int) (k : Int) (out89.length : Int)) (k : Int)) fun t93 =>
        (some (Sum.inr (iadd .i64 (j : Int) 1, (cpO out89 (iadd .i64 (k : Int) 1) (out89.length : Int) (k : Int) (out89.length : Int)).set (Int.toNat (k : Int)) l[j])) : Option (Sum (List T_api_Literal) (Int × List T_api_Literal))))
      (onO (fun q : List T_api_Literal => q.length ≤ l.length ∧ AscL q ∧ ∀ x ∈ q, x ∈ l) fun s' => j < l.length ∧ s'.1 = ((j + 1 : Nat) : Int) ∧ j + 1 ≤ l.length ∧ s'.2.length ≤ j + 1 ∧ AscL s'.2 ∧ ∀ x ∈ s'.2, x ∈ l) := fun hne => by
    have hlen : (out ++ [T_api_Literal.mk false ByteArray.empty]).length = out.length + 1 := by simp
    rw [appM_eq (by simp; omega), some_bind, iadd1 (by omega), slM_eq (by omega) (by omega) (by omega), some_bind, slM_eq (by omega) (by omega) (by omega), some_bind]
    rw [idxM_eq (by omega) (by rw [cpO_len (by omega) (by omega) (by omega) (by omega)]; omega), some_bind, iadd1 (by omega), Int.toNat_natCast, cpO_ins hk]
    refine .ret ⟨hj2, rfl, hj2, by simp; omega, ins_asc ha hk hb hn hne, fun x hx => ?_⟩
    rcases List.mem_append.1 hx with h | h
    · exact hm x (List.mem_of_mem_take h)
    · rcases List.mem_cons.1 h with h | h
      · rw [h]; exact List.getElem_mem hj2
      · exact hm x (List.mem_of_mem_drop h)
  rw [joinM_eq]
  refine T.cond (fun c => ?_) fun c => build fun h => absurd (of_decide_eq_false c) (by omega)
  have hk2 : k < out.length := by have := of_decide_eq_true c; omega
  rw [idxM_nat hk2, some_bind]
  refine T.cond (fun c2 => ?_) fun c2 => build fun _ => of_decide_eq_false c2
  rw [iadd1 (by omega)]
  exact .ret ⟨hj2, rfl, hj2, by simp only; omega, ha, hm⟩
end Go.Dc
