/- Part J.Answers of a proof that a law of the program returns true: general lemmas, no condition. -/
import Derived.Test.YtplaoadjlcaodaaJLaws
set_option linter.unusedVariables false
set_option linter.unusedSimpArgs false
namespace Go.Dc
open Go.Dc.J

theorem law39_JournalAnswers_plain (raw rec_ : List Int) (index : Int) (l : List Int) (hraw : raw.length ≤ maxLen ∧ ∀ x ∈ raw, (Lit.int .u8 x).wf = true) (hrec : rec_.length ≤ maxLen ∧ ∀ x ∈ rec_, (Lit.int .u8 x).wf = true)
    (_ : (Lit.int .i64 index).wf = true) (_ : l.length ≤ maxLen ∧ ∀ x ∈ l, (Lit.int .i64 x).wf = true) :
    law39_JournalAnswers_m raw rec_ index l = some true := by
  have hR : B raw := fun x hx => by simpa [Lit.wf, IntKind.min, IntKind.max, IntKind.signed, IntKind.bits] using hraw.2 x hx
  have hC : B rec_ := fun x hx => by simpa [Lit.wf, IntKind.min, IntKind.max, IntKind.signed, IntKind.bits] using hrec.2 x hx
  clear hraw hrec
  refine T.eq ?_
  unfold law39_JournalAnswers_m
  simp only [awake_plain, some_bind]
  refine T.cond (fun _ => .ret rfl) fun g1 => T.cond (fun _ => .ret rfl) fun g2 => ?_
  simp at g1 g2
  refine T.bind New_plain fun s hs => T.bind (records_plain hs) fun ⟨r, s'⟩ ⟨hs', hr⟩ => ?_
  dsimp only at hr hs' ⊢
  have h70 := hr.len 0
  rw [written_plain hr, some_bind, appM_eq (by simp; omega), some_bind, List.nil_append]
  generalize hb : frames 0 r = b at *
  have hB : B b := hb ▸ hr.B 0
  -- what follows once c is chosen
  have rest : ∀ (L : List Int) (At : Int) (c : List Int), SrcOk ⟨L, At⟩ → B c → c.length ≤ 70 → T ((fun j18 : (List Int) × Int × (List Int) =>
          Option.bind (journal_Frame_m index rec_) fun t21 =>
          Option.bind (ref39_Frame_m index rec_) fun t23 =>
          bif t21.2 != t23.2 then
            some false
          else
            Option.bind (ref39_Same_m t21.1 t23.1) fun t25 =>
            bif !t25 then
              some false
            else
              Option.bind (journal_Sum_m raw) fun t26 =>
              Option.bind (ref39_Sum_m raw) fun t27 =>
              bif t26 != t27 then
                some false
              else
                joinM (fun j43 : (List (List Int)) × Int =>
                    Option.bind (loopC (law39_JournalAnswers_l1 rec_ j43) 0) (sumK (fun a : Bool => some a) fun q88 : Unit => some true)) fun k45 =>
                Option.bind (keep_Src_N_m (T_deliberationkeep_Src.mk j18.1 j18.2.1) (iadd .i64 (b.length : Int) 1)) fun t29 =>
                Option.bind (slM b 0 t29.1) fun t30 =>
                Option.bind (some b) fun t32 =>
                Option.bind (appM 1 t32 raw) fun t34 =>
                k45 ([raw, b, j18.2.2, t30, t34], ([raw, b, j18.2.2, t30, t34].length : Int))) (L, At, c)) (· = true) := fun L At c hS hc hcl => by
    dsimp only
    rw [Frame_plain hC, some_bind, rFrame_plain hC, some_bind]
    simp only [bne_self_eq_false, cond_false, Same_plain, some_bind, Bool.not_true]
    rw [Sum_plain hR (by omega), some_bind, rSum_plain hR (by omega), some_bind]
    simp only [bne_self_eq_false, cond_false]
    refine .join ?_
    rw [iadd64 (by omega) (by omega)]
    refine T.bind (N_plain hS (by omega)) fun t ⟨_, ht⟩ => ?_
    have ht := ht (by omega)
    rw [slM_eq (by omega) (by omega) (by omega), some_bind, appM_eq (by simp; omega), some_bind]
    generalize hxs : [raw, b, c, List.drop (Int.toNat 0) (b.take t.1.toNat), b ++ raw] = xs
    have hx5 : xs.length = 5 := by rw [← hxs]; rfl
    have hx : ∀ x ∈ xs, B x ∧ x.length ≤ 10000 := fun x hx => by
      rw [← hxs] at hx
      simp only [List.mem_cons, List.not_mem_nil, or_false] at hx
      rcases hx with rfl | rfl | rfl | rfl | rfl
      · exact ⟨hR, by omega⟩
      · exact ⟨hB, by omega⟩
      · exact ⟨hc, by omega⟩
      · exact ⟨(hB.take _).drop _, by simp; omega⟩
      · exact ⟨hB.app hR, by simp; omega⟩
    refine T.bind (P := (· = Sum.inr ())) (T.loop (fun s : Int => ∃ n : Nat, s = (n : Int) ∧ n ≤ xs.length) (fun s => xs.length - s.toNat) ⟨0, rfl, by omega⟩ ?_) fun q hq => by subst hq; exact .ret rfl
    rintro i ⟨n, rfl, h1⟩
    dsimp only [law39_JournalAnswers_l1]
    refine T.cond (fun h => ?_) fun h => .ret rfl
    simp at h
    obtain ⟨h2, h3⟩ := hx _ (List.getElem_mem h)
    have hle := read_le _ (i := 0) (Nat.le_refl xs[n].length)
    rw [idxM_nat h, some_bind, Read_plain h2 (by omega), some_bind, rRead_plain h2 (by omega), some_bind]
    simp only [bne_self_eq_false, cond_false]
    rw [SameAll_plain (by simp only [readR]; omega), some_bind]
    simp only [Bool.not_true, cond_false]
    rw [Repair_plain h2 (by omega), some_bind, rRepair_plain h2 (by omega), some_bind, Same_plain, some_bind]
    simp only [Bool.not_true, cond_false]
    rw [Append_plain h2 hC (by omega), some_bind, rAppend_plain h2 hC (by omega), some_bind]
    simp only [bne_self_eq_false, cond_false]
    rw [Same_plain, some_bind]
    simp only [Bool.not_true, cond_false]
    refine .ret ?_
    rw [iadd64 (by omega) (by omega)]
    exact ⟨⟨n + 1, by simp, by omega⟩, by omega⟩
  refine .join (T.cond (fun g3 => ?_) fun g3 => rest _ _ _ hs' hB (by omega))
  simp at g3
  refine T.bind (N_plain hs' (by omega)) fun t ⟨ht, hk⟩ => ?_
  have hk := hk (by omega)
  obtain ⟨m, hm⟩ := Int.eq_ofNat_of_zero_le hk.1
  rw [hm]
  have hmb : m < b.length := by omega
  rw [idxM_nat hmb, some_bind]
  refine T.bind (N_plain ht (by omega)) fun u ⟨hu, hk2⟩ => ?_
  have hk2 := hk2 (by omega)
  rw [some_bind]
  refine rest _ _ _ hu (hB.set ?_) (by simp; omega)
  unfold ixor
  rw [wrap8_mod]
  omega
end Go.Dc
