/- Part M.FuelM of a proof: lemmas. -/
import Derived.Test.YtmejeobfjojfeaaP26Main
import Derived.Test.YtmejeobfjojfeaaDcMap
import Derived.Test.YtmejeobfjojfeaaDcLend
import Derived.Test.YtmejeobfjojfeaaMDraw
set_option linter.unusedVariables false
set_option linter.unusedSimpArgs false
set_option linter.unusedSectionVars false
namespace Go.Dc

variable {l : Sl} {x : Li} {L : List Sl} {g : List Li}
def Sup (l : Sl) : Prop := ∀ c ∈ l, ∀ y ∈ c.Grounds, hasC l y = true
def KeptS (l r : Sl) : Prop := Ok r ∧ (Sup l → Sup r)

theorem c2_nil {c : Cm} (h : c.Grounds = []) : c2 c = true := by unfold c2; rw [h]; exact ascB_iff.2 List.Pairwise.nil
theorem put_plain (h : Ok l) {cd bd : Bool} (hcb : (cd && bd) = false) (hx : okL x = true) (h4 : hasC l (cmpl x) = false) (hn : hasC l x = true ∨ l.length < 40) : KeptS l (putC l ⟨x, cd, bd, []⟩) := by
 refine ⟨h.put rfl ?_ (c2_nil rfl) ?_ h4 hn, fun hs c hc y hy => ?_⟩
 ·unfold c1; rw [hx]; rfl
 ·cases cd <;> cases bd <;> first | rfl | cases hcb
 ·rw [put_has h.asc]
  rcases (put_mem h.asc).1 hc with q | q
  ·rw [q] at hy; cases hy
  ·rw [hs c q.1 y hy, Bool.or_true]
theorem no_cmpl (h : Ok l) (hx : hasC l x = true) : hasC l (cmpl x) = false := by
 obtain ⟨c, hc, e⟩ := hasC_iff.1 hx
 rw [← e]; exact h.c4 c hc
theorem assert_k (h : Ok l) (hx : okL x = true) (h0 : (assertP l x).1 = 0) : KeptS l (assertP l x).2 := by
 unfold assertP at h0 ⊢
 split at h0
 ·cases h0
 rename_i n1
 rw [if_neg n1]
 split at h0
 ·cases h0
 rename_i n2
 rw [if_neg n2]
 split at h0
 ·cases h0
 rename_i n3
 rw [if_neg n3]
 refine put_plain h rfl hx (by simpa using n2) ?_
 cases hh : hasC l x
 ·rw [hh] at n3; simp at n3; exact .inr n3
 ·exact .inl rfl
theorem challenge_k {lb : Sl} {s : Bool} (h : Ok l) (hx : okL x = true) (h0 : (challengeP l lb s x).1 = 0) : KeptS l (challengeP l lb s x).2 := by
 unfold challengeP at h0 ⊢
 split at h0
 ·cases h0
 rename_i n1
 rw [if_neg n1]
 split at h0
 ·cases h0
 rename_i n2
 rw [if_neg n2]
 split at h0
 ·cases h0
 rename_i n3
 rw [if_neg n3]
 split at h0
 ·cases h0
 rename_i n4
 rw [if_neg n4]
 have hh : hasC l x = true := by
  cases hh : hasC l x
  ·rw [hh] at n2; simp at n2
  ·rfl
 exact put_plain h rfl hx (no_cmpl h hh) (.inl hh)
theorem concede_k {b : Bool} (h : Ok l) (hx : okL x = true) (h0 : (concedeP l b x).1 = 0) : KeptS l (concedeP l b x).2 := by
 unfold concedeP at h0 ⊢
 split at h0
 ·cases h0
 rename_i n1
 rw [if_neg n1]
 split at h0
 ·cases h0
 rename_i n2
 rw [if_neg n2]
 split at h0
 ·cases h0
 rename_i n3
 rw [if_neg n3]
 split at h0
 ·cases h0
 rename_i n4
 rw [if_neg n4]
 exact put_plain h rfl hx (by simpa using n3) (.inr (by simpa using n4))
theorem asc_nodup {l : List Li} (h : AscL l) : l.Nodup := List.Pairwise.imp (R := LtL) (S := (· ≠ ·)) (fun {a b} hxy e => ltL_irr a (by rw [← e] at hxy; exact hxy)) h
theorem argue_k (h : Ok l) (h0 : (argueP l x g).1 = 0) : KeptS l (argueP l x g).2 := by
 unfold argueP at h0 ⊢
 split at h0
 ·cases h0
 rename_i n1
 rw [if_neg n1]
 split at h0
 ·rename_i n2; exact absurd h0 n2
 rename_i n2
 rw [if_neg n2]
 have hh : hasC l x = true := by
  cases hh : hasC l x
  ·rw [hh] at n1; simp at n1
  ·rfl
 have n2 : groundsP l x g = 0 := Classical.not_not.1 n2
 unfold groundsP at n2
 split at n2
 ·cases n2
 split at n2
 ·cases n2
 rename_i m1 m2
 split at n2
 ·cases n2
 split at n2
 ·cases n2
 rename_i m3 m4
 split at n2
 ·cases n2
 split at n2
 ·cases n2
 split at n2
 ·cases n2
 rename_i m5 m6 m7
 have a2 : g.length ≤ 6 := by simpa using m2
 have a3 : g.all okL = true := by simpa using m3
 have a4 : AscL g := ascB_iff.1 (by simpa using m4)
 have a5 : inB g x = false := by simpa using m5
 rw [Bool.not_eq_true, Bool.or_eq_false_iff] at m6
 have a6 : ∀ y ∈ g, hasC l (cmpl y) = false := fun y hy => by simpa using List.any_eq_false.1 m6.1 y hy
 have a7 : ∀ y ∈ g, inB g (cmpl y) = false := fun y hy => by
  have := m6.2
  unfold conB at this
  rw [Bool.not_not] at this
  simpa using List.any_eq_false.1 this y hy
 have a8 : l.length + (g.countP fun y => !hasC l y) ≤ 40 := by simpa using m7
 have nd := asc_nodup a4
 have hx1 : okL x = true := by
  obtain ⟨c, hc, e⟩ := hasC_iff.1 hh
  rw [← e]; exact (h.c1 c hc).1
 have base : Ok (putC l ⟨x, false, false, g⟩) := by
  refine h.put (decide_eq_true a2) ?_ (ascB_iff.2 a4) ?_ (no_cmpl h hh) (.inl hh)
  ·unfold c1; rw [hx1, a3]; rfl
  ·unfold c3; dsimp only; rw [a5]; rfl
 have hasB : ∀ z, hasC (putC l ⟨x, false, false, g⟩) z = hasC l z := fun z => by
  rw [put_has h.asc]
  cases hd : decide (x = z)
  ·rfl
  ·rw [← of_decide_eq_true hd, hh]; rfl
 have lenB : (putC l ⟨x, false, false, g⟩).length = l.length := by rw [put_len h.asc]; dsimp only; rw [hh]; rfl
 have key : ∀ k, k ≤ g.length → Ok ((g.take k).foldl putN (putC l ⟨x, false, false, g⟩)) ∧ (∀ z, hasC ((g.take k).foldl putN (putC l ⟨x, false, false, g⟩)) z = (hasC l z || inB (g.take k) z)) ∧ ((g.take k).foldl putN (putC l ⟨x, false, false, g⟩)).length = l.length + ((g.take k).countP fun y => !hasC l y) ∧ ∀ c ∈ (g.take k).foldl putN (putC l ⟨x, false, false, g⟩), c ∈ l ∨ c.Grounds = [] ∨ c.Grounds = g := by
  intro k
  induction k with
  | zero =>
   intro _
   refine ⟨base, fun z => ?_, lenB, fun c hc => ?_⟩
   ·show hasC (putC l ⟨x, false, false, g⟩) z = _
    rw [hasB]; simp [inB]
   ·rcases (put_mem h.asc).1 hc with q | q
    ·exact .inr (.inr (by rw [q]))
    ·exact .inl q.1
  | succ k ih =>
   intro hk
   obtain ⟨i1, i2, i3, i4⟩ := ih (by omega)
   have hk2 : k < g.length := by omega
   have hm := List.getElem_mem hk2
   rw [foldl_succ hk2, count_succ hk2]
   generalize (g.take k).foldl putN (putC l ⟨x, false, false, g⟩) = M at i1 i2 i3 i4
   have hnot : inB (g.take k) g[k] = false := by
    rw [← Bool.not_eq_true, inB_iff]
    intro q
    obtain ⟨i, hi, e⟩ := List.mem_take_iff_getElem.1 q
    have := List.pairwise_iff_getElem.1 nd i k (by omega) hk2 (by omega)
    exact this e
   have hsame : hasC M g[k] = hasC l g[k] := by rw [i2, hnot, Bool.or_false]
   have hin : ∀ z, inB (g.take (k + 1)) z = (inB (g.take k) z || decide (g[k] = z)) := fun z => by
    unfold inB; rw [take_succ' hk2, List.any_append]; simp
   have htot : (g.take (k + 1)).countP (fun y => !hasC l y) ≤ g.countP fun y => !hasC l y := List.Sublist.countP_le (List.take_sublist _ _)
   rw [count_succ hk2] at htot
   cases hc : hasC l g[k]
   ·have hMc : hasC M g[k] = false := by rw [hsame, hc]
    have hpn : putN M g[k] = putC M ⟨g[k], false, false, []⟩ := by unfold putN; rw [hMc]; rfl
    rw [hc] at htot
    simp only [Bool.not_false, if_true] at htot
    have hncm : hasC M (cmpl g[k]) = false := by
     rw [i2, a6 _ hm, Bool.false_or, ← Bool.not_eq_true, inB_iff]
     intro q
     have := a7 _ hm
     rw [← Bool.not_eq_true, inB_iff] at this
     exact this (List.mem_of_mem_take q)
    rw [hpn]
    refine ⟨(put_plain i1 rfl (List.all_eq_true.1 a3 _ hm) hncm (.inr (by omega))).1, fun z => ?_, ?_, fun c hcm => ?_⟩
    ·rw [put_has i1.asc, i2, hin]
     dsimp only
     cases decide (g[k] = z) <;> cases hasC l z <;> cases inB (g.take k) z <;> rfl
    ·rw [put_len i1.asc, i3]; dsimp only; rw [hMc]; simp; omega
    ·rcases (put_mem i1.asc).1 hcm with q | q
     ·exact .inr (.inl (by rw [q]))
     ·exact i4 c q.1
   ·have hMc : hasC M g[k] = true := by rw [hsame, hc]
    have hpn : putN M g[k] = M := by unfold putN; rw [hMc]; rfl
    rw [hpn]
    refine ⟨i1, fun z => ?_, by rw [i3]; simp, i4⟩
    rw [i2, hin]
    cases hd : decide (g[k] = z)
    ·rw [Bool.or_false]
    ·rw [← of_decide_eq_true hd, hc]; simp
 obtain ⟨j1, j2, j3, j4⟩ := key g.length (Nat.le_refl _)
 rw [List.take_length] at j1 j2 j3 j4
 refine ⟨j1, fun hs c hc y hy => ?_⟩
 dsimp only at hc ⊢
 rw [j2]
 rcases j4 c hc with q | q | q
 ·rw [hs c q y hy]; rfl
 ·rw [q] at hy; cases hy
 ·rw [q] at hy; rw [inB_iff.2 hy, Bool.or_true]

theorem ret_claims : (retP l x).map (·.Claim) = (outC l x).map (·.Claim) := by
 unfold retP
 rw [List.map_map]
 refine List.map_congr_left fun c _ => ?_
 show (if inB c.Grounds x then (⟨c.Claim, false, true, []⟩ : Cm) else c).Claim = c.Claim
 split <;> rfl
theorem ret_mem {c : Cm} (h : c ∈ retP l x) : ∃ d ∈ l, d.Claim ≠ x ∧ c.Claim = d.Claim ∧ ((inB d.Grounds x = true ∧ c = ⟨d.Claim, false, true, []⟩) ∨ (inB d.Grounds x = false ∧ c = d)) := by
 unfold retP at h
 obtain ⟨d, hd, rfl⟩ := List.mem_map.1 h
 obtain ⟨h1, h2⟩ := List.mem_filter.1 hd
 refine ⟨d, h1, by simpa using h2, ?_, ?_⟩
 ·split <;> rfl
 ·cases hi : inB d.Grounds x
  ·exact .inr ⟨rfl, by simp⟩
  ·exact .inl ⟨rfl, by simp⟩
theorem ret_has (y : Li) : hasC (retP l x) y = (hasC l y && !decide (y = x)) := by
 have e : ∀ m : Sl, hasC m y = decide (y ∈ m.map (·.Claim)) := fun m => by
  rw [Bool.eq_iff_iff, hasC_iff, decide_eq_true_iff, List.mem_map]
 rw [e, ret_claims, ← e, Bool.eq_iff_iff, Bool.and_eq_true, hasC_iff, hasC_iff, Bool.not_eq_true', decide_eq_false_iff_not]
 constructor
 ·rintro ⟨c, hc, e⟩
  obtain ⟨h1, h2⟩ := List.mem_filter.1 hc
  exact ⟨⟨c, h1, e⟩, fun q => by rw [e, q] at h2; simp at h2⟩
 ·rintro ⟨⟨c, hc, e⟩, hn⟩
  exact ⟨c, List.mem_filter.2 ⟨hc, by rw [e, decide_eq_false hn]; rfl⟩, e⟩
theorem ret_len (h : hasC l x = true) : (retP l x).length < l.length := by
 unfold retP
 rw [List.length_map]
 obtain ⟨c, hc, e⟩ := hasC_iff.1 h
 have : (outC l x).length ≠ l.length := fun q => by
  have h3 : outC l x = l := List.Sublist.eq_of_length List.filter_sublist q
  rw [← h3] at hc
  have := (List.mem_filter.1 hc).2
  rw [decide_eq_true e] at this; cases this
 have h2 : (outC l x).length ≤ l.length := List.length_filter_le _ _
 omega
theorem ret_k (h : Ok l) : KeptS l (retP l x) := by
 have hle : (retP l x).length ≤ l.length := by unfold retP; rw [List.length_map]; exact List.length_filter_le _ _
 have all : ∀ p : Cm → Bool, (∀ c, c ∈ l → p ⟨c.Claim, false, true, []⟩ = true) → (∀ c ∈ l, p c = true) → (retP l x).all p = true := fun p h1 h2 => by
  rw [List.all_eq_true]
  intro c hc
  obtain ⟨d, hd, _, _, q⟩ := ret_mem hc
  rcases q with ⟨_, q⟩ | ⟨_, q⟩
  ·rw [q]; exact h1 d hd
  ·rw [q]; exact h2 d hd
 refine ⟨⟨?_, all _ (fun c hc => ?_) fun c hc => ?_, ?_, all _ (fun c hc => rfl) fun c hc => h.c3 c hc, ?_⟩, fun hs c hc y hy => ?_⟩
 ·unfold r0
  rw [Bool.and_eq_true]
  exact ⟨decide_eq_true (by have := h.len; omega), all _ (fun _ _ => rfl) fun c hc => decide_eq_true (h.g6 c hc)⟩
 ·unfold c1; rw [(h.c1 c hc).1]; rfl
 ·unfold c1; rw [(h.c1 c hc).1, (h.c1 c hc).2]; rfl
 ·unfold r2
  rw [Bool.and_eq_true, ascB_iff, ret_claims]
  refine ⟨List.Pairwise.sublist (List.Sublist.map _ List.filter_sublist) h.asc, all _ (fun _ _ => c2_nil rfl) fun c hc => ascB_iff.2 (h.c2 c hc)⟩
 ·unfold r4
  rw [List.all_eq_true]
  intro c hc
  obtain ⟨d, hd, _, e, _⟩ := ret_mem hc
  rw [ret_has, e, h.c4 d hd]; rfl
 ·obtain ⟨d, hd, hn, e, q⟩ := ret_mem hc
  rcases q with ⟨_, q⟩ | ⟨q1, q⟩
  ·rw [q] at hy; cases hy
  ·subst q
   rw [ret_has, hs _ hd y hy, Bool.true_and, decide_eq_false fun e2 => ?_]; rfl
   rw [← Bool.not_eq_true, inB_iff] at q1
   exact q1 (e2 ▸ hy)
theorem retract_k (h : Ok l) (h0 : (retractP l x).1 = 0) : KeptS l (retractP l x).2 := by
 unfold retractP at h0 ⊢
 split at h0
 ·cases h0
 rename_i n
 rw [if_neg n]
 exact ret_k h

structure Acted (L L' : List Sl) (w : Int) : Prop where
 mem : memB w L = true
 ok : OkA L'
 len : L'.length = L.length
 out : ∀ i, i ≠ w.toNat → L'[i]? = L[i]?
 sup : (∀ l ∈ L, Sup l) → ∀ l ∈ L', Sup l
theorem set_ok (hO : OkA L) {w : Int} (hm : memB w L = true) {r : Sl} (hk : KeptS (L.getD w.toNat []) r) : Acted L (L.set w.toNat r) w := by
 obtain ⟨n, rfl, hn⟩ := mem_nat hm
 rw [toNat_n] at hk ⊢
 rw [getD_at hn] at hk
 have key : ∀ P : Sl → Prop, (∀ l ∈ L, P l) → P r → ∀ l ∈ L.set n r, P l := fun P h1 h2 l hl => by
  rcases List.mem_or_eq_of_mem_set hl with q | q
  ·exact h1 l q
  ·exact q ▸ h2
 exact ⟨hm, ⟨by rw [List.length_set]; exact hO.n, key _ hO.ok hk.1⟩, List.length_set, fun i hi => List.getElem?_set_ne (Ne.symm hi), fun hs => key _ hs (hk.2 (hs _ (List.getElem_mem hn)))⟩
theorem say_act {sp : T_api_Speech} (h : (sayP L sp).1 = 0) : OkA L ∧ Acted L (sayP L sp).2 (if sp.Kind = 2 then sp.To else sp.By) := by
 unfold sayP at h ⊢
 split at h
 ·rename_i q; exact absurd h q
 rename_i n1
 have hO := vcode_zero.1 (Classical.not_not.1 n1)
 rw [if_neg n1]
 split at h
 ·cases h
 rename_i n2
 rw [if_neg n2]
 split at h
 ·cases h
 rename_i n3
 rw [if_neg n3]
 split at h
 ·cases h
 rename_i n4
 rw [if_neg n4]
 have hx : okL sp.Claim = true := by simpa using n4
 have hby : memB sp.By L = true := by
  cases q : memB sp.By L
  ·rw [q] at n3; simp at n3
  ·rfl
 have okat : ∀ {w : Int}, memB w L = true → Ok (L.getD w.toNat []) := fun {w} hm => by
  obtain ⟨n, rfl, hn⟩ := mem_nat hm
  rw [toNat_n, getD_at hn]; exact hO.ok _ (List.getElem_mem hn)
 refine ⟨hO, ?_⟩
 have ha : (actP L sp).2.1 = 0 := by
  unfold doneP at h
  split at h
  ·assumption
  ·exact h
 have hd : (doneP L (actP L sp)).2 = L.set (actP L sp).1 (actP L sp).2.2 := by unfold doneP; rw [if_pos ha]
 rw [hd]
 unfold actP at ha ⊢
 by_cases k1 : sp.Kind = 1
 ·rw [if_pos k1] at ha ⊢
  rw [if_neg (by omega)]
  exact set_ok hO hby (assert_k (okat hby) hx ha)
 rw [if_neg k1] at ha ⊢
 by_cases k2 : sp.Kind = 2
 ·rw [if_pos k2] at ha ⊢
  rw [if_pos k2]
  have hto : memB sp.To L = true := by
   cases q : memB sp.To L
   ·rw [hby, q, k2] at n3; simp at n3
   ·rfl
  exact set_ok hO hto (challenge_k (okat hto) hx ha)
 rw [if_neg k2] at ha ⊢
 rw [if_neg k2]
 by_cases k3 : sp.Kind = 3
 ·rw [if_pos k3] at ha ⊢
  exact set_ok hO hby (argue_k (okat hby) ha)
 rw [if_neg k3] at ha ⊢
 by_cases k4 : sp.Kind = 4
 ·rw [if_pos k4] at ha ⊢
  exact set_ok hO hby (concede_k (okat hby) hx ha)
 rw [if_neg k4] at ha ⊢
 exact set_ok hO hby (retract_k (okat hby) ha)
end Go.Dc

namespace Go.Dc

variable {l : Sl} {x : Li} {L : List Sl} {g : List Li}
def burP (l : Sl) : List Li := (l.filter (·.Burden)).map (·.Claim)
noncomputable def burdensP (L : List Sl) (n : Int) : List Li := if decide (vcode L = 0) && memB n L then burP (L.getD n.toNat []) else []
theorem bur_succ {k : Nat} (hk : k < l.length) : burP (l.take (k + 1)) = if l[k].Burden then burP (l.take k) ++ [l[k].Claim] else burP (l.take k) := by
 unfold burP
 rw [take_succ' hk, List.filter_append, List.map_append, List.filter_cons]
 split <;> simp
theorem bur_len : (burP l).length ≤ l.length := by unfold burP; rw [List.length_map]; exact List.length_filter_le _ _
theorem usable_eq (hB : Bd L) (n : Int) : commitment_usable_m ⟨L⟩ n = some (decide (vcode L = 0) && memB n L) := by
 unfold commitment_usable_m memB
 dsimp only
 rw [progVal hB, some_bind]
 have e1 : ((vcode L) == 0) = decide (vcode L = 0) := rfl
 have e2 : decide (n ≥ 0) = decide (0 ≤ n) := rfl
 rw [e1, e2]
 cases decide (vcode L = 0) <;> cases decide (0 ≤ n) <;> rfl
theorem burdens_p (hB : Bd L) (n : Int) : commitment_Burdens_m ⟨L⟩ n = some (burdensP L n) := by
 refine T.eq ?_
 unfold commitment_Burdens_m burdensP
 rw [usable_eq hB, some_bind]
 cases hv : decide (vcode L = 0)
 ·exact .ret rfl
 have hO := vcode_zero.1 (of_decide_eq_true hv)
 cases hm : memB n L
 ·exact .ret rfl
 obtain ⟨w, rfl, hw⟩ := mem_nat hm
 have hlen := (hO.ok _ (List.getElem_mem hw)).len
 rw [Bool.true_and, Bool.not_true, cond_false, if_pos rfl, toNat_n, getD_at hw]
 dsimp only
 rw [idxM_nat hw, some_bind]
 refine T.bind (P := fun q => q = burP L[w]) ?_ fun q hq => .ret hq
 refine T.loopK L[w].length (fun k s => s = ((k : Int), burP (L[w].take k)) ∧ k ≤ L[w].length) ⟨rfl, by omega⟩ ?_
 rintro k _ ⟨rfl, hk⟩
 unfold commitment_Burdens_l1
 dsimp only
 refine T.cond (fun gd => ?_) fun gd => ?_
 ·have hk2 : k < L[w].length := by have := of_decide_eq_true gd; omega
  have hbl : (burP (L[w].take k)).length ≤ 40 := Nat.le_trans bur_len (by simp; omega)
  rw [idxM_nat hk2, some_bind, iaddS (by omega), bur_succ hk2]
  refine T.cond (fun e => ?_) fun e => ?_
  ·rw [appM_eq (by simp; omega), some_bind]
   exact .ret ⟨hk2, by rw [if_pos e], hk2⟩
  ·exact .ret ⟨hk2, by rw [if_neg (by rw [e]; decide)], hk2⟩
 ·have hk2 : k = L[w].length := by have := of_decide_eq_false gd; omega
  subst hk2
  exact .ret (by rw [List.take_length])
theorem burdens_r (hB : Bd L) (n : Int) : ref26_Burdens_m ⟨L⟩ n = some (burdensP L n) := by
 refine T.eq ?_
 unfold ref26_Burdens_m burdensP
 rw [refVal hB, some_bind, mem_r, some_bind]
 by_cases hv : vcode L = 0
 ·have hO := vcode_zero.1 hv
  rw [hv, bne_self_eq_false, cond_false, decide_eq_true rfl, Bool.true_and]
  cases hm : memB n L
  ·exact .ret rfl
  obtain ⟨w, rfl, hw⟩ := mem_nat hm
  have hlen := (hO.ok _ (List.getElem_mem hw)).len
  rw [Bool.not_true, cond_false, if_pos rfl, toNat_n, getD_at hw]
  refine T.bind (P := fun q => q = burP L[w]) ?_ fun q hq => .ret hq
  refine T.loopK L[w].length (fun k s => s = ((k : Int), burP (L[w].take k)) ∧ k ≤ L[w].length) ⟨rfl, by omega⟩ ?_
  rintro k _ ⟨rfl, hk⟩
  unfold ref26_Burdens_l1
  dsimp only
  rw [idxM_nat hw, some_bind]
  refine T.cond (fun gd => ?_) fun gd => ?_
  ·have hk2 : k < L[w].length := by have := of_decide_eq_true gd; omega
   have hbl : (burP (L[w].take k)).length ≤ 40 := Nat.le_trans bur_len (by simp; omega)
   rw [some_bind, idxM_nat hk2, some_bind, iaddS (by omega), bur_succ hk2]
   refine T.cond (fun e => ?_) fun e => ?_
   ·rw [some_bind, idxM_nat hk2, some_bind, appM_eq (by simp; omega), some_bind]
    exact .ret ⟨hk2, by rw [if_pos e], hk2⟩
   ·exact .ret ⟨hk2, by rw [if_neg (by rw [e]; decide)], hk2⟩
  ·have hk2 : k = L[w].length := by have := of_decide_eq_false gd; omega
   subst hk2
   exact .ret (by rw [List.take_length])
 ·rw [bne_iff_ne.2 hv, cond_true, decide_eq_false hv]
  exact .ret rfl
theorem bur_ok (hO : OkA L) {w : Nat} (hw : w < L.length) : burdensP L (w : Int) = burP L[w] := by
 unfold burdensP
 rw [decide_eq_true (vcode_zero.2 hO), toNat_n, getD_at hw]
 have : memB (w : Int) L = true := by unfold memB; rw [decide_eq_true (by omega), decide_eq_true (by omega)]; rfl
 rw [this]; rfl
theorem bur_has {y : Li} {m : List Li} (h : burP l = y :: m) : hasC l y = true := by
 have : y ∈ burP l := by rw [h]; exact List.mem_cons_self ..
 unfold burP at this
 obtain ⟨c, hc, e⟩ := List.mem_map.1 this
 exact hasC_iff.2 ⟨c, (List.mem_filter.1 hc).1, e⟩

structure Dft (l r : Sl) : Prop where
 ok : Ok r
 bur : burP r = []
 sup : Sup l → Sup r
 sub : ∀ c ∈ r, hasC l c.Claim = true
def defP : Nat → Sl → Sl
 | 0, l => l
 | n + 1, l => match burP l with
  | [] => l
  | y :: _ => defP n (retP l y)
theorem defP_ok : ∀ (n : Nat) {l : Sl}, Ok l → l.length ≤ n → Dft l (defP n l)
 | 0, l, h, hn => by
  have he : l = [] := List.eq_nil_of_length_eq_zero (by omega)
  subst he
  exact ⟨h, rfl, id, fun c hc => by cases hc⟩
 | n + 1, l, h, hn => by
  unfold defP
  split
  ·rename_i hb
   exact ⟨h, hb, id, fun c hc => hasC_iff.2 ⟨c, hc, rfl⟩⟩
  ·rename_i y m hb
   have hy := bur_has hb
   have hk := ret_k (x := y) h
   have hlt := ret_len hy
   have ih := defP_ok n hk.1 (by omega)
   exact ⟨ih.ok, ih.bur, fun s => ih.sup (hk.2 s), fun c hc => by
    have := ih.sub c hc
    rw [ret_has, Bool.and_eq_true] at this
    exact this.1⟩
theorem set_ret (hO : OkA L) {w : Nat} (hw : w < L.length) (y : Li) : Acted L (L.set w (retP L[w] y)) (w : Int) := by
 have hm : memB (w : Int) L = true := by unfold memB; rw [decide_eq_true (by omega), decide_eq_true (by omega)]; rfl
 have hA := set_ok (r := retP L[w] y) hO hm (by rw [toNat_n, getD_at hw]; exact ret_k (hO.ok _ (List.getElem_mem hw)))
 rwa [toNat_n] at hA
theorem stop_p (hO : OkA L) {w : Nat} (hw : w < L.length) (hb : burP L[w] = []) : commitment_Default_l1 (w : Int) L = some (.inl (⟨L.set w L[w]⟩, 0)) := by
 unfold commitment_Default_l1
 rw [burdens_p hO.bd, bur_ok hO hw, some_bind, hb, set_self hw]; rfl
theorem def_p : ∀ (n : Nat) (L : List Sl) (w : Nat), OkA L → (hw : w < L.length) → L[w].length ≤ n → loopC (commitment_Default_l1 (w : Int)) L = some (⟨L.set w (defP n L[w])⟩, 0) := by
 intro n
 induction n with
 | zero =>
  intro L w hO hw hn
  have he : L[w] = [] := List.eq_nil_of_length_eq_zero (by omega)
  rw [loopC_eq, stop_p hO hw (by rw [he]; rfl)]; rfl
 | succ n ih =>
  intro L w hO hw hn
  unfold defP
  split
  ·rename_i hb
   rw [loopC_eq, stop_p hO hw hb]; rfl
  ·rename_i y m hb
   have hy := bur_has hb
   have hok := hO.ok _ (List.getElem_mem hw)
   have hm : memB (w : Int) L = true := by unfold memB; rw [decide_eq_true (by omega), decide_eq_true (by omega)]; rfl
   have hA := set_ret hO hw y
   have hw2 : w < (L.set w (retP L[w] y)).length := by simpa using hw
   have hat : (L.set w (retP L[w] y))[w] = retP L[w] y := by simp
   have hlt := ret_len hy
   have h3 := ih (L.set w (retP L[w] y)) w hA.ok hw2 (by rw [hat]; omega)
   rw [List.set_set, hat] at h3
   rw [loopC_eq]
   have : commitment_Default_l1 (w : Int) L = some (.inr (L.set w (retP L[w] y))) := by
    unfold commitment_Default_l1
    rw [burdens_p hO.bd, bur_ok hO hw, some_bind, hb]
    have e : ((((y :: m).length : Nat) : Int) == 0) = false := by rw [beq_eq_false_iff_ne]; simp; omega
    rw [e, cond_false, show (0 : Int) = ((0 : Nat) : Int) from rfl, idxM_nat (by simp), some_bind, List.getElem_cons_zero, say_p hO.bd (by simp), some_bind]
    have hs : sayP L ⟨5, (w : Int), ((0 : Nat) : Int), y, []⟩ = (0, L.set w (retP L[w] y)) := by
     obtain ⟨c, hc, ec⟩ := hasC_iff.1 hy
     have hoy : okL y = true := by rw [← ec]; exact (hok.c1 c hc).1
     have ha : actP L ⟨5, (w : Int), ((0 : Nat) : Int), y, []⟩ = (w, (0, retP L[w] y)) := by
      unfold actP
      dsimp only
      rw [if_neg (show ¬ (5 : Int) = 1 by decide), if_neg (show ¬ (5 : Int) = 2 by decide), if_neg (show ¬ (5 : Int) = 3 by decide), if_neg (show ¬ (5 : Int) = 4 by decide), toNat_n, getD_at hw]
      unfold retractP
      rw [hy]; rfl
     unfold sayP
     rw [if_neg (by rw [vcode_zero.2 hO]; simp), ha]
     dsimp only
     rw [show (decide ((5 : Int) < 1) || decide (5 < (5 : Int))) = false from rfl, if_neg Bool.false_ne_true, hm, show (!true || (decide ((5 : Int) = 2) && !memB ((0 : Nat) : Int) L)) = false from rfl, if_neg Bool.false_ne_true, hoy]
     rfl
    rw [hs]
   rw [this]
   exact h3
noncomputable def defA (L : List Sl) (n : Int) : T_api_Stores × Int :=
 if vcode L ≠ 0 then (⟨[]⟩, vcode L) else if memB n L then (⟨L.set n.toNat (defP (L.getD n.toNat []).length (L.getD n.toNat []))⟩, 0) else (⟨[]⟩, 1)
theorem default_p (hB : Bd L) (n : Int) : commitment_Default_m ⟨L⟩ n = some (defA L n) := by
 unfold commitment_Default_m defA
 dsimp only
 rw [progVal hB, some_bind]
 by_cases hv : vcode L = 0
 ·have hO := vcode_zero.1 hv
  rw [hv, bne_self_eq_false, cond_false, if_neg (by simp)]
  cases hm : memB n L
  ·rw [if_neg (by simp)]
   unfold memB at hm
   rw [Bool.and_eq_false_iff, decide_eq_false_iff_not, decide_eq_false_iff_not] at hm
   by_cases h0 : n < 0
   ·rw [decide_eq_true h0]; rfl
   ·rw [decide_eq_false h0, cond_false, decide_eq_true (by omega)]; rfl
  ·obtain ⟨w, rfl, hw⟩ := mem_nat hm
   rw [if_pos rfl, toNat_n, getD_at hw, decide_eq_false (by omega), cond_false, decide_eq_false (by omega), cond_false, copied_eq hO, some_bind, def_p L[w].length L w hO hw (Nat.le_refl _)]; rfl
 ·rw [bne_iff_ne.2 hv, if_pos hv]; rfl
theorem defA_nat (hO : OkA L) {w : Nat} (hw : w < L.length) : defA L (w : Int) = (⟨L.set w (defP L[w].length L[w])⟩, 0) := by
 unfold defA
 have hm : memB (w : Int) L = true := by unfold memB; rw [decide_eq_true (by omega), decide_eq_true (by omega)]; rfl
 rw [if_neg (by rw [vcode_zero.2 hO]; simp), hm, if_pos rfl, toNat_n, getD_at hw]
theorem set_okS (hO : OkA L) {w : Nat} {r : Sl} (hr : Ok r) : OkA (L.set w r) := ⟨by rw [List.length_set]; exact hO.n, fun l hl => by
 rcases List.mem_or_eq_of_mem_set hl with q | q
 ·exact hO.ok l q
 ·exact q ▸ hr⟩
end Go.Dc

namespace Go.Dc

theorem Mod_plain {x n : Int} (hn : n ≤ 9223372036854775807) : T (keep_Mod_m x n) fun r => 1 ≤ n → 0 ≤ r ∧ r < n := by
 unfold keep_Mod_m
 refine T.cond (fun h => .ret fun h1 => ?_) fun h => ?_
 ·simp at h; omega
 ·simp at h
  have h1 : iremM .i64 x n = some (x.tmod n) := by unfold iremM; rw [if_neg (by omega)]; rfl
  have h2 := Int.tmod_lt_of_pos x (show 0 < n by omega)
  have h3 := Int.lt_tmod_of_pos x (show 0 < n by omega)
  rw [h1]
  refine T.bind (T.ret rfl) fun a ha => ?_
  subst ha
  refine T.cond (fun h => .ret fun _ => ?_) fun h => .ret fun _ => ?_
  ·simp at h; rw [iadd64 (by omega) (by omega)]; omega
  ·simp at h; omega

def SrcK (s : T_deliberationkeep_Src) : Prop := 0 ≤ s.At ∧ s.L.length ≤ 2000

theorem Raw_plain {s : T_deliberationkeep_Src} (h : SrcK s) : T (keep_Src_Raw_m s) fun r => SrcK r.2 := by
 unfold keep_Src_Raw_m
 obtain ⟨h1, h2⟩ := h
 refine T.cond (fun h => .ret ⟨h1, h2⟩) fun h => ?_
 simp at h
 rw [iadd64 (by omega) (by omega), isub64 (by omega) (by omega), idxM_eq (by omega) (by omega)]
 exact T.bind (T.ret rfl) fun a _ => .ret ⟨by simp only; omega, h2⟩

theorem N_plain {s : T_deliberationkeep_Src} (h : SrcK s) {n : Int} (hn : n ≤ 9223372036854775807) : T (keep_Src_N_m s n) fun r => SrcK r.2 ∧ (1 ≤ n → 0 ≤ r.1 ∧ r.1 < n) := by
 unfold keep_Src_N_m
 exact T.bind (Raw_plain h) fun t ht => T.bind (Mod_plain hn) fun a ha => .ret ⟨ht, ha⟩

theorem New_plain {l : List Int} : T (keep_New_m l) fun r => SrcK ⟨r.1, r.2⟩ := by
 unfold keep_New_m
 have h : imin (l.length : Int) 2000 = (l.length : Int) ∨ imin (l.length : Int) 2000 = 2000 := by unfold imin; split <;> simp
 have h2 : 0 ≤ imin (l.length : Int) 2000 ∧ imin (l.length : Int) 2000 ≤ l.length ∧ imin (l.length : Int) 2000 ≤ 2000 := by unfold imin; split <;> omega
 rw [slM_eq (by omega) (by omega) (by omega)]
 exact T.bind (T.ret rfl) fun a ha => .ret ⟨by simp, by subst ha; simp; omega⟩
theorem Range_plain {s : T_deliberationkeep_Src} (h : SrcK s) {lo hi : Int} (h0 : -1000000 ≤ lo) (h1 : lo ≤ hi) (h2 : hi ≤ 1000000) : T (keep_Src_Range_m s lo hi) fun r => SrcK r.2 ∧ lo ≤ r.1 ∧ r.1 ≤ hi := by
 unfold keep_Src_Range_m
 rw [isub64 (by omega) (by omega), iadd64 (by omega) (by omega)]
 refine T.bind (N_plain h (by omega)) fun t ⟨ht, hb⟩ => ?_
 have := hb (by omega)
 rw [iadd64 (by omega) (by omega)]
 exact .ret ⟨ht, by simp only; omega, by simp only; omega⟩
theorem More_plain (s : T_deliberationkeep_Src) : T (keep_Src_More_m s) fun _ => True := ⟨_, rfl, trivial⟩
theorem Text_plain {s : T_deliberationkeep_Src} (h : SrcK s) {l : List ByteArray} (h0 : 1 ≤ l.length) (h1 : l.length ≤ 1000) : T (keep_Src_Text_m s l) fun r => SrcK r.2 := by
 unfold keep_Src_Text_m
 refine T.bind (N_plain h (by omega)) fun t ⟨ht, hb⟩ => ?_
 have := hb (by omega)
 rw [idxM_eq (by omega) (by omega), some_bind]
 exact .ret ht
theorem Literal_plain {s : T_deliberationkeep_Src} (h : SrcK s) : T (net_Literal_m s) fun r => SrcK r.2 := by
 unfold net_Literal_m
 refine T.bind (N_plain h (by omega)) fun t ⟨ht, hb⟩ => ?_
 exact T.bind (Text_plain ht (by simp) (by simp)) fun t2 ht2 => .ret ht2

theorem speech_l1 {s : T_deliberationkeep_Src} (h : SrcK s) : T (loopC law26_speech_l1 (0, s.L, s.At, [])) fun q => SrcK ⟨q.1, q.2.1⟩ ∧ q.2.2.length ≤ 4 := by
 refine T.loopK 4 (fun k z => z.1 = (k : Int) ∧ k ≤ 4 ∧ SrcK ⟨z.2.1, z.2.2.1⟩ ∧ z.2.2.2.length ≤ k) ⟨rfl, by omega, h, by simp⟩ ?_
 rintro k ⟨_, a, b, g⟩ ⟨rfl, hk, hs, hg⟩
 dsimp only at hs hg
 unfold law26_speech_l1
 dsimp only
 refine T.cond (fun c => ?_) fun c => .ret ⟨hs, by dsimp only; omega⟩
 have hk2 : k < 4 := by have := of_decide_eq_true c; simp only [List.length_cons, List.length_nil] at this; omega
 rw [idxM_nat (by simpa using hk2), some_bind]
 refine T.bind (N_plain hs (by omega)) fun t ⟨ht, hb⟩ => ?_
 rw [iaddS (by omega)]
 refine T.cond (fun c2 => ?_) fun c2 => .ret ⟨hk2, rfl, hk2, ht, by dsimp only; omega⟩
 rw [appM_eq (by simp; omega), some_bind]
 exact .ret ⟨hk2, rfl, hk2, ht, by dsimp only; rw [List.length_append, List.length_singleton]; omega⟩
structure Spk (n : Int) (x : T_api_Speech) : Prop where
 b0 : 0 ≤ x.By
 b1 : x.By < n
 t0 : 0 ≤ x.To
 t1 : x.To < n
 g : x.Grounds.length ≤ 4
theorem speech_plain {s : T_deliberationkeep_Src} (h : SrcK s) {n : Int} (h1 : 1 ≤ n) (h2 : n ≤ 1000) : T (law26_speech_m s n) fun r => SrcK r.2 ∧ Spk n r.1 := by
 unfold law26_speech_m
 refine T.bind (Range_plain h (by omega) (by omega) (by omega)) fun t1 ⟨s1, _, _⟩ => ?_
 refine T.bind (N_plain s1 (by omega)) fun t2 ⟨s2, hb2⟩ => ?_
 refine T.bind (N_plain s2 (by omega)) fun t3 ⟨s3, hb3⟩ => ?_
 refine T.bind (Literal_plain s3) fun t4 s4 => ?_
 have hb2 := hb2 h1; have hb3 := hb3 h1
 refine T.cond (fun _ => ?_) fun _ => .ret ⟨s4, hb2.1, hb2.2, hb3.1, hb3.2, by simp⟩
 exact T.bind (speech_l1 s4) fun q hq => .ret ⟨hq.1, hb2.1, hb2.2, hb3.1, hb3.2, hq.2⟩

theorem ok_nil : Ok [] := ⟨rfl, rfl, by unfold r2; rw [show ascB (([] : Sl).map (·.Claim)) = true from ascB_iff.2 List.Pairwise.nil]; rfl, rfl, rfl⟩
theorem ok_rep {n : Nat} (h : n ≤ 6) : OkA (List.replicate n []) := ⟨by simpa using h, fun l hl => by rw [List.eq_of_mem_replicate hl]; exact ok_nil⟩
theorem ok_none : OkA [] := ⟨by simp, by simp⟩
theorem new_T (n : Int) : T (ref26_New_m n) fun r => OkA r.1.L ∧ (∀ l ∈ r.1.L, Sup l) ∧ (0 ≤ n → n ≤ 6 → (r.1.L.length : Int) = n) := by
 unfold ref26_New_m
 refine T.cond (fun c => .ret ⟨ok_none, by simp, fun h => by have := of_decide_eq_true c; omega⟩) fun c => ?_
 have c := of_decide_eq_false c
 refine T.cond (fun c2 => .ret ⟨ok_none, by simp, fun _ h => by have := of_decide_eq_true c2; omega⟩) fun c2 => ?_
 have c2 := of_decide_eq_false c2
 obtain ⟨m, rfl⟩ := Int.eq_ofNat_of_zero_le (show 0 ≤ n by omega)
 rw [mkM_T (by omega), some_bind]
 exact .ret ⟨ok_rep (by omega), fun l hl => (by rw [List.eq_of_mem_replicate hl]; intro c hc; cases hc), fun _ _ => by simp⟩
structure Mk (n : Int) (L : List Sl) : Prop where
 ok : OkA L
 sup : ∀ l ∈ L, Sup l
 len : (L.length : Int) = n
theorem made_plain {s : T_deliberationkeep_Src} (h : SrcK s) {n : Int} (h1 : 1 ≤ n) (h2 : n ≤ 6) : T (law26_made_m s n) fun r => SrcK r.2 ∧ Mk n r.1.L := by
 unfold law26_made_m
 refine T.bind (new_T n) fun t1 ⟨a1, a2, a3⟩ => ?_
 refine T.bind (P := fun q => SrcK ⟨q.1, q.2.1⟩ ∧ Mk n q.2.2) ?_ fun q hq => .ret ⟨hq.1, hq.2⟩
 refine T.loopK 30 (fun k z => z.1 = (k : Int) ∧ k ≤ 30 ∧ SrcK ⟨z.2.1, z.2.2.1⟩ ∧ Mk n z.2.2.2) ⟨rfl, by omega, h, ⟨a1, a2, a3 (by omega) h2⟩⟩ ?_
 rintro k ⟨_, a, b, S⟩ ⟨rfl, hk, hs, hS⟩
 dsimp only at hs hS
 unfold law26_made_l1
 simp only [joinM_eq, meetO_self]
 have body : (h30 : k < 30) → T (Option.bind (law26_speech_m ⟨a, b⟩ n) fun t29 => Option.bind (ref26_Say_m ⟨S⟩ t29.1) fun t30 => bif t30.2 == 0 then some (Sum.inr (iadd .i64 (k : Int) 1, t29.2.L, t29.2.At, t30.1.L)) else some (Sum.inr (iadd .i64 (k : Int) 1, t29.2.L, t29.2.At, S))) (onO (fun q : List Int × Int × List Sl => SrcK ⟨q.1, q.2.1⟩ ∧ Mk n q.2.2) fun s' : Int × List Int × Int × List Sl => k < 30 ∧ s'.1 = ((k + 1 : Nat) : Int) ∧ k + 1 ≤ 30 ∧ SrcK ⟨s'.2.1, s'.2.2.1⟩ ∧ Mk n s'.2.2.2) := fun h30 => by
  refine T.bind (speech_plain hs h1 (by omega)) fun t ⟨ht, hx⟩ => ?_
  have hg := hx.g
  rw [say_r hS.ok.bd (by omega), some_bind, iaddS (by omega)]
  refine T.cond (fun c => .ret ⟨h30, rfl, h30, ht, ?_⟩) fun c => .ret ⟨h30, rfl, h30, ht, hS⟩
  have c : (sayP S t.1).1 = 0 := by simpa using c
  obtain ⟨_, hA⟩ := say_act c
  exact ⟨hA.ok, hA.sup hS.sup, by have := hA.len; have := hS.len; dsimp only; omega⟩
 refine T.cond (fun c => ?_) fun c => .ret ⟨hs, hS⟩
 have h30 : k < 30 := by have := of_decide_eq_true c; omega
 refine T.cond (fun c2 => body h30) fun c2 => ?_
 exact T.bind (More_plain _) fun t _ => T.cond (fun _ => body h30) fun _ => .ret ⟨hs, hS⟩

theorem all_loop {ρ : Type} {n : Nat} {f : Int → Option (Sum (Sum ρ Unit) Int)} (h : ∀ i, i < n → f (i : Int) = some (.inr ((i + 1 : Nat) : Int))) (hend : f (n : Int) = some (.inl (.inr ()))) : loopC f 0 = some (.inr ()) := by
 refine T.eq ?_
 refine T.loopK n (fun k s => s = (k : Int) ∧ k ≤ n) ⟨rfl, by omega⟩ ?_
 rintro k _ ⟨rfl, hk⟩
 by_cases e : k = n
 ·subst e; rw [hend]; exact .ret rfl
 ·rw [h k (by omega)]; exact .ret ⟨by omega, rfl, by omega⟩
end Go.Dc

namespace Go.Dc
variable {α β σ ρ S A B R : Type}

def Le (m m' : Option α) : Prop := ∀ r, m = some r → m' = some r
def loopF (k : Nat) (f : σ → Option (Sum ρ σ)) (s : σ) : Option ρ := loopN f k s

theorem Le.refl (m : Option α) : Le m m := fun _ h => h
theorem Le.bind {m m' : Option α} {f f' : α → Option β} (h : Le m m') (hf : ∀ a, Le (f a) (f' a)) : Le (m.bind f) (m'.bind f') := by
 intro r hr
 cases hm : m with
 | none => rw [hm] at hr; cases hr
 | some a => rw [hm] at hr; rw [h a hm]; exact hf a r hr
theorem Le.cond {b : Bool} {x y x' y' : Option α} (h1 : Le x x') (h2 : Le y y') : Le (bif b then x else y) (bif b then x' else y') := by
 cases b
 ·exact h2
 ·exact h1
theorem Le.letM {x : S} {k k' : S → Option α} (h : ∀ a, Le (k a) (k' a)) : Le (letM x k) (letM x k') := h x
theorem Le.join {f f' : S → Option R} {g g' : (S → Option R) → Option R} (h1 : ∀ x, Le (f x) (f' x)) (h2 : ∀ k k' : S → Option R, (∀ x, Le (k x) (k' x)) → Le (g k) (g' k')) :
  Le (joinM f g) (joinM f' g') := h2 f f' h1
theorem Le.sumK {kr : A → Option R} {kb kb' : B → Option R} (h : ∀ b, Le (kb b) (kb' b)) : ∀ a, Le (sumK kr kb a) (sumK kr kb' a)
 | .inl a => .refl _
 | .inr b => h b
theorem Le.loop {k : Nat} {f f' : σ → Option (Sum ρ σ)} {s : σ} (h : ∀ s, Le (f s) (f' s)) : Le (loopF k f s) (loopC f' s) := by
 intro r hr
 refine loopC_iff.2 ⟨k, ?_⟩
 unfold loopF at hr
 induction k generalizing s with
 | zero => simp [loopN] at hr
 | succ k ih =>
  simp only [loopN] at hr ⊢
  cases hf : f s with
  | none => rw [hf] at hr; cases hr
  | some o =>
   rw [hf] at hr
   rw [h s o hf]
   cases o with
   | inl q => exact hr
   | inr s' => exact ih hr
end Go.Dc

namespace Go.Dc
variable {α β σ ρ S A B C R : Type}
def meetF [DecidableEq A] (x y : Option A) : Option A := match x, y with
 | some a, some b => if a = b then some a else none
 | _, _ => none
theorem Le.meetO {m1 m2 m1' m2' : Option A} (h1 : Le m1 m1') (h2 : Le m2 m2') : Le (meetO m1 m2) (meetO m1' m2') := fun r h => by
 obtain ⟨a, b⟩ := meetO_some h
 rw [h1 r a, h2 r b, meetO_self]
theorem Le.meet [DecidableEq A] {m1 m2 m1' m2' : Option A} (h1 : Le m1 m1') (h2 : Le m2 m2') : Le (meetF m1 m2) (Go.Dc.meetO m1' m2') := fun r h => by
 cases m1 with
 | none => simp [meetF] at h
 | some a =>
  cases m2 with
  | none => simp [meetF] at h
  | some b =>
   unfold meetF at h
   simp only at h
   by_cases e : a = b
   ·rw [if_pos e] at h
    subst e; cases h
    rw [h1 _ rfl, h2 _ rfl, meetO_self]
   ·rw [if_neg e] at h; cases h
theorem Le.sumKK {k1 k1' : A → Option R} {k2 k2' : B → Option R} (h1 : ∀ a, Le (k1 a) (k1' a)) (h2 : ∀ b, Le (k2 b) (k2' b)) : ∀ a, Le (Go.Dc.sumK k1 k2 a) (Go.Dc.sumK k1' k2' a)
 | .inl a => h1 a
 | .inr b => h2 b
theorem Le.loopC {f f' : σ → Option (Sum ρ σ)} {s : σ} (h : ∀ s, Le (f s) (f' s)) : Le (Go.Dc.loopC f s) (Go.Dc.loopC f' s) := by
 intro r hr
 obtain ⟨n, hn⟩ := loopC_iff.1 hr
 exact Le.loop (k := n) h r hn
def meet1 {A : Type} (x _ : Option A) : Option A := x
theorem Le.meet1 {A : Type} {m1 m2 m1' m2' : Option A} (h1 : Le m1 m1') (h2 : m1' = m2') : Le (Go.Dc.meet1 m1 m2) (Go.Dc.meetO m1' m2') := fun r h => by
 rw [← h2, meetO_self]; exact h1 r h
end Go.Dc
