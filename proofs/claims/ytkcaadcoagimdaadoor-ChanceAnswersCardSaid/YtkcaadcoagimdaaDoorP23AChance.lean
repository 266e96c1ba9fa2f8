/- Part P23A.Chance of a proof: lemmas. -/
import Derived.Test.YtkcaadcoagimdaaDoorP23AWorld
import Derived.Test.YtkcaadcoagimdaaDoorDcRec
set_option linter.unusedVariables false
set_option linter.unusedSimpArgs false
set_option linter.unusedSectionVars false
/-! Worlds and their weights. -/
namespace Go.Dc
abbrev Fr := T_api_Fraction

def cert (f : Fr) : Bool := f.Num == 0 || f.Num == f.Den
theorem certain_plain {f : Fr} : chance_certain_m f = some (cert f) := by
  unfold chance_certain_m cert
  cases h : (f.Num == 0)
  · simp [letM_eq]
  · simp

structure FrOk (f : Fr) : Prop where
  d1 : 1 ≤ f.Den
  d2 : f.Den ≤ 12
  n0 : 0 ≤ f.Num
  n1 : f.Num ≤ f.Den

/-- the weights of the worlds of which c holds -/
def J : List Fr → (List Bool → Bool) → Nat
  | [], c => if c [] then 1 else 0
  | f :: r, c => if cert f then J r (fun h => c ((f.Num != 0) :: h)) else f.Num.toNat * J r (fun h => c (true :: h)) + (f.Den - f.Num).toNat * J r (fun h => c (false :: h))
def dn (l : List Fr) : Nat := J l fun _ => true

theorem dn_cons {f : Fr} {r : List Fr} (hf : FrOk f) : dn (f :: r) = if cert f then dn r else f.Den.toNat * dn r := by
  unfold dn
  rw [J]
  split
  · rfl
  · have h0 := hf.n0; have h1 := hf.n1
    rw [← Nat.add_mul]
    congr 1; omega

theorem J_mono {l : List Fr} : ∀ {c c' : List Bool → Bool}, (∀ h, h.length = l.length → c h = true → c' h = true) → J l c ≤ J l c' := by
  induction l with
  | nil =>
    intro c c' h
    unfold J
    cases hc : c []
    · simp
    · rw [h [] rfl hc]; simp
  | cons f r ih =>
    intro c c' h
    rw [J, J]
    split
    · exact ih fun h' hl hc => h _ (by simp [hl]) hc
    · exact Nat.add_le_add (Nat.mul_le_mul_left _ (ih fun h' hl hc => h _ (by simp [hl]) hc)) (Nat.mul_le_mul_left _ (ih fun h' hl hc => h _ (by simp [hl]) hc))
theorem J_congr {l : List Fr} {c c' : List Bool → Bool} (h : ∀ h, h.length = l.length → c h = c' h) : J l c = J l c' :=
  Nat.le_antisymm (J_mono fun x hl hc => (h x hl) ▸ hc) (J_mono fun x hl hc => (h x hl).symm ▸ hc)
theorem J_le {l : List Fr} {c : List Bool → Bool} : J l c ≤ dn l := J_mono fun _ _ _ => rfl
theorem J_add {l : List Fr} : ∀ {c c' : List Bool → Bool}, (∀ h, h.length = l.length → ¬ (c h = true ∧ c' h = true)) → J l c + J l c' = J l (fun h => c h || c' h) := by
  induction l with
  | nil =>
    intro c c' h
    have := h [] rfl
    unfold J
    cases hc : c [] <;> cases hc' : c' []
    · simp [hc, hc']
    · simp [hc, hc']
    · simp [hc, hc']
    · exact absurd ⟨hc, hc'⟩ this
  | cons f r ih =>
    intro c c' h
    rw [J, J, J]
    split
    · exact ih fun h' hl hc => h _ (by simp [hl]) hc
    · rw [← ih (c := fun h => c (true :: h)) (c' := fun h => c' (true :: h)) fun h' hl hc => h _ (by simp [hl]) hc, ← ih (c := fun h => c (false :: h)) (c' := fun h => c' (false :: h)) fun h' hl hc => h _ (by simp [hl]) hc]
      rw [Nat.mul_add, Nat.mul_add]; omega
theorem J_none {l : List Fr} {c : List Bool → Bool} (h : ∀ h, h.length = l.length → c h = false) : J l c = 0 := by
  have := J_congr (l := l) (c := c) (c' := fun _ => false) h
  rw [this]
  clear this h
  induction l with
  | nil => rfl
  | cons f r ih => rw [J]; split <;> simp [ih]
theorem dn_pos {l : List Fr} (h : ∀ f ∈ l, FrOk f) : 0 < dn l := by
  induction l with
  | nil => decide
  | cons f r ih =>
    have hf := h f (by simp)
    have := ih fun g hg => h g (by simp [hg])
    rw [dn_cons hf]
    split
    · exact this
    · exact Nat.mul_pos (by have := hf.d1; omega) this

/-! ### the walk over the worlds -/
noncomputable def visB (lf1 : List Bool → Option T_network_Net) (lf2 : T_network_Net → Int → Int → Option Int) (all : List Fr) (rec_ : Int → Int → Int → List Bool → Option (Int × List Bool)) (i w sum : Int) (has : List Bool) : Option (Int × List Bool) :=
  bif i == (all.length : Int) then
    Option.bind (lf1 has) fun t2 =>
    Option.bind (lf2 t2 w sum) fun t3 =>
    some (t3, has)
  else
    Option.bind (idxM all i) fun t4 =>
    Option.bind (chance_certain_m t4) fun t6 =>
    bif t6 then
      Option.bind (idxM has i) fun t8 =>
      Option.bind (rec_ (iadd .i64 i 1) w sum (has.set (Int.toNat i) (t4.Num != 0))) fun t9 =>
      some (t9.1, t9.2)
    else
      Option.bind (idxM has i) fun t10 =>
      Option.bind (rec_ (iadd .i64 i 1) (imul .i64 w t4.Num) sum (has.set (Int.toNat i) true)) fun t11 =>
      Option.bind (idxM t11.2 i) fun t12 =>
      Option.bind (rec_ (iadd .i64 i 1) (imul .i64 w (isub .i64 t4.Den t4.Num)) t11.1 (t11.2.set (Int.toNat i) false)) fun t13 =>
      some (t13.1, t13.2)
noncomputable def visN (lf1 : List Bool → Option T_network_Net) (lf2 : T_network_Net → Int → Int → Option Int) (all : List Fr) : Nat → Int → Int → Int → List Bool → Option (Int × List Bool)
  | 0 => fun _ _ _ _ => none
  | n + 1 => visB lf1 lf2 all (visN lf1 lf2 all n)

theorem vis1_eq {all : List Fr} {S q : Int} {g : T_api_Graph} : ∀ (n : Nat) (i w sum : Int) (has : List Bool), chance_worlds_1_n n i w all S q sum g has = visN (chance_world_m g) (fun t w s => chance_joint_1_m t w S q s) all n i w sum has
  | 0, _, _, _, _ => rfl
  | n + 1, i, w, sum, has => by
    show chance_worlds_1_b (chance_worlds_1_n n) i w all S q sum g has = visB _ _ all (visN _ _ all n) i w sum has
    unfold chance_worlds_1_b visB
    simp only [vis1_eq n]
theorem vis2_eq {all : List Fr} {S : List Int} {g : T_api_Graph} : ∀ (n : Nat) (i w sum : Int) (has : List Bool), chance_worlds_1_1_n n i w all S sum g has = visN (chance_world_m g) (fun t w s => chance_Extension_1_m t w S s) all n i w sum has
  | 0, _, _, _, _ => rfl
  | n + 1, i, w, sum, has => by
    show chance_worlds_1_1_b (chance_worlds_1_1_n n) i w all S sum g has = visB _ _ all (visN _ _ all n) i w sum has
    unfold chance_worlds_1_1_b visB
    simp only [vis2_eq n]

theorem idxM_app {pre rest : List Fr} {f : Fr} : idxM (pre ++ f :: rest) (pre.length : Int) = some f := by
  rw [idxM_nat (by simp)]; simp
theorem idxM_appB {pre rest : List Bool} {f : Bool} : idxM (pre ++ f :: rest) (pre.length : Int) = some f := by
  rw [idxM_nat (by simp)]; simp
theorem set_app {pre rest : List Bool} {f x : Bool} : (pre ++ f :: rest).set pre.length x = (pre ++ [x]) ++ rest := by simp [List.set_append]

def BIG : Nat := 4611686018427387904

theorem vis_plain {lf1 : List Bool → Option T_network_Net} {lf2 : T_network_Net → Int → Int → Option Int} {all : List Fr} (hall : ∀ f ∈ all, FrOk f) (hlen : all.length ≤ 100000) {c : List Bool → Bool}
    (hleaf : ∀ (has : List Bool) (w sum : Nat), has.length = all.length → sum + w ≤ BIG → ∃ t, lf1 has = some t ∧ lf2 t (w : Int) (sum : Int) = some ((sum + (if c has then w else 0) : Nat) : Int)) :
    ∀ (rest done : List Fr) (pre tail : List Bool) (w sum : Nat), all = done ++ rest → pre.length = done.length → tail.length = rest.length → sum + w * dn rest ≤ BIG →
      ∃ tail' : List Bool, tail'.length = rest.length ∧ visN lf1 lf2 all (rest.length + 1) (done.length : Int) (w : Int) (sum : Int) (pre ++ tail) = some (((sum + w * J rest (fun h => c (pre ++ h)) : Nat) : Int), pre ++ tail') := by
  intro rest
  induction rest with
  | nil =>
    intro done pre tail w sum ha hp ht hb
    have ht' : tail = [] := List.length_eq_zero_iff.1 ht
    subst ht'
    simp only [List.append_nil] at ha
    subst ha
    obtain ⟨t, h1, h2⟩ := hleaf pre w sum hp (by simpa [dn, J] using hb)
    refine ⟨[], rfl, ?_⟩
    show visB lf1 lf2 all (visN lf1 lf2 all 0) _ _ _ _ = _
    unfold visB
    rw [show ((all.length : Int) == (all.length : Int)) = true by simp, cond_true, List.append_nil, h1, some_bind, h2, some_bind]
    cases hc : c pre <;> simp [J, hc]
  | cons f rest ih =>
    intro done pre tail w sum ha hp ht hb
    have hf : FrOk f := hall f (by rw [ha]; simp)
    have hl : done.length + (rest.length + 1) = all.length := by rw [ha]; simp
    cases tail with
    | nil => simp at ht
    | cons b tail =>
      simp at ht
      have ha2 : all = (done ++ [f]) ++ rest := by rw [ha]; simp
      have hd1 : ((done.length : Int) == (all.length : Int)) = false := by simp; omega
      rw [dn_cons hf] at hb
      show ∃ tail', _ ∧ visB lf1 lf2 all (visN lf1 lf2 all (rest.length + 1)) _ _ _ _ = _
      unfold visB
      have hi1 : idxM all (done.length : Int) = some f := by rw [ha]; exact idxM_app
      have hi2 : idxM (pre ++ b :: tail) (done.length : Int) = some b := by rw [← hp]; exact idxM_appB
      have hs : ∀ x : Bool, (pre ++ b :: tail).set (Int.toNat (done.length : Int)) x = (pre ++ [x]) ++ tail := fun x => by rw [Int.toNat_natCast, ← hp]; exact set_app
      have hn1 : iadd .i64 (done.length : Int) 1 = ((done ++ [f]).length : Int) := by rw [iadd1 (by omega)]; simp
      rw [hd1, cond_false, hi1, some_bind, certain_plain, some_bind, hi2, some_bind, some_bind, hn1]
      simp only [hs]
      cases hc : cert f with
      | true =>
        rw [hc, if_pos rfl] at hb
        rw [cond_true]
        obtain ⟨t', h1, h2⟩ := ih (done ++ [f]) (pre ++ [f.Num != 0]) tail w sum ha2 (by simp [hp]) ht hb
        refine ⟨(f.Num != 0) :: t', by simp [h1], ?_⟩
        rw [h2, some_bind, J, if_pos hc]
        simp
      | false =>
        rw [hc] at hb
        simp only [Bool.false_eq_true, if_false] at hb
        have h0 := hf.n0; have h1 := hf.n1; have hd1 := hf.d1; have hd2 := hf.d2
        obtain ⟨a, ha'⟩ := Int.eq_ofNat_of_zero_le h0
        obtain ⟨d, hd'⟩ := Int.eq_ofNat_of_zero_le (show 0 ≤ f.Den by omega)
        have had : a ≤ d := by omega
        have hsum : w * a * dn rest + w * (d - a) * dn rest = w * (d * dn rest) := by
          rw [← Nat.add_mul, ← Nat.mul_add, Nat.add_sub_cancel' had, Nat.mul_assoc]
        have hden : f.Den.toNat = d := by omega
        have hnum : f.Num.toNat = a := by omega
        have hdif : (f.Den - f.Num).toNat = d - a := by omega
        rw [hden] at hb
        have hpos : 0 < dn rest := dn_pos fun g hg => hall g (by rw [ha]; simp [hg])
        have hwa : w * a ≤ w * a * dn rest := Nat.le_mul_of_pos_right _ hpos
        have hwd : w * (d - a) ≤ w * (d - a) * dn rest := Nat.le_mul_of_pos_right _ hpos
        have hB : BIG = 4611686018427387904 := rfl
        rw [cond_false, ha', hd', imul_n (by omega)]
        obtain ⟨t1, e1, e2⟩ := ih (done ++ [f]) (pre ++ [true]) tail (w * a) sum ha2 (by simp [hp]) ht (by omega)
        rw [e2, some_bind]
        have hj1 : J rest (fun h => c (pre ++ [true] ++ h)) ≤ dn rest := J_le
        have hj2 : w * a * J rest (fun h => c (pre ++ [true] ++ h)) ≤ w * a * dn rest := Nat.mul_le_mul_left _ hj1
        have hi3 : idxM (pre ++ [true] ++ t1) (done.length : Int) = some true := by rw [← hp, List.append_assoc]; exact idxM_appB
        have hs3 : (pre ++ [true] ++ t1).set (Int.toNat (done.length : Int)) false = (pre ++ [false]) ++ t1 := by rw [Int.toNat_natCast, ← hp, List.append_assoc]; exact set_app
        simp only [hi3, some_bind, hs3]
        rw [isub64 (by omega) (by omega), show ((d : Int) - (a : Int)) = ((d - a : Nat) : Int) by omega, imul_n (by omega)]
        obtain ⟨t2, e3, e4⟩ := ih (done ++ [f]) (pre ++ [false]) t1 (w * (d - a)) (sum + w * a * J rest (fun h => c (pre ++ [true] ++ h))) ha2 (by simp [hp]) e1 (by omega)
        rw [e4, some_bind]
        refine ⟨false :: t2, by simp [e3], ?_⟩
        rw [J, if_neg (by rw [hc]; simp), hnum, hdif]
        simp only [List.append_assoc, List.singleton_append]
        congr 2
        congr 1
        rw [Nat.mul_add, Nat.mul_assoc, Nat.mul_assoc]; omega
end Go.Dc
