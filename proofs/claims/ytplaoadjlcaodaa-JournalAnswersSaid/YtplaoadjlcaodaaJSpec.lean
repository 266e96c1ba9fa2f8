/- Part J.Spec of a proof that a law of the program returns true: general lemmas, no condition. -/
import Derived.Test.YtplaoadjlcaodaaDcPlain
set_option linter.unusedVariables false
set_option linter.unusedSimpArgs false
/-! What the journal is, in plain words. -/
namespace Go.Dc.J

def B (l : List Int) : Prop := ∀ x ∈ l, 0 ≤ x ∧ x ≤ 255
theorem B.app {a b : List Int} (h1 : B a) (h2 : B b) : B (a ++ b) := fun x hx => (List.mem_append.1 hx).elim (h1 x) (h2 x)
theorem B.take {a : List Int} (h : B a) (n : Nat) : B (a.take n) := fun x hx => h x (List.mem_of_mem_take hx)
theorem B.drop {a : List Int} (h : B a) (n : Nat) : B (a.drop n) := fun x hx => h x (List.mem_of_mem_drop hx)
theorem B.nil : B [] := fun x hx => by simp at hx
theorem B.set {a : List Int} (h : B a) {n : Nat} {x : Int} (hx : 0 ≤ x ∧ x ≤ 255) : B (a.set n x) := fun y hy => (List.mem_or_eq_of_mem_set hy).elim (h y) (fun e => e ▸ hx)

/-- the checksum -/
def adl : Int → Int → List Int → Int × Int
  | a, b, [] => (a, b)
  | a, b, x :: l => adl ((a + x) % 65521) ((b + (a + x) % 65521) % 65521) l
def sumS (l : List Int) : Int := (adl 1 0 l).2 * 65536 + (adl 1 0 l).1

/-- a number in k bytes, the highest first -/
def be : Nat → Int → List Int
  | 0, _ => []
  | k + 1, n => n / 256 ^ k % 256 :: be k n
def val : Int → List Int → Int
  | a, [] => a
  | a, x :: l => val (a * 256 + x) l

theorem adl_range : ∀ {l : List Int} {a b : Int}, 0 ≤ a → a < 65521 → 0 ≤ b → b < 65521 → 0 ≤ (adl a b l).1 ∧ (adl a b l).1 < 65521 ∧ 0 ≤ (adl a b l).2 ∧ (adl a b l).2 < 65521
  | [], _, _, h1, h2, h3, h4 => ⟨h1, h2, h3, h4⟩
  | x :: l, a, b, h1, h2, h3, h4 => adl_range (l := l) (by omega) (by omega) (by omega) (by omega)
theorem adl_low : ∀ {l : List Int} {a b : Int}, 0 ≤ a → a < 65521 → (adl a b l).1 = (a + l.sum) % 65521
  | [], a, _, h1, h2 => by simp [adl]; omega
  | x :: l, a, b, h1, h2 => by
    rw [adl, adl_low (l := l) (by omega) (by omega), List.sum_cons]
    omega
theorem sumS_range (l : List Int) : 0 ≤ sumS l ∧ sumS l < 4294967296 := by
  have := adl_range (l := l) (a := 1) (b := 0) (by omega) (by omega) (by omega) (by omega)
  unfold sumS; omega
theorem sumS_low (l : List Int) : sumS l % 65536 = (1 + l.sum) % 65521 := by
  have h := adl_range (l := l) (a := 1) (b := 0) (by omega) (by omega) (by omega) (by omega)
  rw [← adl_low (b := 0) (by omega) (by omega)]
  unfold sumS; omega

theorem be4 {n : Int} : be 4 n = [n / 16777216 % 256, n / 65536 % 256, n / 256 % 256, n % 256] := by simp [be]
theorem be2 {n : Int} : be 2 n = [n / 256 % 256, n % 256] := by simp [be]
theorem be_len : ∀ {k : Nat} {n : Int}, (be k n).length = k
  | 0, _ => rfl
  | k + 1, _ => by simp [be, be_len]
theorem be_B : ∀ {k : Nat} {n : Int}, B (be k n)
  | 0, _ => B.nil
  | k + 1, n => fun x hx => by
    rcases List.mem_cons.1 hx with e | e
    · omega
    · exact be_B x e
theorem be_last : ∀ {k : Nat} {n : Int}, be (k + 1) n = be k (n / 256) ++ [n % 256]
  | 0, n => by simp [be]
  | k + 1, n => by
    rw [be, be_last (k := k), show be (k + 1) (n / 256) = (n / 256) / 256 ^ k % 256 :: be k (n / 256) from rfl]
    rw [Int.ediv_ediv_of_nonneg (by decide), show (256 : Int) * 256 ^ k = 256 ^ (k + 1) from by rw [Int.pow_succ, Int.mul_comm]]
    rfl

theorem val_app : ∀ {a : List Int} {n : Int} {b : List Int}, val n (a ++ b) = val (val n a) b
  | [], _, _ => rfl
  | x :: a, n, b => by simp only [List.cons_append, val]; exact val_app
theorem val_lin : ∀ {l : List Int} {n : Int}, val n l = n * 256 ^ l.length + val 0 l
  | [], n => by simp [val]
  | x :: l, n => by
    rw [val, val_lin, show val 0 (x :: l) = val (0 * 256 + x) l from rfl, val_lin (n := 0 * 256 + x), List.length_cons, Int.pow_succ, Int.add_mul, Int.mul_assoc, Int.mul_comm 256]
    simp [Int.add_assoc]
theorem val_bound : ∀ {l : List Int}, B l → 0 ≤ val 0 l ∧ val 0 l < 256 ^ l.length
  | [], _ => by simp [val]
  | x :: l, h => by
    have h1 := val_bound (l := l) fun y hy => h y (by simp [hy])
    have h2 := h x (by simp)
    rw [show val 0 (x :: l) = val (0 * 256 + x) l from rfl, val_lin, List.length_cons, Int.pow_succ]
    have h3 : (0 : Int) < 256 ^ l.length := Int.pow_pos (by decide)
    have h4 : 0 ≤ (0 * 256 + x) * 256 ^ l.length := Int.mul_nonneg (by omega) (by omega)
    have h5 : (0 * 256 + x) * 256 ^ l.length ≤ 255 * 256 ^ l.length := Int.mul_le_mul_of_nonneg_right (by omega) (by omega)
    omega
theorem val_be : ∀ {k : Nat} {n : Int}, 0 ≤ n → n < 256 ^ k → val 0 (be k n) = n
  | 0, n, h1, h2 => by simp at h2; simp [be, val]; omega
  | k + 1, n, h1, h2 => by
    rw [be_last, val_app, val_be (n := n / 256) (by omega) (by rw [Int.pow_succ] at h2; omega)]
    simp [val]; omega
theorem val_inj : ∀ {a b : List Int}, B a → B b → a.length = b.length → val 0 a = val 0 b → a = b
  | [], [], _, _, _, _ => rfl
  | x :: a, y :: b, ha, hb, hl, hv => by
    have hl' : a.length = b.length := by simpa using hl
    have ha' : B a := fun z hz => ha z (by simp [hz])
    have hb' : B b := fun z hz => hb z (by simp [hz])
    rw [show val 0 (x :: a) = val (0 * 256 + x) a from rfl, show val 0 (y :: b) = val (0 * 256 + y) b from rfl, val_lin, val_lin (l := b), hl'] at hv
    have h1 := val_bound ha'
    have h2 := val_bound hb'
    rw [hl'] at h1
    generalize hM : (256 : Int) ^ b.length = M at *
    have hxy : x = y := by
      rcases Int.lt_trichotomy x y with h | h | h
      · have : (0 * 256 + x + 1) * M ≤ (0 * 256 + y) * M := Int.mul_le_mul_of_nonneg_right (by omega) (by omega)
        rw [Int.add_mul] at this; omega
      · exact h
      · have : (0 * 256 + y + 1) * M ≤ (0 * 256 + x) * M := Int.mul_le_mul_of_nonneg_right (by omega) (by omega)
        rw [Int.add_mul] at this; omega
    subst hxy
    rw [val_inj ha' hb' hl' (by omega)]
  | [], _ :: _, _, _, h, _ => by simp at h
  | _ :: _, [], _, _, h, _ => by simp at h

/-! ### frames -/
def frame (i : Nat) (r : List Int) : List Int := be 2 r.length ++ be 2 (65535 - r.length) ++ r ++ be 4 (sumS (be 4 i ++ r))
theorem frame_len {i : Nat} {r : List Int} : (frame i r).length = r.length + 8 := by simp [frame, be_len]; omega
theorem frame_B {i : Nat} {r : List Int} (h : B r) : B (frame i r) := ((be_B.app be_B).app h).app be_B

/-- the first record and the length of its frame -/
def first (i : Nat) (b : List Int) : Option (List Int) :=
  if b.length < 8 then none
  else if val 0 ((b.drop 2).take 2) ≠ 65535 - val 0 (b.take 2) then none
  else if val 0 (b.take 2) > 4096 then none
  else if (b.length : Int) < val 0 (b.take 2) + 8 then none
  else if val 0 ((b.drop (4 + (val 0 (b.take 2)).toNat)).take 4) ≠ sumS (be 4 i ++ (b.drop 4).take (val 0 (b.take 2)).toNat) then none
  else some ((b.drop 4).take (val 0 (b.take 2)).toNat)

theorem first_some {i : Nat} {b r : List Int} (h : first i b = some r) : r.length ≤ 4096 ∧ r.length + 8 ≤ b.length := by
  unfold first at h
  split at h; · cases h
  split at h; · cases h
  split at h; · cases h
  split at h; · cases h
  split at h; · cases h
  cases h
  simp only [List.length_take, List.length_drop]
  omega

theorem first_none {i : Nat} {b : List Int} (h : val 0 ((b.drop 2).take 2) ≠ 65535 - val 0 (b.take 2)) : first i b = none := by
  unfold first
  by_cases e : b.length < 8
  · rw [if_pos e]
  · rw [if_neg e, if_pos h]

theorem first_short {i : Nat} {b : List Int} (h : (b.length : Int) < val 0 (b.take 2) + 8) : first i b = none := by
  unfold first
  simp only [h, if_true, ite_self]

theorem first_eq {i : Nat} {x y r z rest : List Int} (hx : x.length = 2) (hy : y.length = 2) (hn : val 0 x = r.length) (hz : z.length = 4) :
    first i (x ++ (y ++ (r ++ (z ++ rest)))) = if val 0 y ≠ 65535 - r.length then none else if r.length > 4096 then none else if val 0 z ≠ sumS (be 4 i ++ r) then none else some r := by
  have h1 : (x ++ (y ++ (r ++ (z ++ rest)))).take 2 = x := List.take_left' hx
  have h2 : (x ++ (y ++ (r ++ (z ++ rest)))).drop 2 = y ++ (r ++ (z ++ rest)) := List.drop_left' hx
  have h3 : (y ++ (r ++ (z ++ rest))).take 2 = y := List.take_left' hy
  have h4 : (x ++ (y ++ (r ++ (z ++ rest)))).drop 4 = r ++ (z ++ rest) := by
    rw [show x ++ (y ++ (r ++ (z ++ rest))) = (x ++ y) ++ (r ++ (z ++ rest)) from by simp]; exact List.drop_left' (by simp [hx, hy])
  have h5 : (x ++ (y ++ (r ++ (z ++ rest)))).drop (4 + r.length) = z ++ rest := by
    rw [← List.drop_drop, h4]; exact List.drop_left' rfl
  have h6 : (z ++ rest).take 4 = z := List.take_left' hz
  have h7 : (r ++ (z ++ rest)).take r.length = r := List.take_left' rfl
  have h8 : (x ++ (y ++ (r ++ (z ++ rest)))).length = r.length + 8 + rest.length := by simp [hx, hy, hz]; omega
  unfold first
  rw [h1, h2, h3, h4, hn, h8, Int.toNat_natCast, h5, h6, h7, if_neg (by omega)]
  by_cases e1 : val 0 y ≠ 65535 - r.length
  · rw [if_pos e1, if_pos e1]
  · rw [if_neg e1, if_neg e1]
    by_cases e2 : r.length > 4096
    · rw [if_pos (by omega), if_pos e2]
    · rw [if_neg (by omega), if_neg e2, if_neg (by omega)]

theorem frame_app {i : Nat} {r rest : List Int} : frame i r ++ rest = be 2 r.length ++ (be 2 (65535 - r.length) ++ (r ++ (be 4 (sumS (be 4 i ++ r)) ++ rest))) := by simp [frame]

theorem first_frame {i : Nat} {r rest : List Int} (hl : r.length ≤ 4096) : first i (frame i r ++ rest) = some r := by
  have hs := sumS_range (be 4 i ++ r)
  rw [frame_app, first_eq be_len be_len (val_be (by omega) (by omega)) be_len, val_be (by omega) (by omega), val_be (by omega) (by omega), if_neg (by simp), if_neg (by omega), if_neg (by simp)]

/-- a frame of another place -/
theorem first_other {i j : Nat} {r rest : List Int} (hl : r.length ≤ 4096) (hi : i < 256) (hj : j < 256) (hij : i ≠ j) : first i (frame j r ++ rest) = none := by
  have hs := sumS_range (be 4 j ++ r)
  rw [frame_app, first_eq be_len be_len (val_be (by omega) (by omega)) be_len, val_be (by omega) (by omega), val_be (by omega) (by omega), if_neg (by simp), if_neg (by omega), if_pos]
  intro h
  have h1 := sumS_low (be 4 j ++ r)
  have h2 := sumS_low (be 4 i ++ r)
  rw [h, h2] at h1
  simp only [be4, List.sum_append, List.sum_cons, List.sum_nil] at h1
  omega

theorem set_same {l : List Int} {j : Nat} {v : Int} (hj : j < l.length) (h : l.set j v = l) : l[j] = v := by
  have := List.getElem_set_self (l := l) (i := j) (a := v) (by simpa using hj)
  simpa [h] using this
theorem sum_set : ∀ {l : List Int} {j : Nat} {v : Int} (hj : j < l.length), (l.set j v).sum = l.sum - l[j] + v
  | [], j, v, h => by simp at h
  | x :: l, 0, v, h => by simp; omega
  | x :: l, j + 1, v, h => by
    have := sum_set (l := l) (j := j) (v := v) (by simpa using h)
    simp [this]; omega

/-- one byte changed -/
theorem first_damage {i j : Nat} {r rest : List Int} {v : Int} (hr : B r) (hl : r.length ≤ 4096) (hj : j < r.length + 8) (hv : 0 ≤ v ∧ v ≤ 255) (hne : v ≠ (frame i r)[j]'(by rw [frame_len]; exact hj)) :
    first i ((frame i r).set j v ++ rest) = none := by
  have hs := sumS_range (be 4 i ++ r)
  have hne' : (frame i r).set j v ≠ frame i r := fun h => hne (set_same (by rw [frame_len]; exact hj) h).symm
  by_cases h1 : j < 2
  · have e : (frame i r).set j v = (be 2 r.length).set j v ++ (be 2 (65535 - r.length) ++ (r ++ be 4 (sumS (be 4 i ++ r)))) := by
      simp only [frame, List.append_assoc]
      rw [List.set_append, if_pos (by rw [be_len]; omega)]
    have hx : (be 2 r.length).set j v ≠ be 2 r.length := fun h => hne' (by rw [e, h]; simp [frame])
    rw [e]
    refine first_none ?_
    rw [List.append_assoc, List.take_left' (by simp [be_len]), List.drop_left' (by simp [be_len]), List.append_assoc, List.take_left' be_len, val_be (by omega) (by omega)]
    intro h
    refine hx (val_inj (be_B.set hv) be_B (by simp) ?_)
    rw [val_be (n := (r.length : Int)) (by omega) (by omega)]
    omega
  by_cases h2 : j < 4
  · have e : (frame i r).set j v = be 2 r.length ++ ((be 2 (65535 - r.length)).set (j - 2) v ++ (r ++ be 4 (sumS (be 4 i ++ r)))) := by
      simp only [frame, List.append_assoc]
      rw [List.set_append, if_neg (by rw [be_len]; omega), be_len, List.set_append, if_pos (by rw [be_len]; omega)]
    have hx : (be 2 (65535 - r.length)).set (j - 2) v ≠ be 2 (65535 - r.length) := fun h => hne' (by rw [e, h]; simp [frame])
    rw [e]
    refine first_none ?_
    rw [List.append_assoc, List.take_left' be_len, List.drop_left' be_len, List.append_assoc, List.take_left' (by simp [be_len]), val_be (n := (r.length : Int)) (by omega) (by omega)]
    intro h
    refine hx (val_inj (be_B.set hv) be_B (by simp) ?_)
    rw [val_be (n := 65535 - (r.length : Int)) (by omega) (by omega)]
    omega
  by_cases h3 : j < 4 + r.length
  · have e : (frame i r).set j v = be 2 r.length ++ (be 2 (65535 - r.length) ++ (r.set (j - 4) v ++ be 4 (sumS (be 4 i ++ r)))) := by
      simp only [frame, List.append_assoc]
      rw [List.set_append, if_neg (by rw [be_len]; omega), be_len, List.set_append, if_neg (by rw [be_len]; omega), be_len, List.set_append, if_pos (by omega), Nat.sub_sub]
    have hx : r.set (j - 4) v ≠ r := fun h => hne' (by rw [e, h]; simp [frame])
    rw [e]
    simp only [List.append_assoc]
    rw [first_eq be_len be_len (by rw [val_be (by omega) (by omega)]; simp) be_len, val_be (by omega) (by omega), val_be (by omega) (by omega), if_neg (by simp), if_neg (by simp; omega), if_pos]
    intro h
    have h5 := sumS_low (be 4 i ++ r)
    have h6 := sumS_low (be 4 i ++ r.set (j - 4) v)
    have hj4 : j - 4 < r.length := by omega
    rw [h, h6] at h5
    simp only [List.sum_append, sum_set hj4] at h5
    have h7 := hr _ (List.getElem_mem hj4)
    have h8 : r[j - 4] = v := by omega
    exact hx (by rw [← h8]; simp)
  · have e : (frame i r).set j v = be 2 r.length ++ (be 2 (65535 - r.length) ++ (r ++ (be 4 (sumS (be 4 i ++ r))).set (j - 4 - r.length) v)) := by
      simp only [frame, List.append_assoc]
      rw [List.set_append, if_neg (by rw [be_len]; omega), be_len, List.set_append, if_neg (by rw [be_len]; omega), be_len, List.set_append, if_neg (by omega), show j - 2 - 2 - r.length = j - 4 - r.length from by omega]
    have hx : (be 4 (sumS (be 4 i ++ r))).set (j - 4 - r.length) v ≠ be 4 (sumS (be 4 i ++ r)) := fun h => hne' (by rw [e, h]; simp [frame])
    rw [e]
    simp only [List.append_assoc]
    rw [first_eq be_len be_len (val_be (by omega) (by omega)) (by simp [be_len]), val_be (by omega) (by omega), if_neg (by simp), if_neg (by omega), if_pos]
    intro h
    refine hx (val_inj (be_B.set hv) be_B (by simp) ?_)
    rw [h, val_be (by omega) (by omega)]

/-- a frame that is cut off -/
theorem first_torn {i n : Nat} {r : List Int} (hl : r.length ≤ 4096) (hn : n < r.length + 8) : first i ((frame i r).take n) = none := by
  by_cases h : n < 8
  · unfold first
    rw [if_pos (by simp; omega)]
  · refine first_short ?_
    rw [List.take_take, Nat.min_eq_left (by omega), List.length_take, frame_len, show (frame i r).take 2 = be 2 r.length from by rw [← List.append_nil (frame i r), frame_app]; exact List.take_left' be_len, val_be (by omega) (by omega)]
    omega

/-! ### journals -/
def read (i : Nat) (b : List Int) : List (List Int) × Nat :=
  match h : first i b with
  | none => ([], 0)
  | some r => (r :: (read (i + 1) (b.drop (r.length + 8))).1, r.length + 8 + (read (i + 1) (b.drop (r.length + 8))).2)
  termination_by b.length
  decreasing_by all_goals have := first_some h; simp; omega

theorem read_none {i : Nat} {b : List Int} (h : first i b = none) : read i b = ([], 0) := by
  rw [read]; split
  · rfl
  · rename_i h2; rw [h] at h2; cases h2
theorem read_some {i : Nat} {b r : List Int} (h : first i b = some r) : read i b = (r :: (read (i + 1) (b.drop (r.length + 8))).1, r.length + 8 + (read (i + 1) (b.drop (r.length + 8))).2) := by
  rw [read]; split
  · rename_i h2; rw [h] at h2; cases h2
  · rename_i r' h2; rw [h] at h2; cases h2; rfl

def frames : Nat → List (List Int) → List Int
  | _, [] => []
  | i, r :: l => frame i r ++ frames (i + 1) l

theorem frames_app : ∀ {l m : List (List Int)} {i : Nat}, frames i (l ++ m) = frames i l ++ frames (i + l.length) m
  | [], m, i => by simp [frames]
  | r :: l, m, i => by simp only [List.cons_append, frames, frames_app (l := l), List.append_assoc, List.length_cons]; rw [show i + 1 + l.length = i + (l.length + 1) from by omega]

theorem read_frames : ∀ {l : List (List Int)} {i : Nat} {rest : List Int}, (∀ r ∈ l, r.length ≤ 4096) →
    read i (frames i l ++ rest) = (l ++ (read (i + l.length) rest).1, (frames i l).length + (read (i + l.length) rest).2)
  | [], i, rest, _ => by simp [frames]
  | r :: l, i, rest, h => by
    have hr := h r (by simp)
    have hd : (frame i r ++ (frames (i + 1) l ++ rest)).drop (r.length + 8) = frames (i + 1) l ++ rest := List.drop_left' frame_len
    rw [frames, List.append_assoc, read_some (first_frame hr), hd, read_frames (l := l) fun r hr => h r (by simp [hr])]
    simp only [List.length_append, frame_len, List.cons_append, List.length_cons]
    rw [show i + 1 + l.length = i + (l.length + 1) from by omega]
    refine Prod.ext rfl ?_
    simp only; omega

theorem read_le : ∀ (n : Nat) {i : Nat} {b : List Int}, b.length ≤ n → (read i b).2 ≤ b.length ∧ (read i b).1.length * 8 ≤ b.length
  | 0, i, b, h => by
    have : b = [] := List.length_eq_zero_iff.1 (by omega)
    subst this
    rw [read_none (by simp [first])]; simp
  | n + 1, i, b, h => by
    cases hf : first i b with
    | none => rw [read_none hf]; simp
    | some r =>
      have h1 := first_some hf
      have h2 := read_le n (i := i + 1) (b := b.drop (r.length + 8)) (by simp; omega)
      rw [read_some hf]
      simp at h2 ⊢
      omega
end Go.Dc.J
