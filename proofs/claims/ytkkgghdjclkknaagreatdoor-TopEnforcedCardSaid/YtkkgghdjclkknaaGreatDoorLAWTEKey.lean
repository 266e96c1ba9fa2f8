/- Part LAWTE.Key of a proof: lemmas. -/
import Derived.Test.YtkkgghdjclkknaaGreatDoorLAWTELay
import Derived.Test.YtkkgghdjclkknaaGreatDoorDcDrawI
import Derived.Lib.ItoaLen
set_option linter.unusedVariables false
namespace Go.Dc
open Go.Proofs Go.RowKit Go.Shelf Go.Sort
open Go.Proofs.Tryz (prog)
def MV (x : Int) : Bool := decide (-9223372036854775808 ≤ x) && decide (x ≤ 9223372036854775807)
def keyBytes (l : List Int) : List UInt8 := l.flatMap fun x => Lib.itoa x ++ [32]
def K3 (l : List Int) : Option ByteArray := if l.length ≤ 1000000 ∧ l.all MV = true then some ⟨(keyBytes l).toArray⟩ else none
theorem NT (l : List Int) (x : Int) : keyBytes (l ++ [x]) = keyBytes l ++ (Lib.itoa x ++ [32]) := by simp [keyBytes]
theorem Qj (l : List Int) (h : l.all MV = true) : (keyBytes l).length ≤ 22 * l.length := by
 induction l with
 | nil => simp [keyBytes]
 | cons x l ih =>
  simp only [List.all_cons, Bool.and_eq_true] at h
  have h1 := ih h.2
  have h2 := h.1
  simp only [MV, Bool.and_eq_true, decide_eq_true_eq] at h2
  have h3 := Lib.itoa_length_le x h2.1 h2.2
  simp only [keyBytes, List.flatMap_cons, List.length_append, List.length_cons, List.length_nil] at h1 ⊢
  omega
theorem UP {B : Nat} {w : World} (h : B ≤ w.heap.size) (k : Nat) (os : Array Obj) : Below B w (grow (w.drewN k) os) :=
 ⟨rfl, rfl, rfl, by simp [grow], fun i hi => by
  show (w.heap ++ os)[i]? = w.heap[i]?
  rw [Array.getElem?_append_left (by omega)]⟩
theorem R_ {w : World} {k : Nat} {os : Array Obj} {i : Nat} {o : Obj} (h : w.heap[i]? = some o) : (grow (w.drewN k) os).heap[i]? = some o := by
 show (w.heap ++ os)[i]? = some o
 rw [Array.getElem?_append_left (Array.getElem?_eq_some_iff.1 h).1]; exact h
theorem Nq {T e : TypeId} {B b : Nat} {p : Value} {bs : List Value} {w : World} (h : Lib.BuilderAtF T e B b p bs w) (k : Nat) (os : Array Obj) : Lib.BuilderAtF T e B b p bs (grow (w.drewN k) os) := by
 obtain ⟨hB, v, h1, ⟨h2, h3⟩, h4⟩ := h
 refine ⟨hB, v, R_ h1, ⟨h2, ?_⟩, h4⟩
 rcases h3 with h3 | ⟨g, cap, cur, fz, e1, e2, e3, e4⟩
 ·exact .inl h3
 ·exact .inr ⟨g, cap, cur, fz, e1, e2, R_ e3, e4⟩
theorem X3 {T e : TypeId} {B b : Nat} {bs : List Value} {w : World} (h : Lib.IsBuilderF T e B b bs w) (k : Nat) (os : Array Obj) : Lib.IsBuilderF T e B b bs (grow (w.drewN k) os) :=
 h.imp (fun x => Nq x k os) (fun x => Nq x k os)
set_option maxHeartbeats 4000000 in
set_option maxRecDepth 1000000 in
theorem aal (l : List Int) (hl : l.length ≤ 1000000) (hr : l.all MV = true) (ad : Option Addr) (c : Nat) (w : World) (_hc : l.length ≤ c)
  (p6 : ∀ i (hi : i < l.length), ∃ b off, ad = some ⟨b, off, none⟩ ∧ b < w.heap.size ∧ w.cell? ⟨b, off + i, none⟩ = some (.int .i64 l[i]))
  (htab : ∀ w2, Below w.heap.size w w2 → Lib.TabIs prog w2 "internal/strconv.uint64pow10" .u64 Lib.pow10Tab) :
  Calls prog 164 #[.slice ad l.length c] w fun e w' => e = .returned (.string ⟨(keyBytes l).toArray⟩) ∧ Below w.heap.size w w' := by
 go_enter Tryz.func164, Tryz.ntmps164
 go_wp2
 go_loopw [8] (fun i wr => ∃ k : Nat, k ≤ l.length ∧ i = .int .i64 k ∧ Lib.IsBuilderF 221 5 w.heap.size w.heap.size (Lib.byteCells (keyBytes (l.take k))) wr ∧ Below w.heap.size w wr) (fun i _ => l.length - (match i with | .int _ n => n.toNat | _ => 0))
 case atStart => exact ⟨0, Nat.zero_le _, rfl, Lib.IsBuilderF.of (Lib.fresh_isBuilder 221 5 w), (Below.refl _ w).alloc (Nat.le_refl _) _⟩
 case round =>
  obtain ⟨k, hk, rfl, hI, hbw⟩ := hrel
  by_cases hlt : k < l.length
  ·obtain ⟨b, off, rfl, hb, hcell⟩ := p6 k hlt
   have hsz : w.heap.size ≤ wr.heap.size := hbw.size
   have hcx : wr.cell? ⟨b, off + k, none⟩ = some (.int .i64 l[k]) := (World.cell?_of_block (a := ⟨b, off + k, none⟩) (hbw.block b hb)).trans hcell
   have hrk := List.all_eq_true.1 hr l[k] (List.getElem_mem hlt)
   simp only [MV, Bool.and_eq_true, decide_eq_true_eq] at hrk
   have hlen1 := Qj (l.take k) (List.all_eq_true.2 fun x hx => List.all_eq_true.1 hr x (List.mem_of_mem_take hx))
   have hlen2 : (l.take k).length ≤ 1000000 := by simp; omega
   have hlen3 := Lib.itoa_length_le l[k] hrk.1 hrk.2
   go_wp2_with (go_at_call 198; refine (itoaC _ hrk.1 hrk.2 _ (htab _ hbw)).mono ?_)
   rintro e W1 ⟨rfl, q, os, rfl⟩
   have hI1 := X3 hI q os
   have Q5 := hbw.trans (UP (B := w.heap.size) hsz q os)
   go_wp2_with (go_at_call 197; refine (bldS w.heap.size w.heap.size _ ⟨(Lib.itoa l[k]).toArray⟩ _ hI1 ?_ Q5.size).mono ?_)
   ·rw [Lib.byteCells_length]; simp [ByteArray.size]; omega
   rintro e W2 ⟨rfl, h2, b2⟩
   have hI2 : Lib.IsBuilderF 221 5 w.heap.size w.heap.size (Lib.byteCells (keyBytes (l.take k) ++ Lib.itoa l[k])) W2 := by
    rw [Lib.byteCells_append]; exact .inr h2
   go_wp2_with (go_at_call 199; refine (bldB w.heap.size w.heap.size _ 32 _ hI2 ?_ (Q5.trans b2).size).mono ?_)
   ·rw [Lib.byteCells_length]; simp; omega
   rintro e W3 ⟨rfl, h3, b3⟩
   go_wp2
   go_roundw
   case rel =>
    refine ⟨k + 1, by omega, by simp, ?_, (Q5.trans b2).trans b3⟩
    rw [← List.take_append_getElem hlt, NT, ← List.append_assoc, Lib.byteCells_append]
    exact .inr h3
   case measure => simp; omega
  ·obtain rfl : k = l.length := by omega
   go_wp2_with (go_at_call 200; refine (bldG w.heap.size w.heap.size _ _ hI hbw.size).mono ?_)
   rintro e W1 ⟨rfl, _, b1, _⟩
   go_wp2
   go_ret
   exact ⟨rfl, hbw.trans b1⟩
theorem UO [aq] (hD : ¬ aq.D) {w w' : World} (h : Below w.heap.size w w') : Kept [] w w' :=
 ⟨h.os, h.tape, h.output, fun d => (hD d).elim, h.size, fun b hb _ => h.block b hb⟩
theorem keyM_fn [aq] (hD : ¬ aq.D) {g : Nat} (hg : prog.globalNamed "internal/strconv.uint64pow10" = some g)
  (hT : (g, (Lib.pow10Tab.map fun z => Value.int .u64 z).toArray) ∈ aq.tabs) {l : List Int} {r : ByteArray} (h : K3 l = some r) :
  gw prog 164 [eN (rI .i64) l] [] (fun _ : Unit => [sv r]) (fun _ => []) := by
 intro F w vs hF hmf hbd hnd jP hargs htb
 unfold K3 at h
 have hl : l.length ≤ 1000000 ∧ l.all MV = true := Classical.byContradiction fun hx => by rw [if_neg hx] at h; cases h
 rw [if_pos hl] at h
 cases h
 match vs, hargs with
 | [v0], ⟨⟨ad, c, e1, hc, p6⟩, _⟩ =>
  subst e1
  have hb : ∀ i (hi : i < l.length), ∃ b off, ad = some ⟨b, off, none⟩ ∧ b < w.heap.size ∧ w.cell? ⟨b, off + i, none⟩ = some (.int .i64 l[i]) := fun i hi => by
   obtain ⟨b, off, cells, ty, fz, e2, _, hb, hH⟩ := p6 (fun e => by subst e; simp at hi)
   refine ⟨b, off, e2, bS hb, ?_⟩
   obtain ⟨es, q1, q2⟩ := hH i hi
   have q3 := q2 0 Nat.one_pos
   match es, q1 with
   | [v], ⟨hv, _⟩ =>
    have Ef : v = .int .i64 l[i] := hv
    subst Ef
    have e : off + i * (rI .i64).size + 0 = off + i := by show off + i * 1 + 0 = _; omega
    rw [e] at q3
    simp [World.cell?, hb, q3]
  have htab : ∀ w2, Below w.heap.size w w2 → Lib.TabIs prog w2 "internal/strconv.uint64pow10" .u64 Lib.pow10Tab := fun w2 hw => by
   obtain ⟨_, ty, fz, h2⟩ := htb _ hT
   have h3 := (hw.block g (bS h2)).trans h2
   unfold Lib.TabIs World.var?
   rw [hg]
   show (match w2.heap[g]? with | some (.cells cs _ _) => some cs | _ => none) = _
   rw [h3]
  refine (aal l hl.1 hl.2 ad c w hc hb htab).mono ?_
  rintro e w' ⟨rfl, hw⟩
  exact ⟨(), _, rfl, UO hD hw, by simp [ow], by simp [ow], by simp, rfl⟩
end Go.Dc
