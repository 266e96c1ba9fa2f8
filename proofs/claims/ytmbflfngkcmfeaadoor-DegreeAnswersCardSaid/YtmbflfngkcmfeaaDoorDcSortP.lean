/- Part Dc.SortP of a proof: lemmas. -/
import Derived.Shelf.SlIterI.Sorted
import Derived.Shelf.SortM.Plain
import Derived.Shelf.SortM.SortNone
import Derived.Ground.GgzProg
import Derived.Ground.SlgmProg
import Derived.RangeFuncBox
import Derived.RangeFuncLeaves
import Derived.Test.YtmbflfngkcmfeaaDoorDcMem7
import Derived.Shelf.Slices.CompactI
import Derived.Test.YtmbflfngkcmfeaaDoorDcCut4
import Derived.Test.YtmbflfngkcmfeaaDoorDcFuel
set_option linter.unusedVariables false
/-! slices.Sorted(slices.Values(s)) and slices.Compact: the shelf's contracts in our words. -/
namespace Go.Dc
open Go.Proofs Go.RowKit Go.Maps Go.Sort Go.Shelf
variable {P : Program} {ρ : Ren}

/-- an iterator that gives zs to every loop whose rounds keep what lay in w -/
def GivesB (F : Fence) (n : Nat) (P : Program) (g : Nat) (lb : Array Value) (zs : List Int) (w : World) : Prop :=
  ∀ (l : Nat) (J : List Int → World → Prop) (W : World), Below w.heap.size w W → (∀ pre W1, J pre W1 → Below w.heap.size w W1) →
    (∀ pre x W1, J pre W1 → pre.length < zs.length → YieldAt F (n - 1) P l #[encZ x] W1 fun e W' => e = .returned (.bool true) ∧ J (pre ++ [x]) W' ∧ KeepsWalks W1 W') →
    J [] W → CallsIn F n P g (#[.func (.yield l) #[] #[]] ++ lb) W fun e W' => (∃ v, e = .returned v) ∧ J zs W'

set_option maxRecDepth 100000 in
set_option maxHeartbeats 2000000 in
theorem appendV_in (L : SlLaysZI.n11 P ρ) (F : Fence) (n : Nat) (h11 : F.fn (ρ.f 11)) (hro : F.round = none) (hn : 2 ≤ n) (g : Nat) (lb : Array Value) (hFg : F.fn g) (eg : ∀ args w, (callFunc g args).run P w = .ok (.enter g args) w)
    (zs : List Int) (hN : zs.length ≤ maxLen) (hNb : zs.length * 8 ≤ 140737488355328) (w : World) (hseq : GivesB F (n - 1) P g lb zs w) :
    CallsIn F n P (ρ.f 11) #[.slice none 0 0, .func (.func g) #[] lb] w fun e w' => ∃ v : Value, e = .returned v ∧ w'.ownsRow w.heap.size (ρ.t 26) 1 v zs.length (zs.map encZ) ∧ Below w.heap.size w w' := by
  have h1 : 1 ≤ n := by omega
  have mixed := L.mixed; have t0 := L.t0; have a0 := L.a0; have z0 := L.z0; have v0 := L.v0; have t24 := L.t24; have a24 := L.a24; have z24 := L.z24; have v24 := L.v24; have t26 := L.t26; have a26 := L.a26; have z26 := L.z26; have v26 := L.v26; have t28 := L.t28; have a28 := L.a28; have z28 := L.z28; have v28 := L.v28
  have hne : ρ.t 24 ≠ ρ.t 26 := fun e => by have h := L.t24; rw [e, L.t26] at h; cases h
  have u0 := run_underlying L.t0; have u24 := run_underlying L.t24; have u26 := run_underlying L.t26; have u28 := run_underlying L.t28
  obtain ⟨_, _, FG⟩ := L.f11
  refine callsIn_of_wp_marks FG rfl h11 ?_ hro
  simp only [SlBodyZ.n11_ntmps ρ, List.size_toArray, List.length_cons, List.length_nil, Nat.reduceAdd, Nat.reduceSub, Array.replicate_succ, Array.replicate_zero, List.push_toArray, List.append_toArray, List.nil_append, List.cons_append]
  gi_wp2
  refine wpIn_rangeFunc ?_
  intro fn hfn
  rw [hro]
  -- the box of s, then the loop's two objects
  obtain ⟨A0, hA0⟩ : ∃ A, w.alloc (.cells #[.slice none 0 0] (ρ.t 24)) = A := ⟨_, rfl⟩
  have sA0 : A0.heap.size = w.heap.size + 1 := by rw [← hA0]; simp
  have box0 : A0.heap[w.heap.size]? = some (.cells #[.slice none 0 0] (ρ.t 24) (0, 0)) := by rw [← hA0]; exact World.alloc_heap_new w _
  have b0 : Below w.heap.size w A0 := by rw [← hA0]; exact (Below.refl _ w).alloc (Nat.le_refl _) _
  rw [hA0]
  obtain ⟨A1, hA1⟩ : ∃ A, (A0.alloc (.deferred (some []))).alloc (.loop (AnyZI.apRec ρ fn (.func (.func g) #[] lb) w.heap.size A0.heap.size .ready none)) = A := ⟨_, rfl⟩
  have keep : ∀ k, k < A0.heap.size → A1.heap[k]? = A0.heap[k]? := fun k hk => by
    rw [← hA1]; exact (Below.heap_alloc _ _ k (by simp; omega)).trans (Below.heap_alloc _ _ k hk)
  have b1 : Below w.heap.size w A1 := by rw [← hA1]; exact (b0.alloc b0.size _).alloc (by have := b0.size; simp; omega) _
  have start : AnyZI.ApAt ρ w fn (.func (.func g) #[] lb) w.heap.size (A0.heap.size + 1) A0.heap.size [] A1 :=
    ⟨⟨_, (keep w.heap.size (by omega)).trans box0, ⟨rfl, .inl ⟨rfl, rfl⟩⟩, by simp⟩,
     by rw [← hA1]; have := World.alloc_heap_new (A0.alloc (.deferred (some []))) (.loop (AnyZI.apRec ρ fn (.func (.func g) #[] lb) w.heap.size A0.heap.size .ready none)); rwa [World.size_alloc] at this,
     by rw [← hA1]; exact (Below.heap_alloc _ _ _ (by simp)).trans (World.alloc_heap_new A0 _), b1⟩
  refine ⟨A0.heap.size + 1, [{ target := .collected A0.heap.size, args := #[] }], A1, { target := .fn (.func g) lb, args := #[.func (.yield (A0.heap.size + 1)) #[] #[]] }, A1, g,
    #[.func (.yield (A0.heap.size + 1)) #[] #[]] ++ lb, A1, ?_, ?_, ?_, ?_, fun _ => h1, ?_⟩
  · rw [← hA1]; exact run_enterLoop_outer _ _ _ _ _
  · simp [resolve, go_sem]
  · intro f' hf'; simp [Target.leads] at hf'; subst hf'; exact hFg
  · simp [invoke, go_sem, eg]
  · refine (hseq (A0.heap.size + 1) (AnyZI.ApAt ρ w fn (.func (.func g) #[] lb) w.heap.size (A0.heap.size + 1) A0.heap.size) A1 b1 (fun _ _ h => h.below)
      (fun pre x W hJ hl => AnyZI.apYield { L with } F (n - 1 - 1) w fn hfn _ w.heap.size (A0.heap.size + 1) A0.heap.size (by omega) (by omega) (by omega) (Nat.le_refl _) (by omega) zs.length hN hNb pre x W hJ hl) start).mono ?_
    rintro e A2 ⟨⟨v0, rfl⟩, h2⟩
    obtain ⟨v, hv, hrow, _⟩ := h2.box
    have hend := run_endLoop (P := P) h2.L (by simp [AnyZI.apRec])
    obtain ⟨A3, hA3⟩ : ∃ A, A2.putObj (A0.heap.size + 1) (.loop { AnyZI.apRec ρ fn (.func (.func g) #[] lb) w.heap.size A0.heap.size .ready none with state := .exhausted }) = A := ⟨_, rfl⟩
    rw [hA3] at hend
    have g3 : A2.grownBy A3 (some (A0.heap.size + 1)) := by rw [← hA3]; exact grownBy_putObj_a _ _ _
    have hv3 : A3.heap[w.heap.size]? = some (.cells #[v] (ρ.t 24) (0, 0)) := by rw [← hA3]; exact (World.putObj_heap_other (by omega)).trans hv
    have hK3 : A3.heap[A0.heap.size]? = some (.deferred (some [])) := by rw [← hA3]; exact (World.putObj_heap_other (by omega)).trans h2.K
    have row3 := hrow.kept g3 (ownsRow_ne_a hrow h2.L (fun cur e => by first | cases e | exact hne (Obj.cells.inj e).2.1))
    have b3 : Below w.heap.size w A3 := h2.below.grown g3 h2.below.size (fun k e => by cases e; omega)
    obtain ⟨hc3, hf3⟩ := cell_of_box_a hv3
    clear hA3
    refine ⟨none, A3, hend, ?_⟩
    gi_wp2
    rw [← sA0]
    refine ⟨by simp, .inl ⟨_, _, rfl, run_takeDeferred hK3, ?_⟩⟩
    exact ⟨_, results_tmp rfl _ _ _, v, rfl, row3.kept (grownBy_putObj_a _ _ _) (ownsRow_ne_a row3 hK3 (fun cur e => by first | cases e | exact hne (Obj.cells.inj e).2.1)), b3.grown (grownBy_putObj_a _ _ _) b3.size (fun k e => by cases e; omega)⟩

set_option maxHeartbeats 1000000 in
theorem collectV_in (L : SlLaysZI.n8 P ρ) (F : Fence) (n : Nat) (h8 : F.fn (ρ.f 8)) (h11 : F.fn (ρ.f 11)) (hro : F.round = none) (hn : 3 ≤ n) (g : Nat) (lb : Array Value) (hFg : F.fn g) (eg : ∀ args w, (callFunc g args).run P w = .ok (.enter g args) w)
    (zs : List Int) (hN : zs.length ≤ maxLen) (hNb : zs.length * 8 ≤ 140737488355328) (w : World) (hseq : GivesB F (n - 1 - 1) P g lb zs w) :
    CallsIn F n P (ρ.f 8) #[.func (.func g) #[] lb] w fun e w' => ∃ v : Value, e = .returned v ∧ w'.ownsRow w.heap.size (ρ.t 26) 1 v zs.length (zs.map encZ) ∧ Below w.heap.size w w' := by
  have h1 : 1 ≤ n := by omega
  have e11 : ∀ args w, (callFunc (ρ.f 11) args).run P w = .ok (.enter (ρ.f 11) args) w := L.f11.enters rfl
  have mixed := L.mixed; have t0 := L.t0; have a0 := L.a0; have z0 := L.z0; have v0 := L.v0; have t24 := L.t24; have a24 := L.a24; have z24 := L.z24; have v24 := L.v24; have t26 := L.t26; have a26 := L.a26; have z26 := L.z26; have v26 := L.v26; have t28 := L.t28; have a28 := L.a28; have z28 := L.z28; have v28 := L.v28
  have u0 := run_underlying L.t0; have u24 := run_underlying L.t24; have u26 := run_underlying L.t26; have u28 := run_underlying L.t28
  obtain ⟨_, _, FG⟩ := L.f8
  refine callsIn_of_wp FG rfl h8 ?_ hro
  simp only [SlBodyZ.n8_ntmps ρ, List.size_toArray, List.length_cons, List.length_nil, Nat.reduceAdd, Nat.reduceSub, Array.replicate_succ, Array.replicate_zero, List.push_toArray, List.append_toArray, List.nil_append, List.cons_append]
  gi_wp2_with (gi_at_fn (ρ.f 11); refine (appendV_in { L with } F (n - 1) h11 hro (by omega) g lb hFg eg zs hN hNb _ hseq).mono ?_; rintro e w' ⟨v, rfl, hrow, hb⟩)
  go_ret
  exact ⟨v, rfl, hrow, hb⟩

set_option maxRecDepth 100000 in
set_option maxHeartbeats 2000000 in
theorem sortedV_in (L : SlLaysZI.n6 P ρ) (F : Fence) (n : Nat) (h6 : F.fn (ρ.f 6)) (h8 : F.fn (ρ.f 8)) (h9 : F.fn (ρ.f 9)) (h11 : F.fn (ρ.f 11)) (hro : F.round = none) (hn : 4 ≤ n) (hsort : AnyZI.SortsIn P ρ F (n - 1)) (e9 : ∀ args w, (callFunc (ρ.f 9) args).run P w = .ok (.enter (ρ.f 9) args) w) (g : Nat) (lb : Array Value) (hFg : F.fn g) (eg : ∀ args w, (callFunc g args).run P w = .ok (.enter g args) w)
    (zs : List Int) (hN : zs.length ≤ maxLen) (hNb : zs.length * 8 ≤ 140737488355328) (w : World) (hseq : GivesB F (n - 1 - 1 - 1) P g lb zs w) :
    CallsIn F n P (ρ.f 6) #[.func (.func g) #[] lb] w fun e w' => ∃ v : Value, e = .returned v ∧
      w'.ownsRow w.heap.size (ρ.t 26) 1 v zs.length ((zs.mergeSort (fun x y => decide (x ≤ y))).map encZ) ∧ Below w.heap.size w w' := by
  have h1 : 1 ≤ n := by omega
  have e8 : ∀ args w, (callFunc (ρ.f 8) args).run P w = .ok (.enter (ρ.f 8) args) w := L.f8.enters rfl
  have mixed := L.mixed; have t0 := L.t0; have a0 := L.a0; have z0 := L.z0; have v0 := L.v0; have t24 := L.t24; have a24 := L.a24; have z24 := L.z24; have v24 := L.v24; have t26 := L.t26; have a26 := L.a26; have z26 := L.z26; have v26 := L.v26; have t28 := L.t28; have a28 := L.a28; have z28 := L.z28; have v28 := L.v28
  have u0 := run_underlying L.t0; have u24 := run_underlying L.t24; have u26 := run_underlying L.t26; have u28 := run_underlying L.t28
  obtain ⟨_, _, FG⟩ := L.f6
  refine callsIn_of_wp FG rfl h6 ?_ hro
  simp only [SlBodyZ.n6_ntmps ρ, List.size_toArray, List.length_cons, List.length_nil, Nat.reduceAdd, Nat.reduceSub, Array.replicate_succ, Array.replicate_zero, List.push_toArray, List.append_toArray, List.nil_append, List.cons_append]
  gi_wp2_with (gi_at_fn (ρ.f 8); refine (collectV_in { L with } F (n - 1) h8 h11 hro (by omega) g lb hFg eg zs hN hNb _ hseq).mono ?_; rintro e W ⟨v, rfl, hrow, hb⟩)
  rcases hrow.2 with ⟨rfl, hz⟩ | ⟨gb, cap, cur, rfl, hbase, hgb, r1, r2, r3, r4⟩
  · have hss : zs = [] := List.eq_nil_of_length_eq_zero hz
    subst hss
    gi_wp2_with (gi_at_fn (ρ.f 9); refine (hsort.2 none 0 W).mono ?_; rintro e w' ⟨rfl, rfl⟩)
    go_ret
    exact ⟨.slice none 0 0, rfl, by simpa using hrow, hb⟩
  · have hH : Holds encZ W gb 0 zs.toArray := holds_of_block_i hgb (by simpa using r4)
    have hgl : gb < W.heap.size := (Array.getElem?_eq_some_iff.1 hgb).1
    have hsz : zs.length < 4611686018427387904 := by omega
    have cS := hsort.1 gb 0 cap zs W hH hgl hsz
    gi_wp2_with (gi_at_fn (ρ.f 9); refine cS.mono ?_; rintro e w' ⟨rfl, nn, os, rfl⟩)
    go_ret
    exact ⟨_, rfl, ownsRow_sorted_i (by simp) hbase hgb r1 r2 r3, hb.grown (grownBy_sorted_i _) hb.size (fun j hj => by cases hj; exact hbase)⟩
end Go.Dc

set_option linter.unusedVariables false
/-! slices.Sorted(slices.Values(s)) and slices.Compact as contracts of ours. -/
namespace Go.Dc
open Go.Proofs Go.RowKit Go.Maps Go.Sort Go.Shelf
variable {P : Program} {ρ : Ren}

theorem slH_int {F : FP} {w : World} {cells : Array Value} {off : Nat} {d : List Int} {k : IntKind} : SlH (rI k) F w cells off d ↔ ∀ i (hi : i < d.length), cells[off + i]? = some (.int k d[i]) := by
  constructor
  · intro h i hi
    obtain ⟨es, h1, h2⟩ := h i hi
    have := h2 0 (by simp [rI, one])
    simp only [rI, one, Nat.mul_one, Nat.add_zero] at this h1
    match es, h1 with
    | [u], ⟨hu, _⟩ => rw [this]; simp; exact hu
  · intro h i hi
    refine ⟨[.int k d[i]], ⟨rfl, trivial⟩, fun j hj => ?_⟩
    have hj0 : j = 0 := by simp [rI, one] at hj; omega
    subst hj0
    simpa [rI, one] using h i hi

theorem cell_of_block {w : World} {b o : Nat} {cells : Array Value} {ty : TypeId} {fz : Nat × Nat} (h : w.heap[b]? = some (.cells cells ty fz)) : w.cell? ⟨b, o, none⟩ = cells[o]? := by
  simp [World.cell?, h]
theorem unfrozen_of_block {w : World} {b o : Nat} {cells : Array Value} {ty : TypeId} (h : w.heap[b]? = some (.cells cells ty (0, 0))) : w.frozen? ⟨b, o, none⟩ = false := by
  simp [World.frozen?, h]

def ofInt : Value → Int | .int _ q => q | _ => 0

/-- what a slice value holds, in blocks that lie already -/
def IntsAt (w : World) (sv : Value) (zs : List Int) : Prop :=
  (∃ a c, sv = .slice a 0 c ∧ zs = []) ∨ ∃ b off cap, sv = .slice (some ⟨b, off, none⟩) zs.length cap ∧ b < w.heap.size ∧ ∀ j, j < zs.length → w.cell? ⟨b, off + j, none⟩ = some (.int .i64 (zs[j]?.getD 0))

theorem slv_ints {F : FP} {w : World} {hv : Value} {l : List Int} (h : (slv (rI .i64) l).h F w hv) : IntsAt w hv l := by
  obtain ⟨a, c, rfl, hc, hat⟩ := h
  cases l with
  | nil => exact .inl ⟨a, c, rfl, rfl⟩
  | cons x l =>
    obtain ⟨b, off, cells, ty, fz, rfl, _, hb, hH⟩ := hat (by simp)
    refine .inr ⟨b, off, c, rfl, size_of_get hb, fun j hj => ?_⟩
    rw [cell_of_block hb, slH_int.1 hH j hj, List.getElem?_eq_getElem hj]; rfl

def sortedM (l : List Int) : Option (List Int) := if l.length ≤ 1000000000000 then some (l.mergeSort (fun x y => decide (x ≤ y))) else none
def compactM (l : List Int) : Option (List Int) := if l.length ≤ 1000000000000 then some (Lib.compact l) else none

theorem compact_len (zs : List Int) : (Lib.compact zs).length ≤ zs.length := by
  unfold Lib.compact Lib.compactUpTo
  rw [List.length_map]
  exact Nat.le_trans (List.length_filter_le _ _) (by simp)

theorem sortedV_fn {fS fV ts e : Nat}
    (hC : ∀ (w : World) (Bs : Nat) (sv : Value) (zs : List Int), zs.length ≤ 1000000000000 → Bs < w.heap.size → w.cell? ⟨Bs, 0, none⟩ = some sv → IntsAt w sv zs →
      Calls P fS #[.func (.func fV) #[] #[.pointer (some ⟨Bs, 0, none⟩)]] w fun e' w' => ∃ v : Value, e' = .returned v ∧ w'.ownsRow w.heap.size e 1 v zs.length ((zs.mergeSort (fun x y => decide (x ≤ y))).map encZ) ∧ Below w.heap.size w w')
    {l r : List Int} (hm : sortedM l = some r) {b : Nat} :
    FnOk P fS [pv (.func (.func fV) #[] #[(ptr b 0)])] [oc b [slv (rI .i64) l]] (fun x : Value × List Nat => [pv x.1]) (fun x : Value × List Nat => [oa (rI .i64) x.1 x.2 r]) := by
  intro F w vs hF hmf hbd hnd hob hargs
  unfold sortedM at hm
  have hl : l.length ≤ 1000000000000 := Classical.byContradiction fun hx => by rw [if_neg hx] at hm; cases hm
  rw [if_pos hl] at hm
  cases hm
  match vs, hargs with
  | [v0], ⟨hv0, _⟩ =>
    have hv0' : v0 = .func (.func fV) #[] #[.pointer (some ⟨b, 0, none⟩)] := hv0
    subst hv0'
    obtain ⟨cells, ty, hb, hcs⟩ := hob (oc b [slv (rI .i64) l]) (by simp)
    obtain ⟨u, hcell, hI⟩ : ∃ u, w.cell? ⟨b, 0, none⟩ = some u ∧ IntsAt w u l := by
      rw [cell_of_block hb]
      match hq : cells.toList, hcs with
      | [u], ⟨hu, _⟩ =>
        have : cells = #[u] := by apply Array.toList_inj.1; simpa using hq
        exact ⟨u, by rw [this]; rfl, slv_ints hu⟩
    refine Calls.mono (hC w b u l hl (size_of_get hb) hcell hI) ?_
    rintro e' w' ⟨v, rfl, hrow, hB⟩
    have hk : Kept (ow [oc b [slv (rI .i64) l]]) w w' := ⟨hB.os, hB.tape, hB.output, hB.size, fun k hk _ => hB.block k hk⟩
    have hlen : (l.mergeSort (fun x y => decide (x ≤ y))).length = l.length := by simp
    rcases hrow with ⟨-, ⟨rfl, hz⟩ | ⟨g, cap, cur, rfl, hbase, hg, r1, r2, r3, r4⟩⟩
    · have hl0 : l = [] := List.eq_nil_of_length_eq_zero hz
      subst hl0
      refine ⟨(.slice none 0 0, []), .slice none 0 0, rfl, hk, by simp [ow, oa], by simp [ow, oa], fun o ho => ?_, rfl⟩
      rw [List.mem_singleton.1 ho]
      exact ⟨none, 0, by simp, by simp, .inl ⟨rfl, rfl, rfl⟩⟩
    · refine ⟨(.slice (some ⟨g, 0, none⟩) l.length cap, [g]), _, rfl, hk, fun k hk' => ?_, by simp [ow, oa], fun o ho => ?_, rfl⟩
      · have : k = g := by simpa [ow, oa] using hk'
        subst this
        exact ⟨size_of_get hg, .inl hbase⟩
      · rw [List.mem_singleton.1 ho]
        refine ⟨_, cap, by rw [hlen], by rw [hlen]; exact r1, .inr ⟨g, 0, cur, e, rfl, rfl, hg, ?_, slH_int.2 fun i hi => ?_⟩⟩
        · rw [r3]; simp [rI, one]
        · have h1 : (cur.toList.take (l.length * 1))[i]? = ((l.mergeSort (fun x y => decide (x ≤ y))).map encZ)[i]? := by rw [r4]
          rw [List.getElem?_take_of_lt (by omega), List.getElem?_map, List.getElem?_eq_getElem hi] at h1
          simpa [encZ] using h1

theorem compact_fn {fS : Nat}
    (hC : ∀ (w : World) (blk off cap : Nat) (zs : List Int), Holds (Value.int .i64) w blk off zs.toArray → zs.length ≤ 9223372036854775807 → zs.length ≤ cap →
      Calls P fS #[.slice (some ⟨blk, off, none⟩) zs.length cap] w fun e w' => e = .returned (.slice (some ⟨blk, off, none⟩) (Lib.compact zs).length cap) ∧ ∃ q, w' = putRow (Value.int .i64) (Sort.ahead w q) blk off (Lib.compact zs ++ List.replicate (zs.length - (Lib.compact zs).length) 0).toArray)
    (hE : ∀ (a : Option Addr) (cap : Nat) (w : World), Calls P fS #[.slice a 0 cap] w fun e w' => e = .returned (.slice a 0 cap) ∧ w' = w)
    (hlen : ∀ zs : List Int, (Lib.compact zs).length ≤ zs.length)
    {l r : List Int} (hm : compactM l = some r) {h : Value × List Nat} :
    FnOk P fS [pv h.1] [oa (rI .i64) h.1 h.2 l] (fun x : Value × List Nat => [pv x.1]) (fun x : Value × List Nat => [oa (rI .i64) x.1 x.2 r]) := by
  intro F w vs hF hmf hbd hnd hob hargs
  unfold compactM at hm
  have hl : l.length ≤ 1000000000000 := Classical.byContradiction fun hx => by rw [if_neg hx] at hm; cases hm
  rw [if_pos hl] at hm
  cases hm
  match vs, hargs with
  | [v0], ⟨hv0, _⟩ =>
    have hv0' : v0 = h.1 := hv0
    subst hv0'
    obtain ⟨hv, S⟩ := h
    obtain ⟨a, c, e1, hc, hat⟩ := hob (oa (rI .i64) hv S l) (by simp)
    simp only at e1 hat ⊢
    subst e1
    rcases hat with ⟨rfl, rfl, rfl⟩ | ⟨b, off, cells, ty, rfl, rfl, hb, hsz, hH⟩
    · have : l = [] := List.eq_nil_of_length_eq_zero (by omega)
      subst this
      refine Calls.mono (hE none 0 w) ?_
      rintro e' w' ⟨rfl, rfl⟩
      refine ⟨(.slice none 0 0, []), _, rfl, .refl _ _, by simp [ow, oa], by simp [ow, oa], fun o ho => ?_, rfl⟩
      rw [List.mem_singleton.1 ho]
      exact ⟨none, 0, rfl, by simp [Lib.compact, Lib.compactUpTo], .inl ⟨rfl, rfl, rfl⟩⟩
    · have hI := slH_int.1 hH
      have hsz' : off + c ≤ cells.size := by simpa [rI, one] using hsz
      have hHo : Holds (Value.int .i64) w b off l.toArray := fun j hj => by
        have hj' : j < l.length := by simpa using hj
        refine ⟨?_, unfrozen_of_block hb⟩
        rw [cell_of_block hb, hI j hj']
        simp [getElem!_pos, hj']
      refine Calls.mono (hC w b off c l hHo (by omega) hc) ?_
      rintro e' w' ⟨rfl, q, rfl⟩
      have hbl := size_of_get hb
      have hheap : ∀ k, (putRow (Value.int .i64) (Sort.ahead w q) b off (Lib.compact l ++ List.replicate (l.length - (Lib.compact l).length) 0).toArray).heap[k]? = if k = b then some (.cells (putCells (Value.int .i64) off (Lib.compact l ++ List.replicate (l.length - (Lib.compact l).length) 0).toArray cells) ty (0, 0)) else w.heap[k]? := fun k => by
        unfold putRow mapBlock Sort.ahead
        simp only [Array.getElem?_modify]
        by_cases e : b = k
        · subst e; rw [if_pos rfl, if_pos rfl, hb]; rfl
        · rw [if_neg e, if_neg (fun h => e h.symm)]
      have hcl := hlen l
      refine ⟨(.slice (some ⟨b, off, none⟩) (Lib.compact l).length c, [b]), _, rfl, ⟨rfl, rfl, rfl, by simp [putRow, mapBlock, Sort.ahead], fun k hk hk' => ?_⟩, fun k hk' => ?_, by simp [ow, oa], fun o ho => ?_, rfl⟩
      · rw [hheap, if_neg (fun e => hk' (by simp [ow, oa, e]))]
      · have : k = b := by simpa [ow, oa] using hk'
        subst this
        exact ⟨by simp [putRow, mapBlock, Sort.ahead]; exact hbl, .inr (by simp [ow, oa])⟩
      · rw [List.mem_singleton.1 ho]
        refine ⟨_, c, rfl, by omega, .inr ⟨b, off, _, ty, rfl, rfl, by rw [hheap, if_pos rfl], ?_, slH_int.2 fun i hi => ?_⟩⟩
        · simp only [putCells, Array.size_mapIdx]; exact hsz
        · have hi2 : off + i < cells.size := by omega
          simp only [putCells, Array.getElem?_mapIdx, Array.getElem?_eq_getElem hi2, Option.map_some]
          rw [if_pos (by simp; omega)]
          have : off + i - off = i := by omega
          rw [this]
          have hi3 : i < (Lib.compact l ++ List.replicate (l.length - (Lib.compact l).length) (0 : Int)).length := by simp; omega
          rw [getElem!_pos _ _ (by simpa using hi3)]
          simp [List.getElem_append_left hi]
end Go.Dc

/-! What the sorted and the compacted list are, in plain words. -/
set_option linter.unusedVariables false
namespace Go.Dc
open Go.Proofs

def ins (x : Int) : List Int → List Int
  | [] => [x]
  | y :: l => bif decide (x ≤ y) then x :: y :: l else y :: ins x l
def isort : List Int → List Int
  | [] => []
  | x :: l => ins x (isort l)

theorem ins_perm (x : Int) : ∀ l : List Int, (ins x l).Perm (x :: l)
  | [] => .refl _
  | y :: l => by
    unfold ins
    cases decide (x ≤ y) with
    | true => exact .refl _
    | false => exact ((ins_perm x l).cons y).trans (.swap x y l)
theorem isort_perm : ∀ l : List Int, (isort l).Perm l
  | [] => .refl _
  | x :: l => (ins_perm x _).trans ((isort_perm l).cons x)
theorem ins_pw (x : Int) : ∀ {l : List Int}, l.Pairwise (· ≤ ·) → (ins x l).Pairwise (· ≤ ·)
  | [], _ => by simp [ins]
  | y :: l, h => by
    unfold ins
    have h1 := List.pairwise_cons.1 h
    cases hd : decide (x ≤ y) with
    | true =>
      have := of_decide_eq_true hd
      exact List.pairwise_cons.2 ⟨fun z hz => (List.mem_cons.1 hz).elim (fun e => by rw [e]; exact this) (fun hz => Int.le_trans this (h1.1 z hz)), h⟩
    | false =>
      have := of_decide_eq_false hd
      exact List.pairwise_cons.2 ⟨fun z hz => (List.mem_cons.1 ((ins_perm x l).mem_iff.1 hz)).elim (fun e => by rw [e]; omega) (fun hz => h1.1 z hz), ins_pw x h1.2⟩
theorem isort_pw : ∀ l : List Int, (isort l).Pairwise (· ≤ ·)
  | [] => .nil
  | x :: l => ins_pw x (isort_pw l)

theorem msort_pw (l : List Int) : (l.mergeSort (fun x y => decide (x ≤ y))).Pairwise (· ≤ ·) := by
  have := List.pairwise_mergeSort (le := fun x y : Int => decide (x ≤ y)) (fun a b c h1 h2 => by simp at *; omega) (fun a b => by simp; omega) l
  exact this.imp (fun h => of_decide_eq_true h)

theorem isort_eq (l : List Int) : isort l = l.mergeSort (fun x y => decide (x ≤ y)) :=
  List.Perm.eq_of_pairwise (le := (· ≤ ·)) (fun a b _ _ h1 h2 => Int.le_antisymm h1 h2) (isort_pw l) (msort_pw l) ((isort_perm l).trans (List.mergeSort_perm l _).symm)

def sortedF (l : List Int) : Option (List Int) := if l.length ≤ 1000000000000 then some (isort l) else none
theorem sortedF_le {l : List Int} : Le (sortedF l) (sortedM l) := fun r h => by
  unfold sortedF at h; unfold sortedM; rw [← isort_eq]; exact h

theorem sorted_plain {l : List Int} (h : l.length ≤ 1000000000000) : sortedM l = some (isort l) := by unfold sortedM; rw [if_pos h, isort_eq]

theorem compact_get {zs : List Int} : Lib.compact zs = ((List.range zs.length).filter (Lib.keeps zs.toArray)).map (fun j => zs[j]?.getD 0) := by
  unfold Lib.compact Lib.compactUpTo
  apply List.map_congr_left
  intro j hj
  have : j < zs.length := by have := (List.mem_filter.1 hj).1; simpa using this
  simp [this]

theorem keeps_iff {zs : List Int} {j : Nat} (hj : j < zs.length) : Lib.keeps zs.toArray j = true ↔ j = 0 ∨ zs[j]?.getD 0 ≠ zs[j - 1]?.getD 0 := by
  have h1 : j - 1 < zs.length := by omega
  unfold Lib.keeps
  by_cases h : j = 0
  · simp [h]
  · simp [h, hj, h1]

theorem mem_compact {zs : List Int} {x : Int} : x ∈ Lib.compact zs ↔ x ∈ zs := by
  rw [compact_get, List.mem_map]
  constructor
  · rintro ⟨j, hj, rfl⟩
    have hj : j < zs.length := by simpa using (List.mem_filter.1 hj).1
    rw [List.getElem?_eq_getElem hj]; exact List.getElem_mem hj
  · intro hx
    obtain ⟨j, hj, rfl⟩ := List.getElem_of_mem hx
    suffices ∀ n j (hj : j < zs.length), j ≤ n → ∃ i, i ∈ (List.range zs.length).filter (Lib.keeps zs.toArray) ∧ zs[i]?.getD 0 = zs[j] from this j j hj (Nat.le_refl _)
    intro n
    induction n with
    | zero =>
      intro j hj hn
      exact ⟨j, List.mem_filter.2 ⟨by simpa using hj, (keeps_iff hj).2 (.inl (by omega))⟩, by simp [hj]⟩
    | succ n ih =>
      intro j hj hn
      by_cases hk : Lib.keeps zs.toArray j = true
      · exact ⟨j, List.mem_filter.2 ⟨by simpa using hj, hk⟩, by simp [hj]⟩
      · have h2 := fun h => hk ((keeps_iff hj).2 h)
        have h0 : j ≠ 0 := fun h => h2 (.inl h)
        have h3 : zs[j]?.getD 0 = zs[j - 1]?.getD 0 := Classical.byContradiction fun h => h2 (.inr h)
        obtain ⟨i, hi, he⟩ := ih (j - 1) (by omega) (by omega)
        refine ⟨i, hi, he.trans ?_⟩
        have h4 : j - 1 < zs.length := by omega
        simpa [hj, h4] using h3.symm

theorem compact_asc {zs : List Int} (h : zs.Pairwise (· ≤ ·)) : (Lib.compact zs).Pairwise (· < ·) := by
  rw [compact_get, List.pairwise_map]
  have hp : ((List.range zs.length).filter (Lib.keeps zs.toArray)).Pairwise (· < ·) := List.Pairwise.filter _ List.pairwise_lt_range
  refine List.Pairwise.imp_of_mem ?_ hp
  intro i j hi hj hij
  have hi' : i < zs.length := by simpa using (List.mem_filter.1 hi).1
  have hj' : j < zs.length := by simpa using (List.mem_filter.1 hj).1
  have hk := (keeps_iff hj').1 (List.mem_filter.1 hj).2
  have hg := List.pairwise_iff_getElem.1 h
  have h1 : j - 1 < zs.length := by omega
  have h2 : zs[i] ≤ zs[j - 1] := by
    by_cases e : i = j - 1
    · subst e; exact Int.le_refl _
    · exact hg i (j - 1) hi' h1 (by omega)
  have h3 : zs[j - 1] ≤ zs[j] := hg (j - 1) j h1 hj' (by omega)
  rcases hk with hk | hk
  · omega
  · simp [hi', hj', h1] at hk ⊢
    omega

theorem bounds_plain {l : List Int} (h : l.length ≤ 1000000000) : ∃ r, (Option.bind (sortedM l) fun q => compactM q) = some r ∧ r.Pairwise (· < ·) ∧ (∀ x, x ∈ r ↔ x ∈ l) ∧ r.length ≤ l.length := by
  have hlen : (isort l).length = l.length := (isort_perm l).length_eq
  rw [sorted_plain (by omega)]
  refine ⟨Lib.compact (isort l), ?_, compact_asc (isort_pw l), fun x => by rw [mem_compact, (isort_perm l).mem_iff], by have := compact_len (isort l); omega⟩
  rw [some_bind]; unfold compactM; rw [if_pos (by omega)]
end Go.Dc
