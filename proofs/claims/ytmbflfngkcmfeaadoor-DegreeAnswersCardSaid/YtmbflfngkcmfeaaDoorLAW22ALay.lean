/- Part LAW22A.Lay of a proof: lemmas. -/
import Derived.Test.YtmbflfngkcmfeaaDoorLAW22ATypes
import Derived.Test.YtmbflfngkcmfeaaDoorDcSortP
import Derived.Test.YtmbflfngkcmfeaaDoorProg
set_option linter.unusedVariables false
set_option maxRecDepth 100000
set_option maxHeartbeats 4000000
namespace Go.Dc
open Go.Proofs Go.RowKit Go.Shelf
open Go.Proofs.Tryd (prog)

def sortedA_ren : Ren := ⟨fun | 6 => 62 | 8 => 82 | 9 => 83 | 11 => 89 | 13 => 91 | 12 => 90 | 23 => 101 | 24 => 102 | 14 => 92 | 15 => 93 | 16 => 94 | 17 => 95 | 18 => 96 | 19 => 97 | 20 => 98 | 21 => 99 | 22 => 100 | 25 => 103 | 26 => 104 | 27 => 105 | 28 => 106 | 29 => 107 | 30 => 87 | 31 => 108 | n => n, fun | 26 => 3 | 28 => 102 | 24 => 22 | 0 => 0 | 3 => 3 | 37 => 37 | 48 => 131 | 50 => 76 | 4 => 4 | 40 => 124 | 39 => 123 | 45 => 96 | 5 => 5 | 9 => 9 | 51 => 132 | 55 => 136 | 57 => 138 | 58 => 139 | 33 => 83 | n => n, fun n => n⟩
theorem sortedA : SlLaysZI.n6 prog sortedA_ren where
  mixed := by kernel_rfl
  f6 := ⟨ "slices.Sorted[int]", by decide, Tryd.func62.trans (congrArg some (by kernel_rfl))⟩
  f8 := ⟨ "slices.Collect[int]", by decide, Tryd.func82.trans (congrArg some (by kernel_rfl))⟩
  f11 := ⟨ "slices.AppendSeq[[]int,int]", by decide, Tryd.func89.trans (congrArg some (by kernel_rfl))⟩
  t0 := Tryd.underlying0
  a0 := Tryd.isAgg0
  z0 := Tryd.sizeOf0
  v0 := Tryd.zeroValue0
  t24 := Tryd.underlying22
  a24 := Tryd.isAgg22
  z24 := Tryd.sizeOf22
  v24 := Tryd.zeroValue22
  t26 := Tryd.underlying3
  a26 := Tryd.isAgg3
  z26 := Tryd.sizeOf3
  v26 := Tryd.zeroValue3
  t28 := Tryd.underlying102
  a28 := Tryd.isAgg102
  z28 := Tryd.sizeOf102
  v28 := Tryd.zeroValue102
  i26 := by kernel_rfl

def sortA_ren : Ren := ⟨fun | 5 => 83 | 8 => 91 | 7 => 90 | 19 => 101 | 20 => 102 | 10 => 92 | 11 => 93 | 12 => 94 | 13 => 95 | 14 => 96 | 15 => 97 | 16 => 98 | 17 => 99 | 18 => 100 | 30 => 103 | 31 => 104 | 32 => 105 | 33 => 106 | 34 => 107 | 35 => 87 | 40 => 108 | n => n, fun | 23 => 22 | 25 => 3 | 3 => 3 | 32 => 37 | 22 => 22 | 0 => 0 | 44 => 131 | 46 => 76 | 4 => 4 | 36 => 124 | 35 => 123 | 41 => 96 | 5 => 5 | 9 => 9 | 53 => 132 | 57 => 136 | 63 => 138 | 64 => 139 | n => n, fun n => n⟩
theorem sortA : SlLaysM.n5 prog sortA_ren where
  mixed := by kernel_rfl
  f5 := ⟨ "slices.Sort[[]int,int]", by decide, Tryd.func83.trans (congrArg some (by kernel_rfl))⟩
  f7 := ⟨ "slices.pdqsortOrdered[int]", by decide, Tryd.func90.trans (congrArg some (by kernel_rfl))⟩
  f8 := Tryd.func91.trans (congrArg some (by kernel_rfl))
  f10 := ⟨ "slices.insertionSortOrdered[int]", by decide, Tryd.func92.trans (congrArg some (by kernel_rfl))⟩
  f11 := ⟨ "slices.heapSortOrdered[int]", by decide, Tryd.func93.trans (congrArg some (by kernel_rfl))⟩
  f12 := ⟨ "slices.breakPatternsOrdered[int]", by decide, Tryd.func94.trans (congrArg some (by kernel_rfl))⟩
  f13 := ⟨ "slices.choosePivotOrdered[int]", by decide, Tryd.func95.trans (congrArg some (by kernel_rfl))⟩
  f14 := ⟨ "slices.reverseRangeOrdered[int]", by decide, Tryd.func96.trans (congrArg some (by kernel_rfl))⟩
  f15 := ⟨ "slices.partialInsertionSortOrdered[int]", by decide, Tryd.func97.trans (congrArg some (by kernel_rfl))⟩
  f16 := ⟨ "cmp.Less[int]", by decide, Tryd.func98.trans (congrArg some (by kernel_rfl))⟩
  f17 := ⟨ "slices.partitionEqualOrdered[int]", by decide, Tryd.func99.trans (congrArg some (by kernel_rfl))⟩
  f18 := ⟨ "slices.partitionOrdered[int]", by decide, Tryd.func100.trans (congrArg some (by kernel_rfl))⟩
  f19 := Tryd.func101.trans (congrArg some (by kernel_rfl))
  f20 := Tryd.func102.trans (congrArg some (by kernel_rfl))
  f30 := ⟨ "slices.siftDownOrdered[int]", by decide, Tryd.func103.trans (congrArg some (by kernel_rfl))⟩
  f31 := Tryd.func104.trans (congrArg some (by kernel_rfl))
  f32 := Tryd.func105.trans (congrArg some (by kernel_rfl))
  f33 := ⟨ "slices.medianAdjacentOrdered[int]", by decide, Tryd.func106.trans (congrArg some (by kernel_rfl))⟩
  f34 := ⟨ "slices.medianOrdered[int]", by decide, Tryd.func107.trans (congrArg some (by kernel_rfl))⟩
  f35 := ⟨ "cmp.isNaN[int]", by decide, Tryd.func87.trans (congrArg some (by kernel_rfl))⟩
  f40 := ⟨ "slices.order2Ordered[int]", by decide, Tryd.func108.trans (congrArg some (by kernel_rfl))⟩
  t0 := Tryd.underlying0
  a0 := Tryd.isAgg0
  z0 := Tryd.sizeOf0
  v0 := Tryd.zeroValue0
  t3 := Tryd.underlying3
  a3 := Tryd.isAgg3
  z3 := Tryd.sizeOf3
  v3 := Tryd.zeroValue3
  t4 := Tryd.underlying4
  a4 := Tryd.isAgg4
  z4 := Tryd.sizeOf4
  v4 := Tryd.zeroValue4
  t5 := Tryd.underlying5
  a5 := Tryd.isAgg5
  z5 := Tryd.sizeOf5
  v5 := Tryd.zeroValue5
  t9 := Tryd.underlying9
  a9 := Tryd.isAgg9
  z9 := Tryd.sizeOf9
  v9 := Tryd.zeroValue9
  t22 := Tryd.underlying22
  a22 := Tryd.isAgg22
  z22 := Tryd.sizeOf22
  v22 := Tryd.zeroValue22
  t23 := Tryd.underlying22
  a23 := Tryd.isAgg22
  z23 := Tryd.sizeOf22
  v23 := Tryd.zeroValue22
  t25 := Tryd.underlying3
  a25 := Tryd.isAgg3
  z25 := Tryd.sizeOf3
  v25 := Tryd.zeroValue3
  t32 := Tryd.underlying37
  a32 := Tryd.isAgg37
  z32 := Tryd.sizeOf37
  v32 := Tryd.zeroValue37
  t35 := Tryd.underlying123
  a35 := Tryd.isAgg123
  z35 := Tryd.sizeOf123
  v35 := Tryd.zeroValue123
  t36 := Tryd.underlying124
  a36 := Tryd.isAgg124
  z36 := Tryd.sizeOf124
  v36 := Tryd.zeroValue124
  t41 := Tryd.underlying96
  a41 := Tryd.isAgg96
  z41 := Tryd.sizeOf96
  v41 := Tryd.zeroValue96
  t44 := Tryd.underlying131
  a44 := Tryd.isAgg131
  z44 := Tryd.sizeOf131
  v44 := Tryd.zeroValue131
  t46 := Tryd.underlying76
  a46 := Tryd.isAgg76
  z46 := Tryd.sizeOf76
  v46 := Tryd.zeroValue76
  t53 := Tryd.underlying132
  a53 := Tryd.isAgg132
  z53 := Tryd.sizeOf132
  v53 := Tryd.zeroValue132
  t57 := Tryd.underlying136
  a57 := Tryd.isAgg136
  z57 := Tryd.sizeOf136
  v57 := Tryd.zeroValue136
  t63 := Tryd.underlying138
  a63 := Tryd.isAgg138
  z63 := Tryd.sizeOf138
  v63 := Tryd.zeroValue138
  t64 := Tryd.underlying139
  a64 := Tryd.isAgg139
  z64 := Tryd.sizeOf139
  v64 := Tryd.zeroValue139

def compA_ren : Ren := ⟨fun | 20 => 61 | n => n, fun | 22 => 22 | 3 => 3 | 4 => 4 | 0 => 0 | n => n, fun n => n⟩
theorem compA : Lays2.n20 prog compA_ren where
  mixed := by kernel_rfl
  f20 := Tryd.func61.trans (congrArg some (by kernel_rfl))
  t0 := Tryd.underlying0
  a0 := Tryd.isAgg0
  z0 := Tryd.sizeOf0
  v0 := Tryd.zeroValue0
  t3 := Tryd.underlying3
  a3 := Tryd.isAgg3
  z3 := Tryd.sizeOf3
  v3 := Tryd.zeroValue3
  t4 := Tryd.underlying4
  a4 := Tryd.isAgg4
  z4 := Tryd.sizeOf4
  v4 := Tryd.zeroValue4
  t22 := Tryd.underlying22
  a22 := Tryd.isAgg22
  z22 := Tryd.sizeOf22
  v22 := Tryd.zeroValue22
  i3 := by kernel_rfl

theorem sortsA (m : Nat) : AnyZI.SortsIn prog sortedA_ren Fence.wide m :=
  ⟨fun blk off cap ss W hH hblk hsz => callsIn_wide.2 (AnyM.slices_Sort_int sortA blk off cap ss W hH hblk hsz),
   fun p cap W => callsIn_wide.2 (AnyM.slices_Sort_int_none sortA p cap W)⟩



theorem values1_in (n : Nat) (hn : 1 ≤ n) (l Bs b off len cap n0 : Nat) (f : Nat → Int) (J : List Int → World → Prop) (hreach : len * 8 ≤ 140737488351232)
    (hJ : ∀ pre W, J pre W → ∀ j, j < len → W.cell? ⟨b, off + j, none⟩ = some (.int .i64 (f j)))
    (hY : ∀ pre x W, J pre W → pre.length < len → YieldAt Fence.wide (n - 1) prog l #[.int .i64 x] W fun e W' => e = .returned (.bool true) ∧ J (pre ++ [x]) W' ∧ KeepsWalks W W')
    (W : World) (hBs : W.cell? ⟨Bs, 0, none⟩ = some (.slice (some ⟨b, off, none⟩) len cap)) (h0 : J [] W) :
    CallsIn Fence.wide n prog 84 #[.func (.yield l) #[] #[], .pointer (some ⟨Bs, 0, none⟩)] W fun e W' => (∃ v, e = .returned v) ∧ J ((List.range len).map f) W' := by
  refine callsIn_of_wp Tryd.func84 rfl trivial ?_ rfl
  simp only [Tryd.ntmps84, List.size_toArray, List.length_cons, List.length_nil, Nat.reduceAdd, Nat.reduceSub, Array.replicate_succ, Array.replicate_zero, List.push_toArray, List.append_toArray, List.nil_append, List.cons_append]
  gi_wp2
  gi_loopw [7] (fun i wr => ∃ k : Nat, k ≤ len ∧ i = .int .i64 k ∧ J ((List.range k).map f) wr)
    (fun i _ => len - (ofInt i).toNat)
  case atStart => exact ⟨0, Nat.zero_le _, rfl, h0⟩
  case round =>
    obtain ⟨k, hk, rfl, hJs⟩ := hrel
    by_cases hlt : k < len
    · obtain ⟨fn, tmps, assign, body, hy, hR⟩ := hY _ (f k) wr hJs (by simp; exact hlt)
      have hcx' := hJ _ _ hJs k hlt
      gi_wp2
      refine hR.mono ?_
      rintro e W3 ⟨rfl, hJ3, _⟩
      gi_wp2
      go_roundw
      case rel => exact ⟨k + 1, by omega, by simp, by rw [List.range_succ, List.map_append]; exact hJ3⟩
      case measure => simp [ofInt]; omega
    · obtain rfl : k = len := by omega
      gi_wp2
      go_end0
      exact ⟨⟨_, rfl⟩, hJs⟩

theorem values1_nil (n : Nat) (l Bs c : Nat) (a : Option Addr) (J : List Int → World → Prop) (W : World) (hBs : W.cell? ⟨Bs, 0, none⟩ = some (.slice a 0 c)) (h0 : J [] W) :
    CallsIn Fence.wide n prog 84 #[.func (.yield l) #[] #[], .pointer (some ⟨Bs, 0, none⟩)] W fun e W' => (∃ v, e = .returned v) ∧ J [] W' := by
  refine callsIn_of_wp Tryd.func84 rfl trivial ?_ rfl
  simp only [Tryd.ntmps84, List.size_toArray, List.length_cons, List.length_nil, Nat.reduceAdd, Nat.reduceSub, Array.replicate_succ, Array.replicate_zero, List.push_toArray, List.append_toArray, List.nil_append, List.cons_append]
  gi_wp2
  gi_loopw [7] (fun i wr => i = .int .i64 0 ∧ J [] wr) (fun _ _ => 0)
  case atStart => exact ⟨rfl, h0⟩
  case round =>
    obtain ⟨rfl, hJs⟩ := hrel
    gi_wp2
    go_end0
    exact ⟨⟨_, rfl⟩, hJs⟩

/-- the iterator of slices.Values: every element in turn -/
theorem values1_gives (n : Nat) (hn : 1 ≤ n) (w : World) (Bs : Nat) (sv : Value) (zs : List Int) (hr : zs.length ≤ 1000000000000) (hB : w.cell? ⟨Bs, 0, none⟩ = some sv) (hBs : Bs < w.heap.size) (hI : IntsAt w sv zs) :
    GivesB Fence.wide n prog 84 #[.pointer (some ⟨Bs, 0, none⟩)] zs w := by
  intro l J W hW hJ hY h0
  have hBs' := (hW.cell (p := ⟨Bs, 0, none⟩) hBs).trans hB
  rcases hI with ⟨a, c, rfl, rfl⟩ | ⟨b, off, cap, rfl, hb, hcs⟩
  · exact values1_nil n l Bs c a J W hBs' h0
  · have h := values1_in n hn l Bs b off zs.length cap w.heap.size (fun j => zs[j]?.getD 0) J (by omega) (fun pre W1 hj j hj2 => ((hJ _ _ hj).cell (p := ⟨b, off + j, none⟩) hb).trans (hcs j hj2)) hY W hBs' h0
    have e : (List.range zs.length).map (fun j => zs[j]?.getD 0) = zs := by
      apply List.ext_getElem
      · simp
      · intro i h1 h2; simp [h2]
    rw [e] at h
    exact h

theorem slices_Sorted_ok {e_0 r : List Int} (hm : sortedM e_0 = some r) {be_0 : Nat} :
    FnOk prog 62 [pv (.func (.func 84) #[] #[(ptr be_0 0)])] [oc be_0 [slv (rI .i64) e_0]] (fun x : Value × List Nat => [pv x.1]) (fun x : Value × List Nat => [oa (rI .i64) x.1 x.2 r]) :=
  sortedV_fn (ts := 0) (fun w Bs sv zs hz hBs hB hI => (callsIn_wide (n := 6)).1 (sortedV_in sortedA Fence.wide 6 trivial trivial trivial trivial rfl (by omega) (sortsA _) (enters_of Tryd.func83 (by kernel_rfl) rfl) 84 #[.pointer (some ⟨Bs, 0, none⟩)] trivial (enters_of Tryd.func84 (by kernel_rfl) rfl) zs (Nat.le_trans hz (by decide)) (by omega) w (values1_gives _ (by omega) w Bs sv zs hz hB hBs hI))) hm

theorem slices_Compact_ok {s_0 r : List Int} (hm : compactM s_0 = some r) {h_0 : Value × List Nat} :
    FnOk prog 61 [pv h_0.1] [oa (rI .i64) h_0.1 h_0.2 s_0] (fun x : Value × List Nat => [pv x.1]) (fun x : Value × List Nat => [oa (rI .i64) x.1 x.2 r]) :=
  compact_fn (fun w blk off cap zs h1 h2 h3 => Any.slices_Compact_int compA blk off cap zs w h1 h2 h3) (fun a cap w => Any.slices_Compact_int_empty compA a cap w) compact_len hm

end Go.Dc
