/- Part LAW38Z.Lay of a proof: lemmas. -/
import Derived.Test.YtcpkdjlfgfikcaaGreatDoorLAW38ZTypes
import Derived.Test.YtcpkdjlfgfikcaaGreatDoorDcSortS
import Derived.Test.YtcpkdjlfgfikcaaGreatDoorProg
set_option linter.unusedVariables false
set_option maxRecDepth 100000
set_option maxHeartbeats 4000000
namespace Go.Dc
open Go.Proofs Go.RowKit Go.Shelf
open Go.Proofs.Tryz (prog)

def sortSA_ren : Ren := ⟨fun | 6 => 60 | 8 => 80 | 9 => 79 | 19 => 96 | 20 => 97 | 21 => 87 | 22 => 88 | 23 => 89 | 24 => 90 | 25 => 91 | 26 => 92 | 27 => 93 | 28 => 94 | 29 => 95 | 36 => 100 | 31 => 101 | 32 => 102 | 37 => 103 | 38 => 104 | 39 => 105 | 41 => 110 | n => n, fun | 27 => 22 | 29 => 9 | 3 => 3 | 32 => 100 | 26 => 22 | 0 => 0 | 44 => 115 | 46 => 117 | 4 => 4 | 36 => 107 | 35 => 106 | 41 => 112 | 5 => 5 | 9 => 9 | 53 => 121 | 57 => 125 | 63 => 133 | 64 => 134 | n => n, fun n => n⟩
theorem sortSA : SlLaysM.n6 prog sortSA_ren where
  mixed := by kernel_rfl
  f6 := ⟨ "slices.Sort[[]string,string]", by decide, Tryz.func60.trans (congrArg some (by kernel_rfl))⟩
  f8 := Tryz.func80.trans (congrArg some (by kernel_rfl))
  f9 := ⟨ "slices.pdqsortOrdered[string]", by decide, Tryz.func79.trans (congrArg some (by kernel_rfl))⟩
  f19 := Tryz.func96.trans (congrArg some (by kernel_rfl))
  f20 := Tryz.func97.trans (congrArg some (by kernel_rfl))
  f21 := ⟨ "slices.insertionSortOrdered[string]", by decide, Tryz.func87.trans (congrArg some (by kernel_rfl))⟩
  f22 := ⟨ "slices.heapSortOrdered[string]", by decide, Tryz.func88.trans (congrArg some (by kernel_rfl))⟩
  f23 := ⟨ "slices.breakPatternsOrdered[string]", by decide, Tryz.func89.trans (congrArg some (by kernel_rfl))⟩
  f24 := ⟨ "slices.choosePivotOrdered[string]", by decide, Tryz.func90.trans (congrArg some (by kernel_rfl))⟩
  f25 := ⟨ "slices.reverseRangeOrdered[string]", by decide, Tryz.func91.trans (congrArg some (by kernel_rfl))⟩
  f26 := ⟨ "slices.partialInsertionSortOrdered[string]", by decide, Tryz.func92.trans (congrArg some (by kernel_rfl))⟩
  f27 := ⟨ "cmp.Less[string]", by decide, Tryz.func93.trans (congrArg some (by kernel_rfl))⟩
  f28 := ⟨ "slices.partitionEqualOrdered[string]", by decide, Tryz.func94.trans (congrArg some (by kernel_rfl))⟩
  f29 := ⟨ "slices.partitionOrdered[string]", by decide, Tryz.func95.trans (congrArg some (by kernel_rfl))⟩
  f31 := Tryz.func101.trans (congrArg some (by kernel_rfl))
  f32 := Tryz.func102.trans (congrArg some (by kernel_rfl))
  f36 := ⟨ "slices.siftDownOrdered[string]", by decide, Tryz.func100.trans (congrArg some (by kernel_rfl))⟩
  f37 := ⟨ "slices.medianAdjacentOrdered[string]", by decide, Tryz.func103.trans (congrArg some (by kernel_rfl))⟩
  f38 := ⟨ "slices.medianOrdered[string]", by decide, Tryz.func104.trans (congrArg some (by kernel_rfl))⟩
  f39 := ⟨ "cmp.isNaN[string]", by decide, Tryz.func105.trans (congrArg some (by kernel_rfl))⟩
  f41 := ⟨ "slices.order2Ordered[string]", by decide, Tryz.func110.trans (congrArg some (by kernel_rfl))⟩
  t0 := Tryz.underlying0
  a0 := Tryz.isAgg0
  z0 := Tryz.sizeOf0
  v0 := Tryz.zeroValue0
  t3 := Tryz.underlying3
  a3 := Tryz.isAgg3
  z3 := Tryz.sizeOf3
  v3 := Tryz.zeroValue3
  t4 := Tryz.underlying4
  a4 := Tryz.isAgg4
  z4 := Tryz.sizeOf4
  v4 := Tryz.zeroValue4
  t5 := Tryz.underlying5
  a5 := Tryz.isAgg5
  z5 := Tryz.sizeOf5
  v5 := Tryz.zeroValue5
  t9 := Tryz.underlying9
  a9 := Tryz.isAgg9
  z9 := Tryz.sizeOf9
  v9 := Tryz.zeroValue9
  t26 := Tryz.underlying22
  a26 := Tryz.isAgg22
  z26 := Tryz.sizeOf22
  v26 := Tryz.zeroValue22
  t27 := Tryz.underlying22
  a27 := Tryz.isAgg22
  z27 := Tryz.sizeOf22
  v27 := Tryz.zeroValue22
  t29 := Tryz.underlying9
  a29 := Tryz.isAgg9
  z29 := Tryz.sizeOf9
  v29 := Tryz.zeroValue9
  t32 := Tryz.underlying100
  a32 := Tryz.isAgg100
  z32 := Tryz.sizeOf100
  v32 := Tryz.zeroValue100
  t35 := Tryz.underlying106
  a35 := Tryz.isAgg106
  z35 := Tryz.sizeOf106
  v35 := Tryz.zeroValue106
  t36 := Tryz.underlying107
  a36 := Tryz.isAgg107
  z36 := Tryz.sizeOf107
  v36 := Tryz.zeroValue107
  t41 := Tryz.underlying112
  a41 := Tryz.isAgg112
  z41 := Tryz.sizeOf112
  v41 := Tryz.zeroValue112
  t44 := Tryz.underlying115
  a44 := Tryz.isAgg115
  z44 := Tryz.sizeOf115
  v44 := Tryz.zeroValue115
  t46 := Tryz.underlying117
  a46 := Tryz.isAgg117
  z46 := Tryz.sizeOf117
  v46 := Tryz.zeroValue117
  t53 := Tryz.underlying121
  a53 := Tryz.isAgg121
  z53 := Tryz.sizeOf121
  v53 := Tryz.zeroValue121
  t57 := Tryz.underlying125
  a57 := Tryz.isAgg125
  z57 := Tryz.sizeOf125
  v57 := Tryz.zeroValue125
  t63 := Tryz.underlying133
  a63 := Tryz.isAgg133
  z63 := Tryz.sizeOf133
  v63 := Tryz.zeroValue133
  t64 := Tryz.underlying134
  a64 := Tryz.isAgg134
  z64 := Tryz.sizeOf134
  v64 := Tryz.zeroValue134

theorem slices_SortS_ok {s_0 r : List ByteArray} (hm : sortedSM s_0 = some r) {h_0 : Value × List Nat} :
    FnOk prog 60 [pv h_0.1] [oa rS h_0.1 h_0.2 s_0] (fun _ : Unit => []) (fun _ : Unit => [oa rS h_0.1 h_0.2 r]) :=
  sort_fnS (fun w blk off cap zs h1 h2 h3 => AnyM.slices_Sort_string sortSA blk off cap zs w h1 h2 h3) (fun p cap w => AnyM.slices_Sort_string_none sortSA p cap w) hm

end Go.Dc
