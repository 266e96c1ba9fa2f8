/- Part LAW38S.Lay of a proof: lemmas. -/
import Derived.Test.YtcpkdjlfgfikcaaDoorLAW38STypes
import Derived.Test.YtcpkdjlfgfikcaaDoorDcSortS
import Derived.Test.YtcpkdjlfgfikcaaDoorProg
set_option linter.unusedVariables false
set_option maxRecDepth 100000
set_option maxHeartbeats 4000000
namespace Go.Dc
open Go.Proofs Go.RowKit Go.Shelf
open Go.Proofs.Tryd (prog)

def sortSA_ren : Ren := ⟨fun | 6 => 37 | 8 => 64 | 9 => 63 | 19 => 80 | 20 => 81 | 21 => 71 | 22 => 72 | 23 => 73 | 24 => 74 | 25 => 75 | 26 => 76 | 27 => 77 | 28 => 78 | 29 => 79 | 36 => 86 | 31 => 87 | 32 => 88 | 37 => 89 | 38 => 90 | 39 => 91 | 41 => 96 | n => n, fun | 27 => 25 | 29 => 9 | 3 => 3 | 32 => 62 | 26 => 25 | 0 => 0 | 44 => 105 | 46 => 107 | 4 => 4 | 36 => 97 | 35 => 96 | 41 => 102 | 5 => 5 | 9 => 9 | 53 => 114 | 57 => 118 | 63 => 126 | 64 => 127 | n => n, fun n => n⟩
theorem sortSA : SlLaysM.n6 prog sortSA_ren where
  mixed := by kernel_rfl
  f6 := ⟨ "slices.Sort[[]string,string]", by decide, Tryd.func37.trans (congrArg some (by kernel_rfl))⟩
  f8 := Tryd.func64.trans (congrArg some (by kernel_rfl))
  f9 := ⟨ "slices.pdqsortOrdered[string]", by decide, Tryd.func63.trans (congrArg some (by kernel_rfl))⟩
  f19 := Tryd.func80.trans (congrArg some (by kernel_rfl))
  f20 := Tryd.func81.trans (congrArg some (by kernel_rfl))
  f21 := ⟨ "slices.insertionSortOrdered[string]", by decide, Tryd.func71.trans (congrArg some (by kernel_rfl))⟩
  f22 := ⟨ "slices.heapSortOrdered[string]", by decide, Tryd.func72.trans (congrArg some (by kernel_rfl))⟩
  f23 := ⟨ "slices.breakPatternsOrdered[string]", by decide, Tryd.func73.trans (congrArg some (by kernel_rfl))⟩
  f24 := ⟨ "slices.choosePivotOrdered[string]", by decide, Tryd.func74.trans (congrArg some (by kernel_rfl))⟩
  f25 := ⟨ "slices.reverseRangeOrdered[string]", by decide, Tryd.func75.trans (congrArg some (by kernel_rfl))⟩
  f26 := ⟨ "slices.partialInsertionSortOrdered[string]", by decide, Tryd.func76.trans (congrArg some (by kernel_rfl))⟩
  f27 := ⟨ "cmp.Less[string]", by decide, Tryd.func77.trans (congrArg some (by kernel_rfl))⟩
  f28 := ⟨ "slices.partitionEqualOrdered[string]", by decide, Tryd.func78.trans (congrArg some (by kernel_rfl))⟩
  f29 := ⟨ "slices.partitionOrdered[string]", by decide, Tryd.func79.trans (congrArg some (by kernel_rfl))⟩
  f31 := Tryd.func87.trans (congrArg some (by kernel_rfl))
  f32 := Tryd.func88.trans (congrArg some (by kernel_rfl))
  f36 := ⟨ "slices.siftDownOrdered[string]", by decide, Tryd.func86.trans (congrArg some (by kernel_rfl))⟩
  f37 := ⟨ "slices.medianAdjacentOrdered[string]", by decide, Tryd.func89.trans (congrArg some (by kernel_rfl))⟩
  f38 := ⟨ "slices.medianOrdered[string]", by decide, Tryd.func90.trans (congrArg some (by kernel_rfl))⟩
  f39 := ⟨ "cmp.isNaN[string]", by decide, Tryd.func91.trans (congrArg some (by kernel_rfl))⟩
  f41 := ⟨ "slices.order2Ordered[string]", by decide, Tryd.func96.trans (congrArg some (by kernel_rfl))⟩
  t0 := Tryd.underlying0
  a0 := Tryd.isAgg0
  z0 := Tryd.sizeOf0
  v0 := Tryd.zeroValue0
  t3 := Tryd.underlying3
  a3 := Tryd.isAgg3
  z3 := Tryd.sizeOf3
  v3 := Tryd.zeroValue3
  t4 := Tryd.underlying4
  a4 := Tryd.isAgg4
  z4 := Tryd.sizeOf4
  v4 := Tryd.zeroValue4
  t5 := Tryd.underlying5
  a5 := Tryd.isAgg5
  z5 := Tryd.sizeOf5
  v5 := Tryd.zeroValue5
  t9 := Tryd.underlying9
  a9 := Tryd.isAgg9
  z9 := Tryd.sizeOf9
  v9 := Tryd.zeroValue9
  t26 := Tryd.underlying25
  a26 := Tryd.isAgg25
  z26 := Tryd.sizeOf25
  v26 := Tryd.zeroValue25
  t27 := Tryd.underlying25
  a27 := Tryd.isAgg25
  z27 := Tryd.sizeOf25
  v27 := Tryd.zeroValue25
  t29 := Tryd.underlying9
  a29 := Tryd.isAgg9
  z29 := Tryd.sizeOf9
  v29 := Tryd.zeroValue9
  t32 := Tryd.underlying62
  a32 := Tryd.isAgg62
  z32 := Tryd.sizeOf62
  v32 := Tryd.zeroValue62
  t35 := Tryd.underlying96
  a35 := Tryd.isAgg96
  z35 := Tryd.sizeOf96
  v35 := Tryd.zeroValue96
  t36 := Tryd.underlying97
  a36 := Tryd.isAgg97
  z36 := Tryd.sizeOf97
  v36 := Tryd.zeroValue97
  t41 := Tryd.underlying102
  a41 := Tryd.isAgg102
  z41 := Tryd.sizeOf102
  v41 := Tryd.zeroValue102
  t44 := Tryd.underlying105
  a44 := Tryd.isAgg105
  z44 := Tryd.sizeOf105
  v44 := Tryd.zeroValue105
  t46 := Tryd.underlying107
  a46 := Tryd.isAgg107
  z46 := Tryd.sizeOf107
  v46 := Tryd.zeroValue107
  t53 := Tryd.underlying114
  a53 := Tryd.isAgg114
  z53 := Tryd.sizeOf114
  v53 := Tryd.zeroValue114
  t57 := Tryd.underlying118
  a57 := Tryd.isAgg118
  z57 := Tryd.sizeOf118
  v57 := Tryd.zeroValue118
  t63 := Tryd.underlying126
  a63 := Tryd.isAgg126
  z63 := Tryd.sizeOf126
  v63 := Tryd.zeroValue126
  t64 := Tryd.underlying127
  a64 := Tryd.isAgg127
  z64 := Tryd.sizeOf127
  v64 := Tryd.zeroValue127

theorem slices_SortS_ok {s_0 r : List ByteArray} (hm : sortedSM s_0 = some r) {h_0 : Value × List Nat} :
    FnOk prog 37 [pv h_0.1] [oa rS h_0.1 h_0.2 s_0] (fun _ : Unit => []) (fun _ : Unit => [oa rS h_0.1 h_0.2 r]) :=
  sort_fnS (fun w blk off cap zs h1 h2 h3 => AnyM.slices_Sort_string sortSA blk off cap zs w h1 h2 h3) (fun p cap w => AnyM.slices_Sort_string_none sortSA p cap w) hm

end Go.Dc
