/- Part LAW26Z.Lay of a proof: lemmas. -/
import Derived.Shelf.SlSortCmp.NoneTotal
import Derived.Test.YtmejeobfjojfeaaGreatProg
set_option linter.unusedVariables false
set_option maxRecDepth 100000
set_option maxHeartbeats 4000000
namespace Go.Dc
open Go.Proofs Go.RowKit Go.Shelf
open Go.Proofs.Tryz (prog)

def sortFP_ren : Ren := ⟨fun | 6 => 71 | 15 => 100 | 14 => 99 | 28 => 115 | 29 => 116 | 20 => 107 | 21 => 108 | 22 => 109 | 23 => 110 | 24 => 111 | 25 => 112 | 26 => 113 | 27 => 114 | 46 => 120 | 47 => 121 | 48 => 122 | 49 => 123 | 50 => 124 | 57 => 126 | n => n, fun | 22 => 37 | 24 => 27 | 25 => 43 | 3 => 3 | 39 => 101 | 0 => 0 | 53 => 119 | 55 => 121 | 4 => 4 | 46 => 113 | 45 => 112 | 50 => 61 | 5 => 5 | 9 => 9 | 66 => 125 | 70 => 129 | 76 => 131 | 77 => 132 | n => n, fun n => n⟩
theorem sortFP : SlLaysF0.n6 prog sortFP_ren where
 mixed := by kernel_rfl
 f6 := ⟨ "slices.SortFunc[[]deliberation/api.Literal,deliberation/api.Literal]", by decide, Tryz.func71.trans (congrArg some (by kernel_rfl))⟩
 f14 := ⟨ "slices.pdqsortCmpFunc[deliberation/api.Literal]", by decide, Tryz.func99.trans (congrArg some (by kernel_rfl))⟩
 f15 := Tryz.func100.trans (congrArg some (by kernel_rfl))
 f20 := ⟨ "slices.insertionSortCmpFunc[deliberation/api.Literal]", by decide, Tryz.func107.trans (congrArg some (by kernel_rfl))⟩
 f21 := ⟨ "slices.heapSortCmpFunc[deliberation/api.Literal]", by decide, Tryz.func108.trans (congrArg some (by kernel_rfl))⟩
 f22 := ⟨ "slices.breakPatternsCmpFunc[deliberation/api.Literal]", by decide, Tryz.func109.trans (congrArg some (by kernel_rfl))⟩
 f23 := ⟨ "slices.choosePivotCmpFunc[deliberation/api.Literal]", by decide, Tryz.func110.trans (congrArg some (by kernel_rfl))⟩
 f24 := ⟨ "slices.reverseRangeCmpFunc[deliberation/api.Literal]", by decide, Tryz.func111.trans (congrArg some (by kernel_rfl))⟩
 f25 := ⟨ "slices.partialInsertionSortCmpFunc[deliberation/api.Literal]", by decide, Tryz.func112.trans (congrArg some (by kernel_rfl))⟩
 f26 := ⟨ "slices.partitionEqualCmpFunc[deliberation/api.Literal]", by decide, Tryz.func113.trans (congrArg some (by kernel_rfl))⟩
 f27 := ⟨ "slices.partitionCmpFunc[deliberation/api.Literal]", by decide, Tryz.func114.trans (congrArg some (by kernel_rfl))⟩
 f28 := Tryz.func115.trans (congrArg some (by kernel_rfl))
 f29 := Tryz.func116.trans (congrArg some (by kernel_rfl))
 f46 := ⟨ "slices.siftDownCmpFunc[deliberation/api.Literal]", by decide, Tryz.func120.trans (congrArg some (by kernel_rfl))⟩
 f47 := Tryz.func121.trans (congrArg some (by kernel_rfl))
 f48 := Tryz.func122.trans (congrArg some (by kernel_rfl))
 f49 := ⟨ "slices.medianAdjacentCmpFunc[deliberation/api.Literal]", by decide, Tryz.func123.trans (congrArg some (by kernel_rfl))⟩
 f50 := ⟨ "slices.medianCmpFunc[deliberation/api.Literal]", by decide, Tryz.func124.trans (congrArg some (by kernel_rfl))⟩
 f57 := ⟨ "slices.order2CmpFunc[deliberation/api.Literal]", by decide, Tryz.func126.trans (congrArg some (by kernel_rfl))⟩
 t0 := Tryz.underlying0
 a0 := Tryz.isAgg0
 z0 := Tryz.sizeOf0
 v0 := Tryz.zeroValue0
 t3 := Tryz.underlying3
 a3 := Tryz.isAgg3
 z3 := Tryz.sizeOf3
 v3 := Tryz.zeroValue3
 t4 := Tryz.underlying4
 a4 := Tryz.isAgg4
 z4 := Tryz.sizeOf4
 v4 := Tryz.zeroValue4
 t5 := Tryz.underlying5
 a5 := Tryz.isAgg5
 z5 := Tryz.sizeOf5
 v5 := Tryz.zeroValue5
 t9 := Tryz.underlying9
 a9 := Tryz.isAgg9
 z9 := Tryz.sizeOf9
 v9 := Tryz.zeroValue9
 t22 := Tryz.underlying37
 a22 := Tryz.isAgg37
 z22 := Tryz.sizeOf37
 v22 := Tryz.zeroValue37
 t25 := Tryz.underlying43
 a25 := Tryz.isAgg43
 z25 := Tryz.sizeOf43
 v25 := Tryz.zeroValue43
 t39 := Tryz.underlying101
 a39 := Tryz.isAgg101
 z39 := Tryz.sizeOf101
 v39 := Tryz.zeroValue101
 t45 := Tryz.underlying112
 a45 := Tryz.isAgg112
 z45 := Tryz.sizeOf112
 v45 := Tryz.zeroValue112
 t46 := Tryz.underlying113
 a46 := Tryz.isAgg113
 z46 := Tryz.sizeOf113
 v46 := Tryz.zeroValue113
 t50 := Tryz.underlying61
 a50 := Tryz.isAgg61
 z50 := Tryz.sizeOf61
 v50 := Tryz.zeroValue61
 t53 := Tryz.underlying119
 a53 := Tryz.isAgg119
 z53 := Tryz.sizeOf119
 v53 := Tryz.zeroValue119
 t55 := Tryz.underlying121
 a55 := Tryz.isAgg121
 z55 := Tryz.sizeOf121
 v55 := Tryz.zeroValue121
 t66 := Tryz.underlying125
 a66 := Tryz.isAgg125
 z66 := Tryz.sizeOf125
 v66 := Tryz.zeroValue125
 t70 := Tryz.underlying129
 a70 := Tryz.isAgg129
 z70 := Tryz.sizeOf129
 v70 := Tryz.zeroValue129
 t76 := Tryz.underlying131
 a76 := Tryz.isAgg131
 z76 := Tryz.sizeOf131
 v76 := Tryz.zeroValue131
 t77 := Tryz.underlying132
 a77 := Tryz.isAgg132
 z77 := Tryz.sizeOf132
 v77 := Tryz.zeroValue132

end Go.Dc
