/- Part LAWTX.Lay of a proof: lemmas. -/
import Derived.Test.YtdbmnmbeomlmiaaGreatDoorDcCpt
import Derived.Shelf.SlSortCmp.NoneTotal
import Derived.Shelf.Spec.TrailingZeros
import Derived.Shelf.Strconv.Itoa3
import Derived.Shelf.Strings.BuilderK
import Derived.Test.YtdbmnmbeomlmiaaGreatDoorProg
set_option linter.unusedVariables false
set_option maxRecDepth 100000
set_option maxHeartbeats 4000000
namespace Go.Dc
open Go.Proofs Go.RowKit Go.Shelf
open Go.Proofs.Tryz (prog)

def bs169_ren : Ren := ⟨fun | 169 => 139 | n => n, fun | 70 => 170 | 9 => 9 | 0 => 0 | 72 => 173 | 37 => 171 | 127 => 186 | 3 => 3 | 5 => 5 | n => n, fun n => n⟩
theorem bs169 : Lays.n169 prog bs169_ren where
 mixed := by kernel_rfl
 f169 := Tryz.func139.trans (congrArg some (by kernel_rfl))
 t0 := Tryz.underlying0
 a0 := Tryz.isAgg0
 z0 := Tryz.sizeOf0
 v0 := Tryz.zeroValue0
 t3 := Tryz.underlying3
 a3 := Tryz.isAgg3
 z3 := Tryz.sizeOf3
 v3 := Tryz.zeroValue3
 t9 := Tryz.underlying9
 a9 := Tryz.isAgg9
 z9 := Tryz.sizeOf9
 v9 := Tryz.zeroValue9
 t37 := Tryz.underlying171
 a37 := Tryz.isAgg171
 z37 := Tryz.sizeOf171
 v37 := Tryz.zeroValue171
 t70 := Tryz.underlying170
 a70 := Tryz.isAgg170
 z70 := Tryz.sizeOf170
 v70 := Tryz.zeroValue170
 t72 := Tryz.underlying173
 a72 := Tryz.isAgg173
 z72 := Tryz.sizeOf173
 v72 := Tryz.zeroValue173
 t127 := Tryz.underlying186
 a127 := Tryz.isAgg186
 z127 := Tryz.sizeOf186
 v127 := Tryz.zeroValue186

def it171_ren : Ren := ⟨fun | 171 => 137 | 243 => 146 | 246 => 164 | 283 => 171 | 284 => 172 | 285 => 173 | 286 => 174 | 129 => 106 | 317 => 177 | 318 => 178 | 319 => 179 | 320 => 180 | 337 => 181 | 338 => 49 | n => n, fun | 3 => 3 | 9 => 9 | 2 => 2 | 4 => 4 | 171 => 205 | 0 => 0 | 53 => 52 | 37 => 171 | 5 => 5 | 173 => 207 | 212 => 212 | 51 => 143 | 20 => 20 | 213 => 213 | 46 => 115 | 232 => 214 | 233 => 118 | n => n, fun | 17 => 1 | 18 => 2 | 19 => 0 | n => n⟩
theorem it171 : LaysM.n171 prog it171_ren where
 mixed := by kernel_rfl
 f129 := Tryz.func106.trans (congrArg some (by kernel_rfl))
 f171 := Tryz.func137.trans (congrArg some (by kernel_rfl))
 f243 := Tryz.func146.trans (congrArg some (by kernel_rfl))
 f246 := Tryz.func164.trans (congrArg some (by kernel_rfl))
 f283 := Tryz.func171.trans (congrArg some (by kernel_rfl))
 f284 := Tryz.func172.trans (congrArg some (by kernel_rfl))
 f285 := Tryz.func173.trans (congrArg some (by kernel_rfl))
 f286 := Tryz.func174.trans (congrArg some (by kernel_rfl))
 f317 := Tryz.func177.trans (congrArg some (by kernel_rfl))
 f318 := Tryz.func178.trans (congrArg some (by kernel_rfl))
 f319 := Tryz.func179.trans (congrArg some (by kernel_rfl))
 f320 := Tryz.func180.trans (congrArg some (by kernel_rfl))
 f337 := Tryz.func181.trans (congrArg some (by kernel_rfl))
 f338 := Tryz.func49.trans (congrArg some (by kernel_rfl))
 t0 := Tryz.underlying0
 a0 := Tryz.isAgg0
 z0 := Tryz.sizeOf0
 v0 := Tryz.zeroValue0
 t2 := Tryz.underlying2
 a2 := Tryz.isAgg2
 z2 := Tryz.sizeOf2
 v2 := Tryz.zeroValue2
 t3 := Tryz.underlying3
 a3 := Tryz.isAgg3
 z3 := Tryz.sizeOf3
 v3 := Tryz.zeroValue3
 t4 := Tryz.underlying4
 a4 := Tryz.isAgg4
 z4 := Tryz.sizeOf4
 v4 := Tryz.zeroValue4
 t5 := Tryz.underlying5
 a5 := Tryz.isAgg5
 z5 := Tryz.sizeOf5
 v5 := Tryz.zeroValue5
 t9 := Tryz.underlying9
 a9 := Tryz.isAgg9
 z9 := Tryz.sizeOf9
 v9 := Tryz.zeroValue9
 t20 := Tryz.underlying20
 a20 := Tryz.isAgg20
 z20 := Tryz.sizeOf20
 v20 := Tryz.zeroValue20
 t37 := Tryz.underlying171
 a37 := Tryz.isAgg171
 z37 := Tryz.sizeOf171
 v37 := Tryz.zeroValue171
 t46 := Tryz.underlying115
 a46 := Tryz.isAgg115
 z46 := Tryz.sizeOf115
 v46 := Tryz.zeroValue115
 t51 := Tryz.underlying143
 a51 := Tryz.isAgg143
 z51 := Tryz.sizeOf143
 v51 := Tryz.zeroValue143
 t53 := Tryz.underlying52
 a53 := Tryz.isAgg52
 z53 := Tryz.sizeOf52
 v53 := Tryz.zeroValue52
 t171 := Tryz.underlying205
 a171 := Tryz.isAgg205
 z171 := Tryz.sizeOf205
 v171 := Tryz.zeroValue205
 t173 := Tryz.underlying207
 a173 := Tryz.isAgg207
 z173 := Tryz.sizeOf207
 v173 := Tryz.zeroValue207
 t212 := Tryz.underlying212
 a212 := Tryz.isAgg212
 z212 := Tryz.sizeOf212
 v212 := Tryz.zeroValue212
 t213 := Tryz.underlying213
 a213 := Tryz.isAgg213
 z213 := Tryz.sizeOf213
 t232 := Tryz.underlying214
 a232 := Tryz.isAgg214
 z232 := Tryz.sizeOf214
 v232 := Tryz.zeroValue214
 t233 := Tryz.underlying118
 a233 := Tryz.isAgg118
 z233 := Tryz.sizeOf118
 v233 := Tryz.zeroValue118
 g17 := by kernel_rfl
 g18 := by kernel_rfl
 g19 := by kernel_rfl
 i0 := by kernel_rfl
 i2 := by kernel_rfl
 i3 := by kernel_rfl
 i4 := by kernel_rfl
 i5 := by kernel_rfl
 i9 := by kernel_rfl
 i20 := by kernel_rfl
 i37 := by kernel_rfl
 i46 := by kernel_rfl
 i51 := by kernel_rfl
 i53 := by kernel_rfl
 i171 := by kernel_rfl
 i173 := by kernel_rfl
 i212 := by kernel_rfl
 i232 := by kernel_rfl
 i233 := by kernel_rfl
 m17 := by kernel_rfl
 m18 := by kernel_rfl
 m19 := by kernel_rfl

def compA_ren : Ren := ⟨fun | 20 => 135 | n => n, fun | 22 => 22 | 3 => 3 | 4 => 4 | 0 => 0 | n => n, fun n => n⟩
theorem compA : Lays2.n20 prog compA_ren where
 mixed := by kernel_rfl
 f20 := Tryz.func135.trans (congrArg some (by kernel_rfl))
 t0 := Tryz.underlying0
 a0 := Tryz.isAgg0
 z0 := Tryz.sizeOf0
 v0 := Tryz.zeroValue0
 t3 := Tryz.underlying3
 a3 := Tryz.isAgg3
 z3 := Tryz.sizeOf3
 v3 := Tryz.zeroValue3
 t4 := Tryz.underlying4
 a4 := Tryz.isAgg4
 z4 := Tryz.sizeOf4
 v4 := Tryz.zeroValue4
 t22 := Tryz.underlying22
 a22 := Tryz.isAgg22
 z22 := Tryz.sizeOf22
 v22 := Tryz.zeroValue22
 i3 := by kernel_rfl

def sortFA_ren : Ren := ⟨fun | 6 => 133 | 15 => 77 | 14 => 144 | 28 => 105 | 29 => 106 | 20 => 155 | 21 => 156 | 22 => 157 | 23 => 158 | 24 => 159 | 25 => 160 | 26 => 161 | 27 => 162 | 46 => 168 | 47 => 127 | 48 => 128 | 49 => 169 | 50 => 170 | 57 => 176 | n => n, fun | 22 => 22 | 24 => 3 | 25 => 48 | 3 => 3 | 39 => 115 | 0 => 0 | 53 => 143 | 55 => 52 | 4 => 4 | 46 => 136 | 45 => 135 | 50 => 140 | 5 => 5 | 9 => 9 | 66 => 159 | 70 => 163 | 76 => 183 | 77 => 125 | n => n, fun n => n⟩
theorem sortFA : SlLaysF.n6 prog sortFA_ren where
 mixed := by kernel_rfl
 f6 := ⟨ "slices.SortFunc[[]int,int]", by decide, Tryz.func133.trans (congrArg some (by kernel_rfl))⟩
 f14 := ⟨ "slices.pdqsortCmpFunc[int]", by decide, Tryz.func144.trans (congrArg some (by kernel_rfl))⟩
 f15 := Tryz.func77.trans (congrArg some (by kernel_rfl))
 f20 := ⟨ "slices.insertionSortCmpFunc[int]", by decide, Tryz.func155.trans (congrArg some (by kernel_rfl))⟩
 f21 := ⟨ "slices.heapSortCmpFunc[int]", by decide, Tryz.func156.trans (congrArg some (by kernel_rfl))⟩
 f22 := ⟨ "slices.breakPatternsCmpFunc[int]", by decide, Tryz.func157.trans (congrArg some (by kernel_rfl))⟩
 f23 := ⟨ "slices.choosePivotCmpFunc[int]", by decide, Tryz.func158.trans (congrArg some (by kernel_rfl))⟩
 f24 := ⟨ "slices.reverseRangeCmpFunc[int]", by decide, Tryz.func159.trans (congrArg some (by kernel_rfl))⟩
 f25 := ⟨ "slices.partialInsertionSortCmpFunc[int]", by decide, Tryz.func160.trans (congrArg some (by kernel_rfl))⟩
 f26 := ⟨ "slices.partitionEqualCmpFunc[int]", by decide, Tryz.func161.trans (congrArg some (by kernel_rfl))⟩
 f27 := ⟨ "slices.partitionCmpFunc[int]", by decide, Tryz.func162.trans (congrArg some (by kernel_rfl))⟩
 f28 := Tryz.func105.trans (congrArg some (by kernel_rfl))
 f29 := Tryz.func106.trans (congrArg some (by kernel_rfl))
 f46 := ⟨ "slices.siftDownCmpFunc[int]", by decide, Tryz.func168.trans (congrArg some (by kernel_rfl))⟩
 f47 := Tryz.func127.trans (congrArg some (by kernel_rfl))
 f48 := Tryz.func128.trans (congrArg some (by kernel_rfl))
 f49 := ⟨ "slices.medianAdjacentCmpFunc[int]", by decide, Tryz.func169.trans (congrArg some (by kernel_rfl))⟩
 f50 := ⟨ "slices.medianCmpFunc[int]", by decide, Tryz.func170.trans (congrArg some (by kernel_rfl))⟩
 f57 := ⟨ "slices.order2CmpFunc[int]", by decide, Tryz.func176.trans (congrArg some (by kernel_rfl))⟩
 t0 := Tryz.underlying0
 a0 := Tryz.isAgg0
 z0 := Tryz.sizeOf0
 v0 := Tryz.zeroValue0
 t3 := Tryz.underlying3
 a3 := Tryz.isAgg3
 z3 := Tryz.sizeOf3
 v3 := Tryz.zeroValue3
 t4 := Tryz.underlying4
 a4 := Tryz.isAgg4
 z4 := Tryz.sizeOf4
 v4 := Tryz.zeroValue4
 t5 := Tryz.underlying5
 a5 := Tryz.isAgg5
 z5 := Tryz.sizeOf5
 v5 := Tryz.zeroValue5
 t9 := Tryz.underlying9
 a9 := Tryz.isAgg9
 z9 := Tryz.sizeOf9
 v9 := Tryz.zeroValue9
 t22 := Tryz.underlying22
 a22 := Tryz.isAgg22
 z22 := Tryz.sizeOf22
 v22 := Tryz.zeroValue22
 a24 := Tryz.isAgg3
 z24 := Tryz.sizeOf3
 t25 := Tryz.underlying48
 a25 := Tryz.isAgg48
 z25 := Tryz.sizeOf48
 v25 := Tryz.zeroValue48
 t39 := Tryz.underlying115
 a39 := Tryz.isAgg115
 z39 := Tryz.sizeOf115
 v39 := Tryz.zeroValue115
 t45 := Tryz.underlying135
 a45 := Tryz.isAgg135
 z45 := Tryz.sizeOf135
 v45 := Tryz.zeroValue135
 t46 := Tryz.underlying136
 a46 := Tryz.isAgg136
 z46 := Tryz.sizeOf136
 v46 := Tryz.zeroValue136
 t50 := Tryz.underlying140
 a50 := Tryz.isAgg140
 z50 := Tryz.sizeOf140
 v50 := Tryz.zeroValue140
 t53 := Tryz.underlying143
 a53 := Tryz.isAgg143
 z53 := Tryz.sizeOf143
 v53 := Tryz.zeroValue143
 t55 := Tryz.underlying52
 a55 := Tryz.isAgg52
 z55 := Tryz.sizeOf52
 v55 := Tryz.zeroValue52
 t66 := Tryz.underlying159
 a66 := Tryz.isAgg159
 z66 := Tryz.sizeOf159
 v66 := Tryz.zeroValue159
 t70 := Tryz.underlying163
 a70 := Tryz.isAgg163
 z70 := Tryz.sizeOf163
 v70 := Tryz.zeroValue163
 t76 := Tryz.underlying183
 a76 := Tryz.isAgg183
 z76 := Tryz.sizeOf183
 v76 := Tryz.zeroValue183
 t77 := Tryz.underlying125
 a77 := Tryz.isAgg125
 z77 := Tryz.sizeOf125
 v77 := Tryz.zeroValue125

def sortFP_ren : Ren := ⟨fun | 6 => 124 | 15 => 77 | 14 => 142 | 28 => 105 | 29 => 106 | 20 => 147 | 21 => 148 | 22 => 149 | 23 => 150 | 24 => 151 | 25 => 152 | 26 => 153 | 27 => 154 | 46 => 165 | 47 => 127 | 48 => 128 | 49 => 166 | 50 => 167 | 57 => 175 | n => n, fun | 22 => 25 | 24 => 47 | 25 => 82 | 3 => 3 | 39 => 115 | 0 => 0 | 53 => 143 | 55 => 52 | 4 => 4 | 46 => 136 | 45 => 135 | 50 => 140 | 5 => 5 | 9 => 9 | 66 => 159 | 70 => 163 | 76 => 183 | 77 => 125 | n => n, fun n => n⟩
theorem sortFP : SlLaysF0.n6 prog sortFP_ren where
 mixed := by kernel_rfl
 f6 := ⟨ "slices.SortFunc[[]deliberation/api.Pair,deliberation/api.Pair]", by decide, Tryz.func124.trans (congrArg some (by kernel_rfl))⟩
 f14 := ⟨ "slices.pdqsortCmpFunc[deliberation/api.Pair]", by decide, Tryz.func142.trans (congrArg some (by kernel_rfl))⟩
 f15 := Tryz.func77.trans (congrArg some (by kernel_rfl))
 f20 := ⟨ "slices.insertionSortCmpFunc[deliberation/api.Pair]", by decide, Tryz.func147.trans (congrArg some (by kernel_rfl))⟩
 f21 := ⟨ "slices.heapSortCmpFunc[deliberation/api.Pair]", by decide, Tryz.func148.trans (congrArg some (by kernel_rfl))⟩
 f22 := ⟨ "slices.breakPatternsCmpFunc[deliberation/api.Pair]", by decide, Tryz.func149.trans (congrArg some (by kernel_rfl))⟩
 f23 := ⟨ "slices.choosePivotCmpFunc[deliberation/api.Pair]", by decide, Tryz.func150.trans (congrArg some (by kernel_rfl))⟩
 f24 := ⟨ "slices.reverseRangeCmpFunc[deliberation/api.Pair]", by decide, Tryz.func151.trans (congrArg some (by kernel_rfl))⟩
 f25 := ⟨ "slices.partialInsertionSortCmpFunc[deliberation/api.Pair]", by decide, Tryz.func152.trans (congrArg some (by kernel_rfl))⟩
 f26 := ⟨ "slices.partitionEqualCmpFunc[deliberation/api.Pair]", by decide, Tryz.func153.trans (congrArg some (by kernel_rfl))⟩
 f27 := ⟨ "slices.partitionCmpFunc[deliberation/api.Pair]", by decide, Tryz.func154.trans (congrArg some (by kernel_rfl))⟩
 f28 := Tryz.func105.trans (congrArg some (by kernel_rfl))
 f29 := Tryz.func106.trans (congrArg some (by kernel_rfl))
 f46 := ⟨ "slices.siftDownCmpFunc[deliberation/api.Pair]", by decide, Tryz.func165.trans (congrArg some (by kernel_rfl))⟩
 f47 := Tryz.func127.trans (congrArg some (by kernel_rfl))
 f48 := Tryz.func128.trans (congrArg some (by kernel_rfl))
 f49 := ⟨ "slices.medianAdjacentCmpFunc[deliberation/api.Pair]", by decide, Tryz.func166.trans (congrArg some (by kernel_rfl))⟩
 f50 := ⟨ "slices.medianCmpFunc[deliberation/api.Pair]", by decide, Tryz.func167.trans (congrArg some (by kernel_rfl))⟩
 f57 := ⟨ "slices.order2CmpFunc[deliberation/api.Pair]", by decide, Tryz.func175.trans (congrArg some (by kernel_rfl))⟩
 t0 := Tryz.underlying0
 a0 := Tryz.isAgg0
 z0 := Tryz.sizeOf0
 v0 := Tryz.zeroValue0
 t3 := Tryz.underlying3
 a3 := Tryz.isAgg3
 z3 := Tryz.sizeOf3
 v3 := Tryz.zeroValue3
 t4 := Tryz.underlying4
 a4 := Tryz.isAgg4
 z4 := Tryz.sizeOf4
 v4 := Tryz.zeroValue4
 t5 := Tryz.underlying5
 a5 := Tryz.isAgg5
 z5 := Tryz.sizeOf5
 v5 := Tryz.zeroValue5
 t9 := Tryz.underlying9
 a9 := Tryz.isAgg9
 z9 := Tryz.sizeOf9
 v9 := Tryz.zeroValue9
 t22 := Tryz.underlying25
 a22 := Tryz.isAgg25
 z22 := Tryz.sizeOf25
 v22 := Tryz.zeroValue25
 t25 := Tryz.underlying82
 a25 := Tryz.isAgg82
 z25 := Tryz.sizeOf82
 v25 := Tryz.zeroValue82
 t39 := Tryz.underlying115
 a39 := Tryz.isAgg115
 z39 := Tryz.sizeOf115
 v39 := Tryz.zeroValue115
 t45 := Tryz.underlying135
 a45 := Tryz.isAgg135
 z45 := Tryz.sizeOf135
 v45 := Tryz.zeroValue135
 t46 := Tryz.underlying136
 a46 := Tryz.isAgg136
 z46 := Tryz.sizeOf136
 v46 := Tryz.zeroValue136
 t50 := Tryz.underlying140
 a50 := Tryz.isAgg140
 z50 := Tryz.sizeOf140
 v50 := Tryz.zeroValue140
 t53 := Tryz.underlying143
 a53 := Tryz.isAgg143
 z53 := Tryz.sizeOf143
 v53 := Tryz.zeroValue143
 t55 := Tryz.underlying52
 a55 := Tryz.isAgg52
 z55 := Tryz.sizeOf52
 v55 := Tryz.zeroValue52
 t66 := Tryz.underlying159
 a66 := Tryz.isAgg159
 z66 := Tryz.sizeOf159
 v66 := Tryz.zeroValue159
 t70 := Tryz.underlying163
 a70 := Tryz.isAgg163
 z70 := Tryz.sizeOf163
 v70 := Tryz.zeroValue163
 t76 := Tryz.underlying183
 a76 := Tryz.isAgg183
 z76 := Tryz.sizeOf183
 v76 := Tryz.zeroValue183
 t77 := Tryz.underlying125
 a77 := Tryz.isAgg125
 z77 := Tryz.sizeOf125
 v77 := Tryz.zeroValue125

def sortFL_ren : Ren := ⟨fun | 6 => 52 | 15 => 77 | 14 => 76 | 28 => 105 | 29 => 106 | 20 => 97 | 21 => 98 | 22 => 99 | 23 => 100 | 24 => 101 | 25 => 102 | 26 => 103 | 27 => 104 | 46 => 126 | 47 => 127 | 48 => 128 | 49 => 129 | 50 => 130 | 57 => 143 | n => n, fun | 22 => 30 | 24 => 22 | 25 => 92 | 3 => 3 | 39 => 115 | 0 => 0 | 53 => 143 | 55 => 52 | 4 => 4 | 46 => 136 | 45 => 135 | 50 => 140 | 5 => 5 | 9 => 9 | 66 => 159 | 70 => 163 | 76 => 183 | 77 => 125 | n => n, fun n => n⟩
theorem sortFL : SlLaysF.n6 prog sortFL_ren where
 mixed := by kernel_rfl
 f6 := ⟨ "slices.SortFunc[[][]int,[]int]", by decide, Tryz.func52.trans (congrArg some (by kernel_rfl))⟩
 f14 := ⟨ "slices.pdqsortCmpFunc[[]int]", by decide, Tryz.func76.trans (congrArg some (by kernel_rfl))⟩
 f15 := Tryz.func77.trans (congrArg some (by kernel_rfl))
 f20 := ⟨ "slices.insertionSortCmpFunc[[]int]", by decide, Tryz.func97.trans (congrArg some (by kernel_rfl))⟩
 f21 := ⟨ "slices.heapSortCmpFunc[[]int]", by decide, Tryz.func98.trans (congrArg some (by kernel_rfl))⟩
 f22 := ⟨ "slices.breakPatternsCmpFunc[[]int]", by decide, Tryz.func99.trans (congrArg some (by kernel_rfl))⟩
 f23 := ⟨ "slices.choosePivotCmpFunc[[]int]", by decide, Tryz.func100.trans (congrArg some (by kernel_rfl))⟩
 f24 := ⟨ "slices.reverseRangeCmpFunc[[]int]", by decide, Tryz.func101.trans (congrArg some (by kernel_rfl))⟩
 f25 := ⟨ "slices.partialInsertionSortCmpFunc[[]int]", by decide, Tryz.func102.trans (congrArg some (by kernel_rfl))⟩
 f26 := ⟨ "slices.partitionEqualCmpFunc[[]int]", by decide, Tryz.func103.trans (congrArg some (by kernel_rfl))⟩
 f27 := ⟨ "slices.partitionCmpFunc[[]int]", by decide, Tryz.func104.trans (congrArg some (by kernel_rfl))⟩
 f28 := Tryz.func105.trans (congrArg some (by kernel_rfl))
 f29 := Tryz.func106.trans (congrArg some (by kernel_rfl))
 f46 := ⟨ "slices.siftDownCmpFunc[[]int]", by decide, Tryz.func126.trans (congrArg some (by kernel_rfl))⟩
 f47 := Tryz.func127.trans (congrArg some (by kernel_rfl))
 f48 := Tryz.func128.trans (congrArg some (by kernel_rfl))
 f49 := ⟨ "slices.medianAdjacentCmpFunc[[]int]", by decide, Tryz.func129.trans (congrArg some (by kernel_rfl))⟩
 f50 := ⟨ "slices.medianCmpFunc[[]int]", by decide, Tryz.func130.trans (congrArg some (by kernel_rfl))⟩
 f57 := ⟨ "slices.order2CmpFunc[[]int]", by decide, Tryz.func143.trans (congrArg some (by kernel_rfl))⟩
 t0 := Tryz.underlying0
 a0 := Tryz.isAgg0
 z0 := Tryz.sizeOf0
 v0 := Tryz.zeroValue0
 t3 := Tryz.underlying3
 a3 := Tryz.isAgg3
 z3 := Tryz.sizeOf3
 v3 := Tryz.zeroValue3
 t4 := Tryz.underlying4
 a4 := Tryz.isAgg4
 z4 := Tryz.sizeOf4
 v4 := Tryz.zeroValue4
 t5 := Tryz.underlying5
 a5 := Tryz.isAgg5
 z5 := Tryz.sizeOf5
 v5 := Tryz.zeroValue5
 t9 := Tryz.underlying9
 a9 := Tryz.isAgg9
 z9 := Tryz.sizeOf9
 v9 := Tryz.zeroValue9
 t22 := Tryz.underlying30
 a22 := Tryz.isAgg30
 z22 := Tryz.sizeOf30
 v22 := Tryz.zeroValue30
 a24 := Tryz.isAgg22
 z24 := Tryz.sizeOf22
 t25 := Tryz.underlying92
 a25 := Tryz.isAgg92
 z25 := Tryz.sizeOf92
 v25 := Tryz.zeroValue92
 t39 := Tryz.underlying115
 a39 := Tryz.isAgg115
 z39 := Tryz.sizeOf115
 v39 := Tryz.zeroValue115
 t45 := Tryz.underlying135
 a45 := Tryz.isAgg135
 z45 := Tryz.sizeOf135
 v45 := Tryz.zeroValue135
 t46 := Tryz.underlying136
 a46 := Tryz.isAgg136
 z46 := Tryz.sizeOf136
 v46 := Tryz.zeroValue136
 t50 := Tryz.underlying140
 a50 := Tryz.isAgg140
 z50 := Tryz.sizeOf140
 v50 := Tryz.zeroValue140
 t53 := Tryz.underlying143
 a53 := Tryz.isAgg143
 z53 := Tryz.sizeOf143
 v53 := Tryz.zeroValue143
 t55 := Tryz.underlying52
 a55 := Tryz.isAgg52
 z55 := Tryz.sizeOf52
 v55 := Tryz.zeroValue52
 t66 := Tryz.underlying159
 a66 := Tryz.isAgg159
 z66 := Tryz.sizeOf159
 v66 := Tryz.zeroValue159
 t70 := Tryz.underlying163
 a70 := Tryz.isAgg163
 z70 := Tryz.sizeOf163
 v70 := Tryz.zeroValue163
 t76 := Tryz.underlying183
 a76 := Tryz.isAgg183
 z76 := Tryz.sizeOf183
 v76 := Tryz.zeroValue183
 t77 := Tryz.underlying125
 a77 := Tryz.isAgg125
 z77 := Tryz.sizeOf125
 v77 := Tryz.zeroValue125

def tz29_ren : Ren := ⟨fun | 29 => 49 | n => n, fun | 22 => 52 | 3 => 3 | 4 => 4 | 25 => 115 | 54 => 118 | 0 => 0 | 5 => 5 | n => n, fun | 1 => 0 | n => n⟩
theorem tz29 : Lays7.n29 prog tz29_ren where
 mixed := by kernel_rfl
 f29 := Tryz.func49.trans (congrArg some (by kernel_rfl))
 t0 := Tryz.underlying0
 a0 := Tryz.isAgg0
 z0 := Tryz.sizeOf0
 v0 := Tryz.zeroValue0
 i0 := by kernel_rfl
 t3 := Tryz.underlying3
 a3 := Tryz.isAgg3
 z3 := Tryz.sizeOf3
 v3 := Tryz.zeroValue3
 i3 := by kernel_rfl
 t4 := Tryz.underlying4
 a4 := Tryz.isAgg4
 z4 := Tryz.sizeOf4
 v4 := Tryz.zeroValue4
 i4 := by kernel_rfl
 t5 := Tryz.underlying5
 a5 := Tryz.isAgg5
 z5 := Tryz.sizeOf5
 v5 := Tryz.zeroValue5
 i5 := by kernel_rfl
 t22 := Tryz.underlying52
 a22 := Tryz.isAgg52
 z22 := Tryz.sizeOf52
 v22 := Tryz.zeroValue52
 i22 := by kernel_rfl
 t25 := Tryz.underlying115
 a25 := Tryz.isAgg115
 z25 := Tryz.sizeOf115
 v25 := Tryz.zeroValue115
 i25 := by kernel_rfl
 t54 := Tryz.underlying118
 a54 := Tryz.isAgg118
 z54 := Tryz.sizeOf118
 g1 := by kernel_rfl

theorem extB : Builder.Extra prog bs169_ren where
 sizeBuilder := by kernel_rfl
 liesBuilder := by kernel_rfl
 t5 := Tryz.underlying5
 a5 := Tryz.isAgg5
 z5 := Tryz.sizeOf5
 v5 := Tryz.zeroValue5
 infoByte := by kernel_rfl
 cellsByte := by kernel_rfl
 sizeByte := by kernel_rfl
 neB5 := by decide

set_option maxHeartbeats 1000000 in
set_option maxRecDepth 100000 in
theorem copyCheck_used (b : Nat) (w : World) (h0 : w.cell? ⟨b, 0, none⟩ = some (.pointer (some ⟨b, 0, none⟩))) :
  Calls prog 145 #[.pointer (some ⟨b, 0, none⟩)] w fun e w' => e = .returned (.tuple #[]) ∧ w' = w := by
 obtain ⟨j, hj, _⟩ := Option.map_eq_some_iff.1 extB.sizeBuilder
 go_enter Tryz.func145, Tryz.ntmps145
 go_wp2
 rw [Lib.run_neq_ptr_same w _ Tryz.underlying170 hj]
 go_wp2
 go_end0
 exact ⟨rfl, rfl⟩

set_option maxHeartbeats 1000000 in
set_option maxRecDepth 100000 in
theorem copyCheck_fresh (b : Nat) (w : World) (h0 : w.cell? ⟨b, 0, none⟩ = some (.pointer none)) (hsh : w.shape? b = some (173, 2)) (hfz : w.frozen? ⟨b, 0, none⟩ = false) :
  Calls prog 145 #[.pointer (some ⟨b, 0, none⟩)] w fun e w' => e = .returned (.tuple #[]) ∧ w' = w.setCell ⟨b, 0, none⟩ (.pointer (some ⟨b, 0, none⟩)) := by
 obtain ⟨j, hj, hjs⟩ := Option.map_eq_some_iff.1 extB.sizeBuilder
 go_enter Tryz.func145, Tryz.ntmps145
 go_wp2
 rw [Lib.run_to_unsafe w ⟨b, 0, none⟩ Tryz.underlying170 Tryz.underlying198 hj (by rw [hjs]; decide) hsh (Nat.zero_lt_succ 1)]
 simp only [Result.andThen]
 rw [Oper.upon_value]
 go_wp2
 rw [run_callFunc_extern Tryz.func163 (by kernel_rfl) (by kernel_rfl) (by kernel_rfl) (e := Extern.AbiNoEscape.same) (by kernel_rfl)]
 rw [Lib.run_noEscape]
 simp only [Result.andThen]
 rw [Oper.upon_value]
 go_wp2
 rw [Lib.run_from_unsafe w ⟨b, 0, none⟩ Tryz.underlying198 Tryz.underlying170 hj hsh extB.liesBuilder]
 simp only [Result.andThen]
 rw [Oper.upon_value]
 go_wp2
 go_end0
 exact ⟨rfl, rfl⟩

theorem copyCheck_k (B b : Nat) (bs : List Value) (w : World) (h : Lib.IsBuilderF 173 5 B b bs w) :
  Calls prog 145 #[.pointer (some ⟨b, 0, none⟩)] w fun e w' => e = .returned (.tuple #[]) ∧ (Lib.BuilderAtF 173 5 B b (.pointer (some ⟨b, 0, none⟩)) bs w' ∧ Below B w w') := by
 rcases h with h | h
 ·refine (copyCheck_fresh b w h.cell0 h.shape h.frozen0).mono ?_
  rintro e w' ⟨rfl, rfl⟩
  exact ⟨rfl, h.used _, (Below.refl B w).setCell (p := ⟨b, 0, none⟩) h.1 _⟩
 ·refine (copyCheck_used b w h.cell0).mono ?_
  rintro e w' ⟨rfl, rfl⟩
  exact ⟨rfl, h, Below.refl B _⟩

set_option maxHeartbeats 2000000 in
set_option maxRecDepth 100000 in
theorem bldB (B b : Nat) (bs : List Value) (c : Int) (w : World) (h : Lib.IsBuilderF 173 5 B b bs w) (hlen : bs.length + 1 ≤ 140737488355328) (hBw : B ≤ w.heap.size) :
  Calls prog 138 #[.pointer (some ⟨b, 0, none⟩), .int .u8 c] w fun e w' => e = .returned .nilIface ∧ (Lib.BuilderAtF 173 5 B b (.pointer (some ⟨b, 0, none⟩)) (bs ++ [.int .u8 c]) w' ∧ Below B w w') := by
 obtain ⟨i0, hi, hz0, hz1, hz2⟩ := info_parts extB.infoByte
 go_enter Tryz.func138, Tryz.ntmps138
 go_wp2_with (go_at_call 145; refine (copyCheck_k B b bs _ h).mono ?_)
 rintro e w1 ⟨rfl, h1, hb1⟩
 obtain ⟨hB, v, hbk, hown, hne⟩ := h1
 have c0 : w1.cell? ⟨b, 0, none⟩ = some (.pointer (some ⟨b, 0, none⟩)) := by rw [Lib.cell_of_heap hbk]; rfl
 have c1 : w1.cell? ⟨b, 1, none⟩ = some v := by rw [Lib.cell_of_heap hbk]; rfl
 go_wp2_with (at_builtin; refine wpList_append_ownF _ rfl _ _ 171 rfl B 5 i0 (.int .u8 0) 1 1 Tryz.underlying171 hi hz0 hz1 hz2 rfl (by decide) _ _ _ rfl (hown.alloc _) ⟨w1.heap.size, 0, none⟩ 1 1 [.int .u8 c] rfl rfl ?c1 ?c2 ?c3 ?c4 ?c5 ?_)
 case c1 =>
  intro j u hj
  match j, hj with
  | 0, hj => simp at hj; subst hj; simp [Addr.add]
 case c2 => intro u hu; simp at hu; subst hu; rfl
 case c3 => unfold maxLen; omega
 case c4 => omega
 case c5 => have := hb1.size; simp; omega
 intro v' w2 hown' hgrow _
 have hlt : b < w1.heap.size := by
  rcases Nat.lt_or_ge b w1.heap.size with h' | h'
  ·exact h'
  ·simp [Array.getElem?_eq_none h'] at hbk
 have hb2 : w2.heap[b]? = some (.cells #[.pointer (some ⟨b, 0, none⟩), v] 173 (0, 0)) := by
  rw [hgrow.block b (by simp; omega) (fun e => hne e.symm), Lib.alloc_old w1 _ b hlt]
  exact hbk
 have d0 : w2.cell? ⟨b, 0, none⟩ = some (.pointer (some ⟨b, 0, none⟩)) := by rw [Lib.cell_of_heap hb2]; rfl
 have d1 : w2.cell? ⟨b, 1, none⟩ = some v := by rw [Lib.cell_of_heap hb2]; rfl
 have f1 : w2.frozen? ⟨b, 1, none⟩ = false := Lib.frozen_of_heap hb2 1
 obtain ⟨g, cap, rfl⟩ : ∃ g cap, v' = .slice (some ⟨g, 0, none⟩) (bs.length + 1) cap := by
  rcases hown'.2 with ⟨_, h0⟩ | ⟨g, cap, cur, fz, hv, _⟩
  ·omega
  ·exact ⟨g, cap, hv⟩
 go_wp2
 go_ret
 refine ⟨rfl, ?_, ?_⟩
 ·exact Lib.BuilderAtF.put (T := 173) (e := 5) hB hb2 (bs' := bs ++ [.int .u8 c]) (by simpa using hown') extB.neB5
 ·exact ((hb1.alloc (by have := hb1.size; omega) _).grown hgrow (by have := hb1.size; simp; omega) (fun k hk => (hown.lt k hk).1)).setCell (p := ⟨b, 1, none⟩) hB _

set_option maxHeartbeats 2000000 in
set_option maxRecDepth 100000 in
theorem bldS (B b : Nat) (bs : List Value) (s : ByteArray) (w : World) (h : Lib.IsBuilderF 173 5 B b bs w) (hlen : bs.length + s.size ≤ 140737488355328) (hBw : B ≤ w.heap.size) :
  Calls prog 136 #[.pointer (some ⟨b, 0, none⟩), .string s] w fun e w' => e = .returned (.tuple #[.int .i64 s.size, .nilIface]) ∧ (Lib.BuilderAtF 173 5 B b (.pointer (some ⟨b, 0, none⟩)) (bs ++ Lib.strCells s) w' ∧ Below B w w') := by
 obtain ⟨i0, hi, hz0, hz1, hz2⟩ := info_parts extB.infoByte
 go_enter Tryz.func136, Tryz.ntmps136
 go_wp2_with (go_at_call 145; refine (copyCheck_k B b bs _ h).mono ?_)
 rintro e w1 ⟨rfl, h1, hb1⟩
 obtain ⟨hB, v, hbk, hown, hne⟩ := h1
 have c0 : w1.cell? ⟨b, 0, none⟩ = some (.pointer (some ⟨b, 0, none⟩)) := by rw [Lib.cell_of_heap hbk]; rfl
 have c1 : w1.cell? ⟨b, 1, none⟩ = some v := by rw [Lib.cell_of_heap hbk]; rfl
 go_wp2_with (at_builtin; refine Lib.wpList_append_own_stringF _ rfl _ _ 171 9 rfl B 5 i0 Tryz.underlying171 Tryz.underlying9 hi hz0 hz1 hz2 _ _ _ rfl hown s rfl ?c3 ?c4 ?c5 ?_)
 case c3 => unfold maxLen; omega
 case c4 => omega
 case c5 => have := hb1.size; omega
 intro v' w2 hown' hgrow _
 have hlt : b < w1.heap.size := by
  rcases Nat.lt_or_ge b w1.heap.size with h' | h'
  ·exact h'
  ·simp [Array.getElem?_eq_none h'] at hbk
 have hb2 : w2.heap[b]? = some (.cells #[.pointer (some ⟨b, 0, none⟩), v] 173 (0, 0)) := by
  rw [hgrow.block b hlt (fun e => hne e.symm)]
  exact hbk
 have d0 : w2.cell? ⟨b, 0, none⟩ = some (.pointer (some ⟨b, 0, none⟩)) := by rw [Lib.cell_of_heap hb2]; rfl
 have d1 : w2.cell? ⟨b, 1, none⟩ = some v := by rw [Lib.cell_of_heap hb2]; rfl
 have f1 : w2.frozen? ⟨b, 1, none⟩ = false := Lib.frozen_of_heap hb2 1
 obtain ⟨ao, n', cap, rfl⟩ : ∃ ao n' cap, v' = .slice ao n' cap := by
  rcases hown'.2 with ⟨hv, _⟩ | ⟨g, cap, cur, fz, hv, _⟩
  ·exact ⟨_, _, _, hv⟩
  ·exact ⟨_, _, _, hv⟩
 go_wp2
 go_ret2
 refine ⟨rfl, ?_, ?_⟩
 ·exact Lib.BuilderAtF.put (T := 173) (e := 5) hB hb2 (bs' := bs ++ Lib.strCells s) (by simpa [Lib.strCells_length] using hown') extB.neB5
 ·exact (hb1.grown hgrow (by have := hb1.size; omega) (fun k hk => (hown.lt k hk).1)).setCell (p := ⟨b, 1, none⟩) hB _

theorem bldG (B b : Nat) (l : List UInt8) (w : World) (h : Lib.IsBuilderF 173 5 B b (Lib.byteCells l) w) (hBw : B ≤ w.heap.size) :
  Calls prog 139 #[.pointer (some ⟨b, 0, none⟩)] w fun e w' => e = .returned (.string ⟨l.toArray⟩) ∧ (Lib.IsBuilderF 173 5 B b (Lib.byteCells l) w' ∧ Below B w w' ∧ Lib.OthersKept 5 (some b) w w') := Any.Builder_String_any_k bs169 extB B b l w h hBw
theorem itoaC (n : Int) (h0 : -9223372036854775808 ≤ n) (h1 : n ≤ 9223372036854775807) (w : World) (htab : Lib.TabIs prog w "internal/strconv.uint64pow10" .u64 Lib.pow10Tab) :
  Calls prog 137 #[.int .i64 n] w fun e w' => e = .returned (.string ⟨(Lib.itoa n).toArray⟩) ∧ ∃ k os, w' = Sort.grow (w.drewN k) os := Any.strconv_Itoa it171 n h0 h1 w htab
theorem slices_Compact_ok [DrawMode] {s_0 r : List Int} (hm : compactM s_0 = some r) {h_0 : Value × List Nat} :
  FnOk prog 135 [pv h_0.1] [oa (rI .i64) h_0.1 h_0.2 s_0] (fun x : Value × List Nat => [pv x.1]) (fun x : Value × List Nat => [oa (rI .i64) x.1 x.2 r]) :=
 compact_fn (fun w blk off cap zs h1 h2 h3 => Any.slices_Compact_int compA blk off cap zs w h1 h2 h3) (fun a cap w => Any.slices_Compact_int_empty compA a cap w) compact_len hm
end Go.Dc
