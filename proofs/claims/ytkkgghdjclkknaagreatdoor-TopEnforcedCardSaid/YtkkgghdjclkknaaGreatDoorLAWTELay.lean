/- Part LAWTE.Lay of a proof: lemmas. -/
import Derived.Test.YtkkgghdjclkknaaGreatDoorDcCpt
import Derived.Shelf.SlSortCmp.NoneTotal
import Derived.Shelf.Spec.TrailingZeros
import Derived.Shelf.Strconv.Itoa3
import Derived.Shelf.Strings.BuilderK
import Derived.Test.YtkkgghdjclkknaaGreatDoorProg
set_option linter.unusedVariables false
set_option maxRecDepth 100000
set_option maxHeartbeats 4000000
namespace Go.Dc
open Go.Proofs Go.RowKit Go.Shelf
open Go.Proofs.Tryz (prog)
def Pa : Ren := ⟨fun | 169 => 200 | n => n, fun | 70 => 218 | 9 => 9 | 0 => 0 | 72 => 221 | 37 => 219 | 127 => 250 | 3 => 3 | 5 => 5 | n => n, fun n => n⟩
theorem bs169 : Lays.n169 prog Pa where
 mixed := by kernel_rfl
 f169 := Tryz.func200.trans (congrArg some (by kernel_rfl))
 t0 := Tryz.underlying0
 a0 := Tryz.isAgg0
 z0 := Tryz.sizeOf0
 v0 := Tryz.zeroValue0
 t3 := Tryz.underlying3
 a3 := Tryz.isAgg3
 z3 := Tryz.sizeOf3
 v3 := Tryz.zeroValue3
 t9 := Tryz.underlying9
 a9 := Tryz.isAgg9
 z9 := Tryz.sizeOf9
 v9 := Tryz.zeroValue9
 t37 := Tryz.underlying219
 a37 := Tryz.isAgg219
 z37 := Tryz.sizeOf219
 v37 := Tryz.zeroValue219
 t70 := Tryz.underlying218
 a70 := Tryz.isAgg218
 z70 := Tryz.sizeOf218
 v70 := Tryz.zeroValue218
 t72 := Tryz.underlying221
 a72 := Tryz.isAgg221
 z72 := Tryz.sizeOf221
 v72 := Tryz.zeroValue221
 t127 := Tryz.underlying250
 a127 := Tryz.isAgg250
 z127 := Tryz.sizeOf250
 v127 := Tryz.zeroValue250
def Xy : Ren := ⟨fun | 171 => 198 | 243 => 228 | 246 => 249 | 283 => 266 | 284 => 267 | 285 => 268 | 286 => 269 | 129 => 99 | 317 => 283 | 318 => 284 | 319 => 285 | 320 => 286 | 337 => 291 | 338 => 143 | n => n, fun | 3 => 3 | 9 => 9 | 2 => 2 | 4 => 4 | 171 => 276 | 0 => 0 | 53 => 83 | 37 => 219 | 5 => 5 | 173 => 278 | 212 => 289 | 51 => 139 | 20 => 20 | 213 => 290 | 46 => 91 | 232 => 295 | 233 => 209 | n => n, fun | 17 => 1 | 18 => 2 | 19 => 0 | n => n⟩
theorem it171 : LaysM.n171 prog Xy where
 mixed := by kernel_rfl
 f129 := Tryz.func99.trans (congrArg some (by kernel_rfl))
 f171 := Tryz.func198.trans (congrArg some (by kernel_rfl))
 f243 := Tryz.func228.trans (congrArg some (by kernel_rfl))
 f246 := Tryz.func249.trans (congrArg some (by kernel_rfl))
 f283 := Tryz.func266.trans (congrArg some (by kernel_rfl))
 f284 := Tryz.func267.trans (congrArg some (by kernel_rfl))
 f285 := Tryz.func268.trans (congrArg some (by kernel_rfl))
 f286 := Tryz.func269.trans (congrArg some (by kernel_rfl))
 f317 := Tryz.func283.trans (congrArg some (by kernel_rfl))
 f318 := Tryz.func284.trans (congrArg some (by kernel_rfl))
 f319 := Tryz.func285.trans (congrArg some (by kernel_rfl))
 f320 := Tryz.func286.trans (congrArg some (by kernel_rfl))
 f337 := Tryz.func291.trans (congrArg some (by kernel_rfl))
 f338 := Tryz.func143.trans (congrArg some (by kernel_rfl))
 t0 := Tryz.underlying0
 a0 := Tryz.isAgg0
 z0 := Tryz.sizeOf0
 v0 := Tryz.zeroValue0
 t2 := Tryz.underlying2
 a2 := Tryz.isAgg2
 z2 := Tryz.sizeOf2
 v2 := Tryz.zeroValue2
 t3 := Tryz.underlying3
 a3 := Tryz.isAgg3
 z3 := Tryz.sizeOf3
 v3 := Tryz.zeroValue3
 t4 := Tryz.underlying4
 a4 := Tryz.isAgg4
 z4 := Tryz.sizeOf4
 v4 := Tryz.zeroValue4
 t5 := Tryz.underlying5
 a5 := Tryz.isAgg5
 z5 := Tryz.sizeOf5
 v5 := Tryz.zeroValue5
 t9 := Tryz.underlying9
 a9 := Tryz.isAgg9
 z9 := Tryz.sizeOf9
 v9 := Tryz.zeroValue9
 t20 := Tryz.underlying20
 a20 := Tryz.isAgg20
 z20 := Tryz.sizeOf20
 v20 := Tryz.zeroValue20
 t37 := Tryz.underlying219
 a37 := Tryz.isAgg219
 z37 := Tryz.sizeOf219
 v37 := Tryz.zeroValue219
 t46 := Tryz.underlying91
 a46 := Tryz.isAgg91
 z46 := Tryz.sizeOf91
 v46 := Tryz.zeroValue91
 t51 := Tryz.underlying139
 a51 := Tryz.isAgg139
 z51 := Tryz.sizeOf139
 v51 := Tryz.zeroValue139
 t53 := Tryz.underlying83
 a53 := Tryz.isAgg83
 z53 := Tryz.sizeOf83
 v53 := Tryz.zeroValue83
 t171 := Tryz.underlying276
 a171 := Tryz.isAgg276
 z171 := Tryz.sizeOf276
 v171 := Tryz.zeroValue276
 t173 := Tryz.underlying278
 a173 := Tryz.isAgg278
 z173 := Tryz.sizeOf278
 v173 := Tryz.zeroValue278
 t212 := Tryz.underlying289
 a212 := Tryz.isAgg289
 z212 := Tryz.sizeOf289
 v212 := Tryz.zeroValue289
 t213 := Tryz.underlying290
 a213 := Tryz.isAgg290
 z213 := Tryz.sizeOf290
 t232 := Tryz.underlying295
 a232 := Tryz.isAgg295
 z232 := Tryz.sizeOf295
 v232 := Tryz.zeroValue295
 t233 := Tryz.underlying209
 a233 := Tryz.isAgg209
 z233 := Tryz.sizeOf209
 v233 := Tryz.zeroValue209
 g17 := by kernel_rfl
 g18 := by kernel_rfl
 g19 := by kernel_rfl
 i0 := by kernel_rfl
 i2 := by kernel_rfl
 i3 := by kernel_rfl
 i4 := by kernel_rfl
 i5 := by kernel_rfl
 i9 := by kernel_rfl
 i20 := by kernel_rfl
 i37 := by kernel_rfl
 i46 := by kernel_rfl
 i51 := by kernel_rfl
 i53 := by kernel_rfl
 i171 := by kernel_rfl
 i173 := by kernel_rfl
 i212 := by kernel_rfl
 i232 := by kernel_rfl
 i233 := by kernel_rfl
 m17 := by kernel_rfl
 m18 := by kernel_rfl
 m19 := by kernel_rfl
def XT : Ren := ⟨fun | 20 => 196 | n => n, fun | 22 => 22 | 3 => 3 | 4 => 4 | 0 => 0 | n => n, fun n => n⟩
theorem compA : Lays2.n20 prog XT where
 mixed := by kernel_rfl
 f20 := Tryz.func196.trans (congrArg some (by kernel_rfl))
 t0 := Tryz.underlying0
 a0 := Tryz.isAgg0
 z0 := Tryz.sizeOf0
 v0 := Tryz.zeroValue0
 t3 := Tryz.underlying3
 a3 := Tryz.isAgg3
 z3 := Tryz.sizeOf3
 v3 := Tryz.zeroValue3
 t4 := Tryz.underlying4
 a4 := Tryz.isAgg4
 z4 := Tryz.sizeOf4
 v4 := Tryz.zeroValue4
 t22 := Tryz.underlying22
 a22 := Tryz.isAgg22
 z22 := Tryz.sizeOf22
 v22 := Tryz.zeroValue22
 i3 := by kernel_rfl
def Tw : Ren := ⟨fun | 6 => 194 | 15 => 46 | 14 => 226 | 28 => 98 | 29 => 99 | 20 => 240 | 21 => 241 | 22 => 242 | 23 => 243 | 24 => 244 | 25 => 245 | 26 => 246 | 27 => 247 | 46 => 263 | 47 => 150 | 48 => 151 | 49 => 264 | 50 => 265 | 57 => 282 | n => n, fun | 22 => 22 | 24 => 3 | 25 => 81 | 3 => 3 | 39 => 91 | 0 => 0 | 53 => 139 | 55 => 83 | 4 => 4 | 46 => 132 | 45 => 131 | 50 => 136 | 5 => 5 | 9 => 9 | 66 => 174 | 70 => 178 | 76 => 211 | 77 => 148 | n => n, fun n => n⟩
theorem YY : SlLaysF.n6 prog Tw where
 mixed := by kernel_rfl
 f6 := ⟨ "slices.SortFunc[[]int,int]", by decide, Tryz.func194.trans (congrArg some (by kernel_rfl))⟩
 f14 := ⟨ "slices.pdqsortCmpFunc[int]", by decide, Tryz.func226.trans (congrArg some (by kernel_rfl))⟩
 f15 := Tryz.func46.trans (congrArg some (by kernel_rfl))
 f20 := ⟨ "slices.insertionSortCmpFunc[int]", by decide, Tryz.func240.trans (congrArg some (by kernel_rfl))⟩
 f21 := ⟨ "slices.heapSortCmpFunc[int]", by decide, Tryz.func241.trans (congrArg some (by kernel_rfl))⟩
 f22 := ⟨ "slices.breakPatternsCmpFunc[int]", by decide, Tryz.func242.trans (congrArg some (by kernel_rfl))⟩
 f23 := ⟨ "slices.choosePivotCmpFunc[int]", by decide, Tryz.func243.trans (congrArg some (by kernel_rfl))⟩
 f24 := ⟨ "slices.reverseRangeCmpFunc[int]", by decide, Tryz.func244.trans (congrArg some (by kernel_rfl))⟩
 f25 := ⟨ "slices.partialInsertionSortCmpFunc[int]", by decide, Tryz.func245.trans (congrArg some (by kernel_rfl))⟩
 f26 := ⟨ "slices.partitionEqualCmpFunc[int]", by decide, Tryz.func246.trans (congrArg some (by kernel_rfl))⟩
 f27 := ⟨ "slices.partitionCmpFunc[int]", by decide, Tryz.func247.trans (congrArg some (by kernel_rfl))⟩
 f28 := Tryz.func98.trans (congrArg some (by kernel_rfl))
 f29 := Tryz.func99.trans (congrArg some (by kernel_rfl))
 f46 := ⟨ "slices.siftDownCmpFunc[int]", by decide, Tryz.func263.trans (congrArg some (by kernel_rfl))⟩
 f47 := Tryz.func150.trans (congrArg some (by kernel_rfl))
 f48 := Tryz.func151.trans (congrArg some (by kernel_rfl))
 f49 := ⟨ "slices.medianAdjacentCmpFunc[int]", by decide, Tryz.func264.trans (congrArg some (by kernel_rfl))⟩
 f50 := ⟨ "slices.medianCmpFunc[int]", by decide, Tryz.func265.trans (congrArg some (by kernel_rfl))⟩
 f57 := ⟨ "slices.order2CmpFunc[int]", by decide, Tryz.func282.trans (congrArg some (by kernel_rfl))⟩
 t0 := Tryz.underlying0
 a0 := Tryz.isAgg0
 z0 := Tryz.sizeOf0
 v0 := Tryz.zeroValue0
 t3 := Tryz.underlying3
 a3 := Tryz.isAgg3
 z3 := Tryz.sizeOf3
 v3 := Tryz.zeroValue3
 t4 := Tryz.underlying4
 a4 := Tryz.isAgg4
 z4 := Tryz.sizeOf4
 v4 := Tryz.zeroValue4
 t5 := Tryz.underlying5
 a5 := Tryz.isAgg5
 z5 := Tryz.sizeOf5
 v5 := Tryz.zeroValue5
 t9 := Tryz.underlying9
 a9 := Tryz.isAgg9
 z9 := Tryz.sizeOf9
 v9 := Tryz.zeroValue9
 t22 := Tryz.underlying22
 a22 := Tryz.isAgg22
 z22 := Tryz.sizeOf22
 v22 := Tryz.zeroValue22
 a24 := Tryz.isAgg3
 z24 := Tryz.sizeOf3
 t25 := Tryz.underlying81
 a25 := Tryz.isAgg81
 z25 := Tryz.sizeOf81
 v25 := Tryz.zeroValue81
 t39 := Tryz.underlying91
 a39 := Tryz.isAgg91
 z39 := Tryz.sizeOf91
 v39 := Tryz.zeroValue91
 t45 := Tryz.underlying131
 a45 := Tryz.isAgg131
 z45 := Tryz.sizeOf131
 v45 := Tryz.zeroValue131
 t46 := Tryz.underlying132
 a46 := Tryz.isAgg132
 z46 := Tryz.sizeOf132
 v46 := Tryz.zeroValue132
 t50 := Tryz.underlying136
 a50 := Tryz.isAgg136
 z50 := Tryz.sizeOf136
 v50 := Tryz.zeroValue136
 t53 := Tryz.underlying139
 a53 := Tryz.isAgg139
 z53 := Tryz.sizeOf139
 v53 := Tryz.zeroValue139
 t55 := Tryz.underlying83
 a55 := Tryz.isAgg83
 z55 := Tryz.sizeOf83
 v55 := Tryz.zeroValue83
 t66 := Tryz.underlying174
 a66 := Tryz.isAgg174
 z66 := Tryz.sizeOf174
 v66 := Tryz.zeroValue174
 t70 := Tryz.underlying178
 a70 := Tryz.isAgg178
 z70 := Tryz.sizeOf178
 v70 := Tryz.zeroValue178
 t76 := Tryz.underlying211
 a76 := Tryz.isAgg211
 z76 := Tryz.sizeOf211
 v76 := Tryz.zeroValue211
 t77 := Tryz.underlying148
 a77 := Tryz.isAgg148
 z77 := Tryz.sizeOf148
 v77 := Tryz.zeroValue148
def Tt : Ren := ⟨fun | 6 => 20 | 15 => 46 | 14 => 45 | 28 => 98 | 29 => 99 | 20 => 90 | 21 => 91 | 22 => 92 | 23 => 93 | 24 => 94 | 25 => 95 | 26 => 96 | 27 => 97 | 46 => 149 | 47 => 150 | 48 => 151 | 49 => 152 | 50 => 153 | 57 => 191 | n => n, fun | 22 => 25 | 24 => 55 | 25 => 62 | 3 => 3 | 39 => 91 | 0 => 0 | 53 => 139 | 55 => 83 | 4 => 4 | 46 => 132 | 45 => 131 | 50 => 136 | 5 => 5 | 9 => 9 | 66 => 174 | 70 => 178 | 76 => 211 | 77 => 148 | n => n, fun n => n⟩
theorem Jl : SlLaysF0.n6 prog Tt where
 mixed := by kernel_rfl
 f6 := ⟨ "slices.SortFunc[[]deliberation/api.Pair,deliberation/api.Pair]", by decide, Tryz.func20.trans (congrArg some (by kernel_rfl))⟩
 f14 := ⟨ "slices.pdqsortCmpFunc[deliberation/api.Pair]", by decide, Tryz.func45.trans (congrArg some (by kernel_rfl))⟩
 f15 := Tryz.func46.trans (congrArg some (by kernel_rfl))
 f20 := ⟨ "slices.insertionSortCmpFunc[deliberation/api.Pair]", by decide, Tryz.func90.trans (congrArg some (by kernel_rfl))⟩
 f21 := ⟨ "slices.heapSortCmpFunc[deliberation/api.Pair]", by decide, Tryz.func91.trans (congrArg some (by kernel_rfl))⟩
 f22 := ⟨ "slices.breakPatternsCmpFunc[deliberation/api.Pair]", by decide, Tryz.func92.trans (congrArg some (by kernel_rfl))⟩
 f23 := ⟨ "slices.choosePivotCmpFunc[deliberation/api.Pair]", by decide, Tryz.func93.trans (congrArg some (by kernel_rfl))⟩
 f24 := ⟨ "slices.reverseRangeCmpFunc[deliberation/api.Pair]", by decide, Tryz.func94.trans (congrArg some (by kernel_rfl))⟩
 f25 := ⟨ "slices.partialInsertionSortCmpFunc[deliberation/api.Pair]", by decide, Tryz.func95.trans (congrArg some (by kernel_rfl))⟩
 f26 := ⟨ "slices.partitionEqualCmpFunc[deliberation/api.Pair]", by decide, Tryz.func96.trans (congrArg some (by kernel_rfl))⟩
 f27 := ⟨ "slices.partitionCmpFunc[deliberation/api.Pair]", by decide, Tryz.func97.trans (congrArg some (by kernel_rfl))⟩
 f28 := Tryz.func98.trans (congrArg some (by kernel_rfl))
 f29 := Tryz.func99.trans (congrArg some (by kernel_rfl))
 f46 := ⟨ "slices.siftDownCmpFunc[deliberation/api.Pair]", by decide, Tryz.func149.trans (congrArg some (by kernel_rfl))⟩
 f47 := Tryz.func150.trans (congrArg some (by kernel_rfl))
 f48 := Tryz.func151.trans (congrArg some (by kernel_rfl))
 f49 := ⟨ "slices.medianAdjacentCmpFunc[deliberation/api.Pair]", by decide, Tryz.func152.trans (congrArg some (by kernel_rfl))⟩
 f50 := ⟨ "slices.medianCmpFunc[deliberation/api.Pair]", by decide, Tryz.func153.trans (congrArg some (by kernel_rfl))⟩
 f57 := ⟨ "slices.order2CmpFunc[deliberation/api.Pair]", by decide, Tryz.func191.trans (congrArg some (by kernel_rfl))⟩
 t0 := Tryz.underlying0
 a0 := Tryz.isAgg0
 z0 := Tryz.sizeOf0
 v0 := Tryz.zeroValue0
 t3 := Tryz.underlying3
 a3 := Tryz.isAgg3
 z3 := Tryz.sizeOf3
 v3 := Tryz.zeroValue3
 t4 := Tryz.underlying4
 a4 := Tryz.isAgg4
 z4 := Tryz.sizeOf4
 v4 := Tryz.zeroValue4
 t5 := Tryz.underlying5
 a5 := Tryz.isAgg5
 z5 := Tryz.sizeOf5
 v5 := Tryz.zeroValue5
 t9 := Tryz.underlying9
 a9 := Tryz.isAgg9
 z9 := Tryz.sizeOf9
 v9 := Tryz.zeroValue9
 t22 := Tryz.underlying25
 a22 := Tryz.isAgg25
 z22 := Tryz.sizeOf25
 v22 := Tryz.zeroValue25
 t25 := Tryz.underlying62
 a25 := Tryz.isAgg62
 z25 := Tryz.sizeOf62
 v25 := Tryz.zeroValue62
 t39 := Tryz.underlying91
 a39 := Tryz.isAgg91
 z39 := Tryz.sizeOf91
 v39 := Tryz.zeroValue91
 t45 := Tryz.underlying131
 a45 := Tryz.isAgg131
 z45 := Tryz.sizeOf131
 v45 := Tryz.zeroValue131
 t46 := Tryz.underlying132
 a46 := Tryz.isAgg132
 z46 := Tryz.sizeOf132
 v46 := Tryz.zeroValue132
 t50 := Tryz.underlying136
 a50 := Tryz.isAgg136
 z50 := Tryz.sizeOf136
 v50 := Tryz.zeroValue136
 t53 := Tryz.underlying139
 a53 := Tryz.isAgg139
 z53 := Tryz.sizeOf139
 v53 := Tryz.zeroValue139
 t55 := Tryz.underlying83
 a55 := Tryz.isAgg83
 z55 := Tryz.sizeOf83
 v55 := Tryz.zeroValue83
 t66 := Tryz.underlying174
 a66 := Tryz.isAgg174
 z66 := Tryz.sizeOf174
 v66 := Tryz.zeroValue174
 t70 := Tryz.underlying178
 a70 := Tryz.isAgg178
 z70 := Tryz.sizeOf178
 v70 := Tryz.zeroValue178
 t76 := Tryz.underlying211
 a76 := Tryz.isAgg211
 z76 := Tryz.sizeOf211
 v76 := Tryz.zeroValue211
 t77 := Tryz.underlying148
 a77 := Tryz.isAgg148
 z77 := Tryz.sizeOf148
 v77 := Tryz.zeroValue148
def Tv : Ren := ⟨fun | 6 => 146 | 15 => 46 | 14 => 190 | 28 => 98 | 29 => 99 | 20 => 218 | 21 => 219 | 22 => 220 | 23 => 221 | 24 => 222 | 25 => 223 | 26 => 224 | 27 => 225 | 46 => 237 | 47 => 150 | 48 => 151 | 49 => 238 | 50 => 239 | 57 => 262 | n => n, fun | 22 => 45 | 24 => 22 | 25 => 173 | 3 => 3 | 39 => 91 | 0 => 0 | 53 => 139 | 55 => 83 | 4 => 4 | 46 => 132 | 45 => 131 | 50 => 136 | 5 => 5 | 9 => 9 | 66 => 174 | 70 => 178 | 76 => 211 | 77 => 148 | n => n, fun n => n⟩
theorem YX : SlLaysF.n6 prog Tv where
 mixed := by kernel_rfl
 f6 := ⟨ "slices.SortFunc[[][]int,[]int]", by decide, Tryz.func146.trans (congrArg some (by kernel_rfl))⟩
 f14 := ⟨ "slices.pdqsortCmpFunc[[]int]", by decide, Tryz.func190.trans (congrArg some (by kernel_rfl))⟩
 f15 := Tryz.func46.trans (congrArg some (by kernel_rfl))
 f20 := ⟨ "slices.insertionSortCmpFunc[[]int]", by decide, Tryz.func218.trans (congrArg some (by kernel_rfl))⟩
 f21 := ⟨ "slices.heapSortCmpFunc[[]int]", by decide, Tryz.func219.trans (congrArg some (by kernel_rfl))⟩
 f22 := ⟨ "slices.breakPatternsCmpFunc[[]int]", by decide, Tryz.func220.trans (congrArg some (by kernel_rfl))⟩
 f23 := ⟨ "slices.choosePivotCmpFunc[[]int]", by decide, Tryz.func221.trans (congrArg some (by kernel_rfl))⟩
 f24 := ⟨ "slices.reverseRangeCmpFunc[[]int]", by decide, Tryz.func222.trans (congrArg some (by kernel_rfl))⟩
 f25 := ⟨ "slices.partialInsertionSortCmpFunc[[]int]", by decide, Tryz.func223.trans (congrArg some (by kernel_rfl))⟩
 f26 := ⟨ "slices.partitionEqualCmpFunc[[]int]", by decide, Tryz.func224.trans (congrArg some (by kernel_rfl))⟩
 f27 := ⟨ "slices.partitionCmpFunc[[]int]", by decide, Tryz.func225.trans (congrArg some (by kernel_rfl))⟩
 f28 := Tryz.func98.trans (congrArg some (by kernel_rfl))
 f29 := Tryz.func99.trans (congrArg some (by kernel_rfl))
 f46 := ⟨ "slices.siftDownCmpFunc[[]int]", by decide, Tryz.func237.trans (congrArg some (by kernel_rfl))⟩
 f47 := Tryz.func150.trans (congrArg some (by kernel_rfl))
 f48 := Tryz.func151.trans (congrArg some (by kernel_rfl))
 f49 := ⟨ "slices.medianAdjacentCmpFunc[[]int]", by decide, Tryz.func238.trans (congrArg some (by kernel_rfl))⟩
 f50 := ⟨ "slices.medianCmpFunc[[]int]", by decide, Tryz.func239.trans (congrArg some (by kernel_rfl))⟩
 f57 := ⟨ "slices.order2CmpFunc[[]int]", by decide, Tryz.func262.trans (congrArg some (by kernel_rfl))⟩
 t0 := Tryz.underlying0
 a0 := Tryz.isAgg0
 z0 := Tryz.sizeOf0
 v0 := Tryz.zeroValue0
 t3 := Tryz.underlying3
 a3 := Tryz.isAgg3
 z3 := Tryz.sizeOf3
 v3 := Tryz.zeroValue3
 t4 := Tryz.underlying4
 a4 := Tryz.isAgg4
 z4 := Tryz.sizeOf4
 v4 := Tryz.zeroValue4
 t5 := Tryz.underlying5
 a5 := Tryz.isAgg5
 z5 := Tryz.sizeOf5
 v5 := Tryz.zeroValue5
 t9 := Tryz.underlying9
 a9 := Tryz.isAgg9
 z9 := Tryz.sizeOf9
 v9 := Tryz.zeroValue9
 t22 := Tryz.underlying45
 a22 := Tryz.isAgg45
 z22 := Tryz.sizeOf45
 v22 := Tryz.zeroValue45
 a24 := Tryz.isAgg22
 z24 := Tryz.sizeOf22
 t25 := Tryz.underlying173
 a25 := Tryz.isAgg173
 z25 := Tryz.sizeOf173
 v25 := Tryz.zeroValue173
 t39 := Tryz.underlying91
 a39 := Tryz.isAgg91
 z39 := Tryz.sizeOf91
 v39 := Tryz.zeroValue91
 t45 := Tryz.underlying131
 a45 := Tryz.isAgg131
 z45 := Tryz.sizeOf131
 v45 := Tryz.zeroValue131
 t46 := Tryz.underlying132
 a46 := Tryz.isAgg132
 z46 := Tryz.sizeOf132
 v46 := Tryz.zeroValue132
 t50 := Tryz.underlying136
 a50 := Tryz.isAgg136
 z50 := Tryz.sizeOf136
 v50 := Tryz.zeroValue136
 t53 := Tryz.underlying139
 a53 := Tryz.isAgg139
 z53 := Tryz.sizeOf139
 v53 := Tryz.zeroValue139
 t55 := Tryz.underlying83
 a55 := Tryz.isAgg83
 z55 := Tryz.sizeOf83
 v55 := Tryz.zeroValue83
 t66 := Tryz.underlying174
 a66 := Tryz.isAgg174
 z66 := Tryz.sizeOf174
 v66 := Tryz.zeroValue174
 t70 := Tryz.underlying178
 a70 := Tryz.isAgg178
 z70 := Tryz.sizeOf178
 v70 := Tryz.zeroValue178
 t76 := Tryz.underlying211
 a76 := Tryz.isAgg211
 z76 := Tryz.sizeOf211
 v76 := Tryz.zeroValue211
 t77 := Tryz.underlying148
 a77 := Tryz.isAgg148
 z77 := Tryz.sizeOf148
 v77 := Tryz.zeroValue148
def YL : Ren := ⟨fun | 29 => 143 | n => n, fun | 22 => 83 | 3 => 3 | 4 => 4 | 25 => 91 | 54 => 209 | 0 => 0 | 5 => 5 | n => n, fun | 1 => 0 | n => n⟩
theorem tz29 : Lays7.n29 prog YL where
 mixed := by kernel_rfl
 f29 := Tryz.func143.trans (congrArg some (by kernel_rfl))
 t0 := Tryz.underlying0
 a0 := Tryz.isAgg0
 z0 := Tryz.sizeOf0
 v0 := Tryz.zeroValue0
 i0 := by kernel_rfl
 t3 := Tryz.underlying3
 a3 := Tryz.isAgg3
 z3 := Tryz.sizeOf3
 v3 := Tryz.zeroValue3
 i3 := by kernel_rfl
 t4 := Tryz.underlying4
 a4 := Tryz.isAgg4
 z4 := Tryz.sizeOf4
 v4 := Tryz.zeroValue4
 i4 := by kernel_rfl
 t5 := Tryz.underlying5
 a5 := Tryz.isAgg5
 z5 := Tryz.sizeOf5
 v5 := Tryz.zeroValue5
 i5 := by kernel_rfl
 t22 := Tryz.underlying83
 a22 := Tryz.isAgg83
 z22 := Tryz.sizeOf83
 v22 := Tryz.zeroValue83
 i22 := by kernel_rfl
 t25 := Tryz.underlying91
 a25 := Tryz.isAgg91
 z25 := Tryz.sizeOf91
 v25 := Tryz.zeroValue91
 i25 := by kernel_rfl
 t54 := Tryz.underlying209
 a54 := Tryz.isAgg209
 z54 := Tryz.sizeOf209
 g1 := by kernel_rfl
theorem Sj : Builder.Extra prog Pa where
 sizeBuilder := by kernel_rfl
 liesBuilder := by kernel_rfl
 t5 := Tryz.underlying5
 a5 := Tryz.isAgg5
 z5 := Tryz.sizeOf5
 v5 := Tryz.zeroValue5
 infoByte := by kernel_rfl
 cellsByte := by kernel_rfl
 sizeByte := by kernel_rfl
 neB5 := by decide
set_option maxHeartbeats 1000000 in
set_option maxRecDepth 100000 in
theorem Ng (b : Nat) (w : World) (h0 : w.cell? ⟨b, 0, none⟩ = some (.pointer (some ⟨b, 0, none⟩))) :
  Calls prog 227 #[.pointer (some ⟨b, 0, none⟩)] w fun e w' => e = .returned (.tuple #[]) ∧ w' = w := by
 obtain ⟨j, hj, _⟩ := Option.map_eq_some_iff.1 Sj.sizeBuilder
 go_enter Tryz.func227, Tryz.ntmps227
 go_wp2
 rw [Lib.run_neq_ptr_same w _ Tryz.underlying218 hj]
 go_wp2
 go_end0
 exact ⟨rfl, rfl⟩
set_option maxHeartbeats 1000000 in
set_option maxRecDepth 100000 in
theorem Lc (b : Nat) (w : World) (h0 : w.cell? ⟨b, 0, none⟩ = some (.pointer none)) (hsh : w.shape? b = some (221, 2)) (hfz : w.frozen? ⟨b, 0, none⟩ = false) :
  Calls prog 227 #[.pointer (some ⟨b, 0, none⟩)] w fun e w' => e = .returned (.tuple #[]) ∧ w' = w.setCell ⟨b, 0, none⟩ (.pointer (some ⟨b, 0, none⟩)) := by
 obtain ⟨j, hj, Ul⟩ := Option.map_eq_some_iff.1 Sj.sizeBuilder
 go_enter Tryz.func227, Tryz.ntmps227
 go_wp2
 rw [Lib.run_to_unsafe w ⟨b, 0, none⟩ Tryz.underlying218 Tryz.underlying263 hj (by rw [Ul]; decide) hsh (Nat.zero_lt_succ 1)]
 simp only [Result.andThen]
 rw [Oper.upon_value]
 go_wp2
 rw [run_callFunc_extern Tryz.func248 (by kernel_rfl) (by kernel_rfl) (by kernel_rfl) (e := Extern.AbiNoEscape.same) (by kernel_rfl)]
 rw [Lib.run_noEscape]
 simp only [Result.andThen]
 rw [Oper.upon_value]
 go_wp2
 rw [Lib.run_from_unsafe w ⟨b, 0, none⟩ Tryz.underlying263 Tryz.underlying218 hj hsh Sj.liesBuilder]
 simp only [Result.andThen]
 rw [Oper.upon_value]
 go_wp2
 go_end0
 exact ⟨rfl, rfl⟩
theorem KL (B b : Nat) (bs : List Value) (w : World) (h : Lib.IsBuilderF 221 5 B b bs w) :
  Calls prog 227 #[.pointer (some ⟨b, 0, none⟩)] w fun e w' => e = .returned (.tuple #[]) ∧ (Lib.BuilderAtF 221 5 B b (.pointer (some ⟨b, 0, none⟩)) bs w' ∧ Below B w w') := by
 rcases h with h | h
 ·refine (Lc b w h.cell0 h.shape h.frozen0).mono ?_
  rintro e w' ⟨rfl, rfl⟩
  exact ⟨rfl, h.used _, (Below.refl B w).setCell (p := ⟨b, 0, none⟩) h.1 _⟩
 ·refine (Ng b w h.cell0).mono ?_
  rintro e w' ⟨rfl, rfl⟩
  exact ⟨rfl, h, Below.refl B _⟩
set_option maxHeartbeats 2000000 in
set_option maxRecDepth 100000 in
theorem bldB (B b : Nat) (bs : List Value) (c : Int) (w : World) (h : Lib.IsBuilderF 221 5 B b bs w) (hlen : bs.length + 1 ≤ 140737488355328) (hBw : B ≤ w.heap.size) :
  Calls prog 199 #[.pointer (some ⟨b, 0, none⟩), .int .u8 c] w fun e w' => e = .returned .nilIface ∧ (Lib.BuilderAtF 221 5 B b (.pointer (some ⟨b, 0, none⟩)) (bs ++ [.int .u8 c]) w' ∧ Below B w w') := by
 obtain ⟨i0, hi, hz0, hz1, hz2⟩ := info_parts Sj.infoByte
 go_enter Tryz.func199, Tryz.ntmps199
 go_wp2_with (go_at_call 227; refine (KL B b bs _ h).mono ?_)
 rintro e w1 ⟨rfl, h1, Q5⟩
 obtain ⟨hB, v, hbk, hown, hne⟩ := h1
 have c0 : w1.cell? ⟨b, 0, none⟩ = some (.pointer (some ⟨b, 0, none⟩)) := by rw [Lib.cell_of_heap hbk]; rfl
 have c1 : w1.cell? ⟨b, 1, none⟩ = some v := by rw [Lib.cell_of_heap hbk]; rfl
 go_wp2_with (at_builtin; refine wpList_append_ownF _ rfl _ _ 219 rfl B 5 i0 (.int .u8 0) 1 1 Tryz.underlying219 hi hz0 hz1 hz2 rfl (by decide) _ _ _ rfl (hown.alloc _) ⟨w1.heap.size, 0, none⟩ 1 1 [.int .u8 c] rfl rfl ?c1 ?c2 ?c3 ?c4 ?c5 ?_)
 case c1 =>
  intro j u hj
  match j, hj with
  | 0, hj => simp at hj; subst hj; simp [Addr.add]
 case c2 => intro u hu; simp at hu; subst hu; rfl
 case c3 => unfold maxLen; omega
 case c4 => omega
 case c5 => have := Q5.size; simp; omega
 intro v' w2 R6 hgrow _
 have hlt : b < w1.heap.size := by
  rcases Nat.lt_or_ge b w1.heap.size with h' | h'
  ·exact h'
  ·simp [Array.getElem?_eq_none h'] at hbk
 have rQ : w2.heap[b]? = some (.cells #[.pointer (some ⟨b, 0, none⟩), v] 221 (0, 0)) := by
  rw [hgrow.block b (by simp; omega) (fun e => hne e.symm), Lib.alloc_old w1 _ b hlt]
  exact hbk
 have d0 : w2.cell? ⟨b, 0, none⟩ = some (.pointer (some ⟨b, 0, none⟩)) := by rw [Lib.cell_of_heap rQ]; rfl
 have d1 : w2.cell? ⟨b, 1, none⟩ = some v := by rw [Lib.cell_of_heap rQ]; rfl
 have f1 : w2.frozen? ⟨b, 1, none⟩ = false := Lib.frozen_of_heap rQ 1
 obtain ⟨g, cap, rfl⟩ : ∃ g cap, v' = .slice (some ⟨g, 0, none⟩) (bs.length + 1) cap := by
  rcases R6.2 with ⟨_, h0⟩ | ⟨g, cap, cur, fz, hv, _⟩
  ·omega
  ·exact ⟨g, cap, hv⟩
 go_wp2
 go_ret
 refine ⟨rfl, ?_, ?_⟩
 ·exact Lib.BuilderAtF.put (T := 221) (e := 5) hB rQ (bs' := bs ++ [.int .u8 c]) (by simpa using R6) Sj.neB5
 ·exact ((Q5.alloc (by have := Q5.size; omega) _).grown hgrow (by have := Q5.size; simp; omega) (fun k hk => (hown.lt k hk).1)).setCell (p := ⟨b, 1, none⟩) hB _
set_option maxHeartbeats 2000000 in
set_option maxRecDepth 100000 in
theorem bldS (B b : Nat) (bs : List Value) (s : ByteArray) (w : World) (h : Lib.IsBuilderF 221 5 B b bs w) (hlen : bs.length + s.size ≤ 140737488355328) (hBw : B ≤ w.heap.size) :
  Calls prog 197 #[.pointer (some ⟨b, 0, none⟩), .string s] w fun e w' => e = .returned (.tuple #[.int .i64 s.size, .nilIface]) ∧ (Lib.BuilderAtF 221 5 B b (.pointer (some ⟨b, 0, none⟩)) (bs ++ Lib.strCells s) w' ∧ Below B w w') := by
 obtain ⟨i0, hi, hz0, hz1, hz2⟩ := info_parts Sj.infoByte
 go_enter Tryz.func197, Tryz.ntmps197
 go_wp2_with (go_at_call 227; refine (KL B b bs _ h).mono ?_)
 rintro e w1 ⟨rfl, h1, Q5⟩
 obtain ⟨hB, v, hbk, hown, hne⟩ := h1
 have c0 : w1.cell? ⟨b, 0, none⟩ = some (.pointer (some ⟨b, 0, none⟩)) := by rw [Lib.cell_of_heap hbk]; rfl
 have c1 : w1.cell? ⟨b, 1, none⟩ = some v := by rw [Lib.cell_of_heap hbk]; rfl
 go_wp2_with (at_builtin; refine Lib.wpList_append_own_stringF _ rfl _ _ 219 9 rfl B 5 i0 Tryz.underlying219 Tryz.underlying9 hi hz0 hz1 hz2 _ _ _ rfl hown s rfl ?c3 ?c4 ?c5 ?_)
 case c3 => unfold maxLen; omega
 case c4 => omega
 case c5 => have := Q5.size; omega
 intro v' w2 R6 hgrow _
 have hlt : b < w1.heap.size := by
  rcases Nat.lt_or_ge b w1.heap.size with h' | h'
  ·exact h'
  ·simp [Array.getElem?_eq_none h'] at hbk
 have rQ : w2.heap[b]? = some (.cells #[.pointer (some ⟨b, 0, none⟩), v] 221 (0, 0)) := by
  rw [hgrow.block b hlt (fun e => hne e.symm)]
  exact hbk
 have d0 : w2.cell? ⟨b, 0, none⟩ = some (.pointer (some ⟨b, 0, none⟩)) := by rw [Lib.cell_of_heap rQ]; rfl
 have d1 : w2.cell? ⟨b, 1, none⟩ = some v := by rw [Lib.cell_of_heap rQ]; rfl
 have f1 : w2.frozen? ⟨b, 1, none⟩ = false := Lib.frozen_of_heap rQ 1
 obtain ⟨ao, n', cap, rfl⟩ : ∃ ao n' cap, v' = .slice ao n' cap := by
  rcases R6.2 with ⟨hv, _⟩ | ⟨g, cap, cur, fz, hv, _⟩
  ·exact ⟨_, _, _, hv⟩
  ·exact ⟨_, _, _, hv⟩
 go_wp2
 go_ret2
 refine ⟨rfl, ?_, ?_⟩
 ·exact Lib.BuilderAtF.put (T := 221) (e := 5) hB rQ (bs' := bs ++ Lib.strCells s) (by simpa [Lib.strCells_length] using R6) Sj.neB5
 ·exact (Q5.grown hgrow (by have := Q5.size; omega) (fun k hk => (hown.lt k hk).1)).setCell (p := ⟨b, 1, none⟩) hB _
theorem bldG (B b : Nat) (l : List UInt8) (w : World) (h : Lib.IsBuilderF 221 5 B b (Lib.byteCells l) w) (hBw : B ≤ w.heap.size) :
  Calls prog 200 #[.pointer (some ⟨b, 0, none⟩)] w fun e w' => e = .returned (.string ⟨l.toArray⟩) ∧ (Lib.IsBuilderF 221 5 B b (Lib.byteCells l) w' ∧ Below B w w' ∧ Lib.OthersKept 5 (some b) w w') := Any.Builder_String_any_k bs169 Sj B b l w h hBw
theorem itoaC (n : Int) (h0 : -9223372036854775808 ≤ n) (h1 : n ≤ 9223372036854775807) (w : World) (htab : Lib.TabIs prog w "internal/strconv.uint64pow10" .u64 Lib.pow10Tab) :
  Calls prog 198 #[.int .i64 n] w fun e w' => e = .returned (.string ⟨(Lib.itoa n).toArray⟩) ∧ ∃ k os, w' = Sort.grow (w.drewN k) os := Any.strconv_Itoa it171 n h0 h1 w htab
theorem HH [aq] {bO r : List Int} (hm : ym bO = some r) {tG : Value × List Nat} :
  gw prog 196 [pv tG.1] [oa (rI .i64) tG.1 tG.2 bO] (fun x : Value × List Nat => [pv x.1]) (fun x : Value × List Nat => [oa (rI .i64) x.1 x.2 r]) :=
 UG (fun w blk off cap zs h1 h2 h3 => Any.slices_Compact_int compA blk off cap zs w h1 h2 h3) (fun a cap w => Any.slices_Compact_int_empty compA a cap w) SI hm
end Go.Dc
