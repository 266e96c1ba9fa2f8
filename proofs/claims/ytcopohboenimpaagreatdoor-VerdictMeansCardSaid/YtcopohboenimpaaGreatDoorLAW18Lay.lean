/- Part LAW18.Lay of a proof: lemmas. -/
import Derived.Test.YtcopohboenimpaaGreatDoorDcCpt
import Derived.Shelf.SlSortCmp.NoneTotal
import Derived.Shelf.Spec.TrailingZeros
import Derived.Shelf.Strconv.Itoa3
import Derived.Shelf.Strings.BuilderK
import Derived.Test.YtcopohboenimpaaGreatDoorProg
set_option linter.unusedVariables false
set_option maxRecDepth 100000
set_option maxHeartbeats 4000000
namespace Go.Dc
open Go.Proofs Go.RowKit Go.Shelf
open Go.Proofs.Tryz (prog)

def bs169_ren : Ren := ⟨fun | 169 => 137 | n => n, fun | 70 => 143 | 9 => 9 | 0 => 0 | 72 => 146 | 37 => 144 | 127 => 165 | 3 => 3 | 5 => 5 | n => n, fun n => n⟩
theorem bs169 : Lays.n169 prog bs169_ren where
 mixed := by kernel_rfl
 f169 := Tryz.func137.trans (congrArg some (by kernel_rfl))
 t0 := Tryz.underlying0
 a0 := Tryz.isAgg0
 z0 := Tryz.sizeOf0
 v0 := Tryz.zeroValue0
 t3 := Tryz.underlying3
 a3 := Tryz.isAgg3
 z3 := Tryz.sizeOf3
 v3 := Tryz.zeroValue3
 t9 := Tryz.underlying9
 a9 := Tryz.isAgg9
 z9 := Tryz.sizeOf9
 v9 := Tryz.zeroValue9
 t37 := Tryz.underlying144
 a37 := Tryz.isAgg144
 z37 := Tryz.sizeOf144
 v37 := Tryz.zeroValue144
 t70 := Tryz.underlying143
 a70 := Tryz.isAgg143
 z70 := Tryz.sizeOf143
 v70 := Tryz.zeroValue143
 t72 := Tryz.underlying146
 a72 := Tryz.isAgg146
 z72 := Tryz.sizeOf146
 v72 := Tryz.zeroValue146
 t127 := Tryz.underlying165
 a127 := Tryz.isAgg165
 z127 := Tryz.sizeOf165
 v127 := Tryz.zeroValue165

def it171_ren : Ren := ⟨fun | 171 => 135 | 243 => 152 | 246 => 168 | 283 => 173 | 284 => 174 | 285 => 175 | 286 => 176 | 129 => 149 | 317 => 178 | 318 => 179 | 319 => 180 | 320 => 181 | 337 => 182 | 338 => 126 | n => n, fun | 3 => 3 | 9 => 9 | 2 => 2 | 4 => 4 | 171 => 184 | 0 => 0 | 53 => 121 | 37 => 144 | 5 => 5 | 173 => 186 | 212 => 190 | 51 => 136 | 20 => 20 | 213 => 191 | 46 => 125 | 232 => 192 | 233 => 155 | n => n, fun | 17 => 1 | 18 => 2 | 19 => 0 | n => n⟩
theorem it171 : LaysM.n171 prog it171_ren where
 mixed := by kernel_rfl
 f129 := Tryz.func149.trans (congrArg some (by kernel_rfl))
 f171 := Tryz.func135.trans (congrArg some (by kernel_rfl))
 f243 := Tryz.func152.trans (congrArg some (by kernel_rfl))
 f246 := Tryz.func168.trans (congrArg some (by kernel_rfl))
 f283 := Tryz.func173.trans (congrArg some (by kernel_rfl))
 f284 := Tryz.func174.trans (congrArg some (by kernel_rfl))
 f285 := Tryz.func175.trans (congrArg some (by kernel_rfl))
 f286 := Tryz.func176.trans (congrArg some (by kernel_rfl))
 f317 := Tryz.func178.trans (congrArg some (by kernel_rfl))
 f318 := Tryz.func179.trans (congrArg some (by kernel_rfl))
 f319 := Tryz.func180.trans (congrArg some (by kernel_rfl))
 f320 := Tryz.func181.trans (congrArg some (by kernel_rfl))
 f337 := Tryz.func182.trans (congrArg some (by kernel_rfl))
 f338 := Tryz.func126.trans (congrArg some (by kernel_rfl))
 t0 := Tryz.underlying0
 a0 := Tryz.isAgg0
 z0 := Tryz.sizeOf0
 v0 := Tryz.zeroValue0
 t2 := Tryz.underlying2
 a2 := Tryz.isAgg2
 z2 := Tryz.sizeOf2
 v2 := Tryz.zeroValue2
 t3 := Tryz.underlying3
 a3 := Tryz.isAgg3
 z3 := Tryz.sizeOf3
 v3 := Tryz.zeroValue3
 t4 := Tryz.underlying4
 a4 := Tryz.isAgg4
 z4 := Tryz.sizeOf4
 v4 := Tryz.zeroValue4
 t5 := Tryz.underlying5
 a5 := Tryz.isAgg5
 z5 := Tryz.sizeOf5
 v5 := Tryz.zeroValue5
 t9 := Tryz.underlying9
 a9 := Tryz.isAgg9
 z9 := Tryz.sizeOf9
 v9 := Tryz.zeroValue9
 t20 := Tryz.underlying20
 a20 := Tryz.isAgg20
 z20 := Tryz.sizeOf20
 v20 := Tryz.zeroValue20
 t37 := Tryz.underlying144
 a37 := Tryz.isAgg144
 z37 := Tryz.sizeOf144
 v37 := Tryz.zeroValue144
 t46 := Tryz.underlying125
 a46 := Tryz.isAgg125
 z46 := Tryz.sizeOf125
 v46 := Tryz.zeroValue125
 t51 := Tryz.underlying136
 a51 := Tryz.isAgg136
 z51 := Tryz.sizeOf136
 v51 := Tryz.zeroValue136
 t53 := Tryz.underlying121
 a53 := Tryz.isAgg121
 z53 := Tryz.sizeOf121
 v53 := Tryz.zeroValue121
 t171 := Tryz.underlying184
 a171 := Tryz.isAgg184
 z171 := Tryz.sizeOf184
 v171 := Tryz.zeroValue184
 t173 := Tryz.underlying186
 a173 := Tryz.isAgg186
 z173 := Tryz.sizeOf186
 v173 := Tryz.zeroValue186
 t212 := Tryz.underlying190
 a212 := Tryz.isAgg190
 z212 := Tryz.sizeOf190
 v212 := Tryz.zeroValue190
 t213 := Tryz.underlying191
 a213 := Tryz.isAgg191
 z213 := Tryz.sizeOf191
 t232 := Tryz.underlying192
 a232 := Tryz.isAgg192
 z232 := Tryz.sizeOf192
 v232 := Tryz.zeroValue192
 t233 := Tryz.underlying155
 a233 := Tryz.isAgg155
 z233 := Tryz.sizeOf155
 v233 := Tryz.zeroValue155
 g17 := by kernel_rfl
 g18 := by kernel_rfl
 g19 := by kernel_rfl
 i0 := by kernel_rfl
 i2 := by kernel_rfl
 i3 := by kernel_rfl
 i4 := by kernel_rfl
 i5 := by kernel_rfl
 i9 := by kernel_rfl
 i20 := by kernel_rfl
 i37 := by kernel_rfl
 i46 := by kernel_rfl
 i51 := by kernel_rfl
 i53 := by kernel_rfl
 i171 := by kernel_rfl
 i173 := by kernel_rfl
 i212 := by kernel_rfl
 i232 := by kernel_rfl
 i233 := by kernel_rfl
 m17 := by kernel_rfl
 m18 := by kernel_rfl
 m19 := by kernel_rfl

def compA_ren : Ren := ⟨fun | 20 => 133 | n => n, fun | 22 => 25 | 3 => 3 | 4 => 4 | 0 => 0 | n => n, fun n => n⟩
theorem compA : Lays2.n20 prog compA_ren where
 mixed := by kernel_rfl
 f20 := Tryz.func133.trans (congrArg some (by kernel_rfl))
 t0 := Tryz.underlying0
 a0 := Tryz.isAgg0
 z0 := Tryz.sizeOf0
 v0 := Tryz.zeroValue0
 t3 := Tryz.underlying3
 a3 := Tryz.isAgg3
 z3 := Tryz.sizeOf3
 v3 := Tryz.zeroValue3
 t4 := Tryz.underlying4
 a4 := Tryz.isAgg4
 z4 := Tryz.sizeOf4
 v4 := Tryz.zeroValue4
 t22 := Tryz.underlying25
 a22 := Tryz.isAgg25
 z22 := Tryz.sizeOf25
 v22 := Tryz.zeroValue25
 i3 := by kernel_rfl

def sortFA_ren : Ren := ⟨fun | 6 => 131 | 15 => 128 | 14 => 150 | 28 => 148 | 29 => 149 | 20 => 159 | 21 => 160 | 22 => 161 | 23 => 162 | 24 => 163 | 25 => 164 | 26 => 165 | 27 => 166 | 46 => 170 | 47 => 155 | 48 => 156 | 49 => 171 | 50 => 172 | 57 => 177 | n => n, fun | 22 => 25 | 24 => 3 | 25 => 62 | 3 => 3 | 39 => 125 | 0 => 0 | 53 => 136 | 55 => 121 | 4 => 4 | 46 => 158 | 45 => 157 | 50 => 130 | 5 => 5 | 9 => 9 | 66 => 166 | 70 => 170 | 76 => 180 | 77 => 106 | n => n, fun n => n⟩
theorem sortFA : SlLaysF.n6 prog sortFA_ren where
 mixed := by kernel_rfl
 f6 := ⟨ "slices.SortFunc[[]int,int]", by decide, Tryz.func131.trans (congrArg some (by kernel_rfl))⟩
 f14 := ⟨ "slices.pdqsortCmpFunc[int]", by decide, Tryz.func150.trans (congrArg some (by kernel_rfl))⟩
 f15 := Tryz.func128.trans (congrArg some (by kernel_rfl))
 f20 := ⟨ "slices.insertionSortCmpFunc[int]", by decide, Tryz.func159.trans (congrArg some (by kernel_rfl))⟩
 f21 := ⟨ "slices.heapSortCmpFunc[int]", by decide, Tryz.func160.trans (congrArg some (by kernel_rfl))⟩
 f22 := ⟨ "slices.breakPatternsCmpFunc[int]", by decide, Tryz.func161.trans (congrArg some (by kernel_rfl))⟩
 f23 := ⟨ "slices.choosePivotCmpFunc[int]", by decide, Tryz.func162.trans (congrArg some (by kernel_rfl))⟩
 f24 := ⟨ "slices.reverseRangeCmpFunc[int]", by decide, Tryz.func163.trans (congrArg some (by kernel_rfl))⟩
 f25 := ⟨ "slices.partialInsertionSortCmpFunc[int]", by decide, Tryz.func164.trans (congrArg some (by kernel_rfl))⟩
 f26 := ⟨ "slices.partitionEqualCmpFunc[int]", by decide, Tryz.func165.trans (congrArg some (by kernel_rfl))⟩
 f27 := ⟨ "slices.partitionCmpFunc[int]", by decide, Tryz.func166.trans (congrArg some (by kernel_rfl))⟩
 f28 := Tryz.func148.trans (congrArg some (by kernel_rfl))
 f29 := Tryz.func149.trans (congrArg some (by kernel_rfl))
 f46 := ⟨ "slices.siftDownCmpFunc[int]", by decide, Tryz.func170.trans (congrArg some (by kernel_rfl))⟩
 f47 := Tryz.func155.trans (congrArg some (by kernel_rfl))
 f48 := Tryz.func156.trans (congrArg some (by kernel_rfl))
 f49 := ⟨ "slices.medianAdjacentCmpFunc[int]", by decide, Tryz.func171.trans (congrArg some (by kernel_rfl))⟩
 f50 := ⟨ "slices.medianCmpFunc[int]", by decide, Tryz.func172.trans (congrArg some (by kernel_rfl))⟩
 f57 := ⟨ "slices.order2CmpFunc[int]", by decide, Tryz.func177.trans (congrArg some (by kernel_rfl))⟩
 t0 := Tryz.underlying0
 a0 := Tryz.isAgg0
 z0 := Tryz.sizeOf0
 v0 := Tryz.zeroValue0
 t3 := Tryz.underlying3
 a3 := Tryz.isAgg3
 z3 := Tryz.sizeOf3
 v3 := Tryz.zeroValue3
 t4 := Tryz.underlying4
 a4 := Tryz.isAgg4
 z4 := Tryz.sizeOf4
 v4 := Tryz.zeroValue4
 t5 := Tryz.underlying5
 a5 := Tryz.isAgg5
 z5 := Tryz.sizeOf5
 v5 := Tryz.zeroValue5
 t9 := Tryz.underlying9
 a9 := Tryz.isAgg9
 z9 := Tryz.sizeOf9
 v9 := Tryz.zeroValue9
 t22 := Tryz.underlying25
 a22 := Tryz.isAgg25
 z22 := Tryz.sizeOf25
 v22 := Tryz.zeroValue25
 a24 := Tryz.isAgg3
 z24 := Tryz.sizeOf3
 t25 := Tryz.underlying62
 a25 := Tryz.isAgg62
 z25 := Tryz.sizeOf62
 v25 := Tryz.zeroValue62
 t39 := Tryz.underlying125
 a39 := Tryz.isAgg125
 z39 := Tryz.sizeOf125
 v39 := Tryz.zeroValue125
 t45 := Tryz.underlying157
 a45 := Tryz.isAgg157
 z45 := Tryz.sizeOf157
 v45 := Tryz.zeroValue157
 t46 := Tryz.underlying158
 a46 := Tryz.isAgg158
 z46 := Tryz.sizeOf158
 v46 := Tryz.zeroValue158
 t50 := Tryz.underlying130
 a50 := Tryz.isAgg130
 z50 := Tryz.sizeOf130
 v50 := Tryz.zeroValue130
 t53 := Tryz.underlying136
 a53 := Tryz.isAgg136
 z53 := Tryz.sizeOf136
 v53 := Tryz.zeroValue136
 t55 := Tryz.underlying121
 a55 := Tryz.isAgg121
 z55 := Tryz.sizeOf121
 v55 := Tryz.zeroValue121
 t66 := Tryz.underlying166
 a66 := Tryz.isAgg166
 z66 := Tryz.sizeOf166
 v66 := Tryz.zeroValue166
 t70 := Tryz.underlying170
 a70 := Tryz.isAgg170
 z70 := Tryz.sizeOf170
 v70 := Tryz.zeroValue170
 t76 := Tryz.underlying180
 a76 := Tryz.isAgg180
 z76 := Tryz.sizeOf180
 v76 := Tryz.zeroValue180
 t77 := Tryz.underlying106
 a77 := Tryz.isAgg106
 z77 := Tryz.sizeOf106
 v77 := Tryz.zeroValue106

def sortFP_ren : Ren := ⟨fun | 6 => 112 | 15 => 128 | 14 => 127 | 28 => 148 | 29 => 149 | 20 => 140 | 21 => 141 | 22 => 142 | 23 => 143 | 24 => 144 | 25 => 145 | 26 => 146 | 27 => 147 | 46 => 154 | 47 => 155 | 48 => 156 | 49 => 157 | 50 => 158 | 57 => 169 | n => n, fun | 22 => 22 | 24 => 61 | 25 => 104 | 3 => 3 | 39 => 125 | 0 => 0 | 53 => 136 | 55 => 121 | 4 => 4 | 46 => 158 | 45 => 157 | 50 => 130 | 5 => 5 | 9 => 9 | 66 => 166 | 70 => 170 | 76 => 180 | 77 => 106 | n => n, fun n => n⟩
theorem sortFP : SlLaysF0.n6 prog sortFP_ren where
 mixed := by kernel_rfl
 f6 := ⟨ "slices.SortFunc[[]deliberation/api.Pair,deliberation/api.Pair]", by decide, Tryz.func112.trans (congrArg some (by kernel_rfl))⟩
 f14 := ⟨ "slices.pdqsortCmpFunc[deliberation/api.Pair]", by decide, Tryz.func127.trans (congrArg some (by kernel_rfl))⟩
 f15 := Tryz.func128.trans (congrArg some (by kernel_rfl))
 f20 := ⟨ "slices.insertionSortCmpFunc[deliberation/api.Pair]", by decide, Tryz.func140.trans (congrArg some (by kernel_rfl))⟩
 f21 := ⟨ "slices.heapSortCmpFunc[deliberation/api.Pair]", by decide, Tryz.func141.trans (congrArg some (by kernel_rfl))⟩
 f22 := ⟨ "slices.breakPatternsCmpFunc[deliberation/api.Pair]", by decide, Tryz.func142.trans (congrArg some (by kernel_rfl))⟩
 f23 := ⟨ "slices.choosePivotCmpFunc[deliberation/api.Pair]", by decide, Tryz.func143.trans (congrArg some (by kernel_rfl))⟩
 f24 := ⟨ "slices.reverseRangeCmpFunc[deliberation/api.Pair]", by decide, Tryz.func144.trans (congrArg some (by kernel_rfl))⟩
 f25 := ⟨ "slices.partialInsertionSortCmpFunc[deliberation/api.Pair]", by decide, Tryz.func145.trans (congrArg some (by kernel_rfl))⟩
 f26 := ⟨ "slices.partitionEqualCmpFunc[deliberation/api.Pair]", by decide, Tryz.func146.trans (congrArg some (by kernel_rfl))⟩
 f27 := ⟨ "slices.partitionCmpFunc[deliberation/api.Pair]", by decide, Tryz.func147.trans (congrArg some (by kernel_rfl))⟩
 f28 := Tryz.func148.trans (congrArg some (by kernel_rfl))
 f29 := Tryz.func149.trans (congrArg some (by kernel_rfl))
 f46 := ⟨ "slices.siftDownCmpFunc[deliberation/api.Pair]", by decide, Tryz.func154.trans (congrArg some (by kernel_rfl))⟩
 f47 := Tryz.func155.trans (congrArg some (by kernel_rfl))
 f48 := Tryz.func156.trans (congrArg some (by kernel_rfl))
 f49 := ⟨ "slices.medianAdjacentCmpFunc[deliberation/api.Pair]", by decide, Tryz.func157.trans (congrArg some (by kernel_rfl))⟩
 f50 := ⟨ "slices.medianCmpFunc[deliberation/api.Pair]", by decide, Tryz.func158.trans (congrArg some (by kernel_rfl))⟩
 f57 := ⟨ "slices.order2CmpFunc[deliberation/api.Pair]", by decide, Tryz.func169.trans (congrArg some (by kernel_rfl))⟩
 t0 := Tryz.underlying0
 a0 := Tryz.isAgg0
 z0 := Tryz.sizeOf0
 v0 := Tryz.zeroValue0
 t3 := Tryz.underlying3
 a3 := Tryz.isAgg3
 z3 := Tryz.sizeOf3
 v3 := Tryz.zeroValue3
 t4 := Tryz.underlying4
 a4 := Tryz.isAgg4
 z4 := Tryz.sizeOf4
 v4 := Tryz.zeroValue4
 t5 := Tryz.underlying5
 a5 := Tryz.isAgg5
 z5 := Tryz.sizeOf5
 v5 := Tryz.zeroValue5
 t9 := Tryz.underlying9
 a9 := Tryz.isAgg9
 z9 := Tryz.sizeOf9
 v9 := Tryz.zeroValue9
 t22 := Tryz.underlying22
 a22 := Tryz.isAgg22
 z22 := Tryz.sizeOf22
 v22 := Tryz.zeroValue22
 t25 := Tryz.underlying104
 a25 := Tryz.isAgg104
 z25 := Tryz.sizeOf104
 v25 := Tryz.zeroValue104
 t39 := Tryz.underlying125
 a39 := Tryz.isAgg125
 z39 := Tryz.sizeOf125
 v39 := Tryz.zeroValue125
 t45 := Tryz.underlying157
 a45 := Tryz.isAgg157
 z45 := Tryz.sizeOf157
 v45 := Tryz.zeroValue157
 t46 := Tryz.underlying158
 a46 := Tryz.isAgg158
 z46 := Tryz.sizeOf158
 v46 := Tryz.zeroValue158
 t50 := Tryz.underlying130
 a50 := Tryz.isAgg130
 z50 := Tryz.sizeOf130
 v50 := Tryz.zeroValue130
 t53 := Tryz.underlying136
 a53 := Tryz.isAgg136
 z53 := Tryz.sizeOf136
 v53 := Tryz.zeroValue136
 t55 := Tryz.underlying121
 a55 := Tryz.isAgg121
 z55 := Tryz.sizeOf121
 v55 := Tryz.zeroValue121
 t66 := Tryz.underlying166
 a66 := Tryz.isAgg166
 z66 := Tryz.sizeOf166
 v66 := Tryz.zeroValue166
 t70 := Tryz.underlying170
 a70 := Tryz.isAgg170
 z70 := Tryz.sizeOf170
 v70 := Tryz.zeroValue170
 t76 := Tryz.underlying180
 a76 := Tryz.isAgg180
 z76 := Tryz.sizeOf180
 v76 := Tryz.zeroValue180
 t77 := Tryz.underlying106
 a77 := Tryz.isAgg106
 z77 := Tryz.sizeOf106
 v77 := Tryz.zeroValue106

def tz29_ren : Ren := ⟨fun | 29 => 126 | n => n, fun | 22 => 121 | 3 => 3 | 4 => 4 | 25 => 125 | 54 => 155 | 0 => 0 | 5 => 5 | n => n, fun | 1 => 0 | n => n⟩
theorem tz29 : Lays7.n29 prog tz29_ren where
 mixed := by kernel_rfl
 f29 := Tryz.func126.trans (congrArg some (by kernel_rfl))
 t0 := Tryz.underlying0
 a0 := Tryz.isAgg0
 z0 := Tryz.sizeOf0
 v0 := Tryz.zeroValue0
 i0 := by kernel_rfl
 t3 := Tryz.underlying3
 a3 := Tryz.isAgg3
 z3 := Tryz.sizeOf3
 v3 := Tryz.zeroValue3
 i3 := by kernel_rfl
 t4 := Tryz.underlying4
 a4 := Tryz.isAgg4
 z4 := Tryz.sizeOf4
 v4 := Tryz.zeroValue4
 i4 := by kernel_rfl
 t5 := Tryz.underlying5
 a5 := Tryz.isAgg5
 z5 := Tryz.sizeOf5
 v5 := Tryz.zeroValue5
 i5 := by kernel_rfl
 t22 := Tryz.underlying121
 a22 := Tryz.isAgg121
 z22 := Tryz.sizeOf121
 v22 := Tryz.zeroValue121
 i22 := by kernel_rfl
 t25 := Tryz.underlying125
 a25 := Tryz.isAgg125
 z25 := Tryz.sizeOf125
 v25 := Tryz.zeroValue125
 i25 := by kernel_rfl
 t54 := Tryz.underlying155
 a54 := Tryz.isAgg155
 z54 := Tryz.sizeOf155
 g1 := by kernel_rfl

theorem extB : Builder.Extra prog bs169_ren where
 sizeBuilder := by kernel_rfl
 liesBuilder := by kernel_rfl
 t5 := Tryz.underlying5
 a5 := Tryz.isAgg5
 z5 := Tryz.sizeOf5
 v5 := Tryz.zeroValue5
 infoByte := by kernel_rfl
 cellsByte := by kernel_rfl
 sizeByte := by kernel_rfl
 neB5 := by decide

set_option maxHeartbeats 1000000 in
set_option maxRecDepth 100000 in
theorem copyCheck_used (b : Nat) (w : World) (h0 : w.cell? ⟨b, 0, none⟩ = some (.pointer (some ⟨b, 0, none⟩))) :
  Calls prog 151 #[.pointer (some ⟨b, 0, none⟩)] w fun e w' => e = .returned (.tuple #[]) ∧ w' = w := by
 obtain ⟨j, hj, _⟩ := Option.map_eq_some_iff.1 extB.sizeBuilder
 go_enter Tryz.func151, Tryz.ntmps151
 go_wp2
 rw [Lib.run_neq_ptr_same w _ Tryz.underlying143 hj]
 go_wp2
 go_end0
 exact ⟨rfl, rfl⟩

set_option maxHeartbeats 1000000 in
set_option maxRecDepth 100000 in
theorem copyCheck_fresh (b : Nat) (w : World) (h0 : w.cell? ⟨b, 0, none⟩ = some (.pointer none)) (hsh : w.shape? b = some (146, 2)) (hfz : w.frozen? ⟨b, 0, none⟩ = false) :
  Calls prog 151 #[.pointer (some ⟨b, 0, none⟩)] w fun e w' => e = .returned (.tuple #[]) ∧ w' = w.setCell ⟨b, 0, none⟩ (.pointer (some ⟨b, 0, none⟩)) := by
 obtain ⟨j, hj, hjs⟩ := Option.map_eq_some_iff.1 extB.sizeBuilder
 go_enter Tryz.func151, Tryz.ntmps151
 go_wp2
 rw [Lib.run_to_unsafe w ⟨b, 0, none⟩ Tryz.underlying143 Tryz.underlying177 hj (by rw [hjs]; decide) hsh (Nat.zero_lt_succ 1)]
 simp only [Result.andThen]
 rw [Oper.upon_value]
 go_wp2
 rw [run_callFunc_extern Tryz.func167 (by kernel_rfl) (by kernel_rfl) (by kernel_rfl) (e := Extern.AbiNoEscape.same) (by kernel_rfl)]
 rw [Lib.run_noEscape]
 simp only [Result.andThen]
 rw [Oper.upon_value]
 go_wp2
 rw [Lib.run_from_unsafe w ⟨b, 0, none⟩ Tryz.underlying177 Tryz.underlying143 hj hsh extB.liesBuilder]
 simp only [Result.andThen]
 rw [Oper.upon_value]
 go_wp2
 go_end0
 exact ⟨rfl, rfl⟩

theorem copyCheck_k (B b : Nat) (bs : List Value) (w : World) (h : Lib.IsBuilderF 146 5 B b bs w) :
  Calls prog 151 #[.pointer (some ⟨b, 0, none⟩)] w fun e w' => e = .returned (.tuple #[]) ∧ (Lib.BuilderAtF 146 5 B b (.pointer (some ⟨b, 0, none⟩)) bs w' ∧ Below B w w') := by
 rcases h with h | h
 ·refine (copyCheck_fresh b w h.cell0 h.shape h.frozen0).mono ?_
  rintro e w' ⟨rfl, rfl⟩
  exact ⟨rfl, h.used _, (Below.refl B w).setCell (p := ⟨b, 0, none⟩) h.1 _⟩
 ·refine (copyCheck_used b w h.cell0).mono ?_
  rintro e w' ⟨rfl, rfl⟩
  exact ⟨rfl, h, Below.refl B _⟩

set_option maxHeartbeats 2000000 in
set_option maxRecDepth 100000 in
theorem bldB (B b : Nat) (bs : List Value) (c : Int) (w : World) (h : Lib.IsBuilderF 146 5 B b bs w) (hlen : bs.length + 1 ≤ 140737488355328) (hBw : B ≤ w.heap.size) :
  Calls prog 136 #[.pointer (some ⟨b, 0, none⟩), .int .u8 c] w fun e w' => e = .returned .nilIface ∧ (Lib.BuilderAtF 146 5 B b (.pointer (some ⟨b, 0, none⟩)) (bs ++ [.int .u8 c]) w' ∧ Below B w w') := by
 obtain ⟨i0, hi, hz0, hz1, hz2⟩ := info_parts extB.infoByte
 go_enter Tryz.func136, Tryz.ntmps136
 go_wp2_with (go_at_call 151; refine (copyCheck_k B b bs _ h).mono ?_)
 rintro e w1 ⟨rfl, h1, hb1⟩
 obtain ⟨hB, v, hbk, hown, hne⟩ := h1
 have c0 : w1.cell? ⟨b, 0, none⟩ = some (.pointer (some ⟨b, 0, none⟩)) := by rw [Lib.cell_of_heap hbk]; rfl
 have c1 : w1.cell? ⟨b, 1, none⟩ = some v := by rw [Lib.cell_of_heap hbk]; rfl
 go_wp2_with (at_builtin; refine wpList_append_ownF _ rfl _ _ 144 rfl B 5 i0 (.int .u8 0) 1 1 Tryz.underlying144 hi hz0 hz1 hz2 rfl (by decide) _ _ _ rfl (hown.alloc _) ⟨w1.heap.size, 0, none⟩ 1 1 [.int .u8 c] rfl rfl ?c1 ?c2 ?c3 ?c4 ?c5 ?_)
 case c1 =>
  intro j u hj
  match j, hj with
  | 0, hj => simp at hj; subst hj; simp [Addr.add]
 case c2 => intro u hu; simp at hu; subst hu; rfl
 case c3 => unfold maxLen; omega
 case c4 => omega
 case c5 => have := hb1.size; simp; omega
 intro v' w2 hown' hgrow _
 have hlt : b < w1.heap.size := by
  rcases Nat.lt_or_ge b w1.heap.size with h' | h'
  ·exact h'
  ·simp [Array.getElem?_eq_none h'] at hbk
 have hb2 : w2.heap[b]? = some (.cells #[.pointer (some ⟨b, 0, none⟩), v] 146 (0, 0)) := by
  rw [hgrow.block b (by simp; omega) (fun e => hne e.symm), Lib.alloc_old w1 _ b hlt]
  exact hbk
 have d0 : w2.cell? ⟨b, 0, none⟩ = some (.pointer (some ⟨b, 0, none⟩)) := by rw [Lib.cell_of_heap hb2]; rfl
 have d1 : w2.cell? ⟨b, 1, none⟩ = some v := by rw [Lib.cell_of_heap hb2]; rfl
 have f1 : w2.frozen? ⟨b, 1, none⟩ = false := Lib.frozen_of_heap hb2 1
 obtain ⟨g, cap, rfl⟩ : ∃ g cap, v' = .slice (some ⟨g, 0, none⟩) (bs.length + 1) cap := by
  rcases hown'.2 with ⟨_, h0⟩ | ⟨g, cap, cur, fz, hv, _⟩
  ·omega
  ·exact ⟨g, cap, hv⟩
 go_wp2
 go_ret
 refine ⟨rfl, ?_, ?_⟩
 ·exact Lib.BuilderAtF.put (T := 146) (e := 5) hB hb2 (bs' := bs ++ [.int .u8 c]) (by simpa using hown') extB.neB5
 ·exact ((hb1.alloc (by have := hb1.size; omega) _).grown hgrow (by have := hb1.size; simp; omega) (fun k hk => (hown.lt k hk).1)).setCell (p := ⟨b, 1, none⟩) hB _

set_option maxHeartbeats 2000000 in
set_option maxRecDepth 100000 in
theorem bldS (B b : Nat) (bs : List Value) (s : ByteArray) (w : World) (h : Lib.IsBuilderF 146 5 B b bs w) (hlen : bs.length + s.size ≤ 140737488355328) (hBw : B ≤ w.heap.size) :
  Calls prog 134 #[.pointer (some ⟨b, 0, none⟩), .string s] w fun e w' => e = .returned (.tuple #[.int .i64 s.size, .nilIface]) ∧ (Lib.BuilderAtF 146 5 B b (.pointer (some ⟨b, 0, none⟩)) (bs ++ Lib.strCells s) w' ∧ Below B w w') := by
 obtain ⟨i0, hi, hz0, hz1, hz2⟩ := info_parts extB.infoByte
 go_enter Tryz.func134, Tryz.ntmps134
 go_wp2_with (go_at_call 151; refine (copyCheck_k B b bs _ h).mono ?_)
 rintro e w1 ⟨rfl, h1, hb1⟩
 obtain ⟨hB, v, hbk, hown, hne⟩ := h1
 have c0 : w1.cell? ⟨b, 0, none⟩ = some (.pointer (some ⟨b, 0, none⟩)) := by rw [Lib.cell_of_heap hbk]; rfl
 have c1 : w1.cell? ⟨b, 1, none⟩ = some v := by rw [Lib.cell_of_heap hbk]; rfl
 go_wp2_with (at_builtin; refine Lib.wpList_append_own_stringF _ rfl _ _ 144 9 rfl B 5 i0 Tryz.underlying144 Tryz.underlying9 hi hz0 hz1 hz2 _ _ _ rfl hown s rfl ?c3 ?c4 ?c5 ?_)
 case c3 => unfold maxLen; omega
 case c4 => omega
 case c5 => have := hb1.size; omega
 intro v' w2 hown' hgrow _
 have hlt : b < w1.heap.size := by
  rcases Nat.lt_or_ge b w1.heap.size with h' | h'
  ·exact h'
  ·simp [Array.getElem?_eq_none h'] at hbk
 have hb2 : w2.heap[b]? = some (.cells #[.pointer (some ⟨b, 0, none⟩), v] 146 (0, 0)) := by
  rw [hgrow.block b hlt (fun e => hne e.symm)]
  exact hbk
 have d0 : w2.cell? ⟨b, 0, none⟩ = some (.pointer (some ⟨b, 0, none⟩)) := by rw [Lib.cell_of_heap hb2]; rfl
 have d1 : w2.cell? ⟨b, 1, none⟩ = some v := by rw [Lib.cell_of_heap hb2]; rfl
 have f1 : w2.frozen? ⟨b, 1, none⟩ = false := Lib.frozen_of_heap hb2 1
 obtain ⟨ao, n', cap, rfl⟩ : ∃ ao n' cap, v' = .slice ao n' cap := by
  rcases hown'.2 with ⟨hv, _⟩ | ⟨g, cap, cur, fz, hv, _⟩
  ·exact ⟨_, _, _, hv⟩
  ·exact ⟨_, _, _, hv⟩
 go_wp2
 go_ret2
 refine ⟨rfl, ?_, ?_⟩
 ·exact Lib.BuilderAtF.put (T := 146) (e := 5) hB hb2 (bs' := bs ++ Lib.strCells s) (by simpa [Lib.strCells_length] using hown') extB.neB5
 ·exact (hb1.grown hgrow (by have := hb1.size; omega) (fun k hk => (hown.lt k hk).1)).setCell (p := ⟨b, 1, none⟩) hB _

theorem bldG (B b : Nat) (l : List UInt8) (w : World) (h : Lib.IsBuilderF 146 5 B b (Lib.byteCells l) w) (hBw : B ≤ w.heap.size) :
  Calls prog 137 #[.pointer (some ⟨b, 0, none⟩)] w fun e w' => e = .returned (.string ⟨l.toArray⟩) ∧ (Lib.IsBuilderF 146 5 B b (Lib.byteCells l) w' ∧ Below B w w' ∧ Lib.OthersKept 5 (some b) w w') := Any.Builder_String_any_k bs169 extB B b l w h hBw
theorem itoaC (n : Int) (h0 : -9223372036854775808 ≤ n) (h1 : n ≤ 9223372036854775807) (w : World) (htab : Lib.TabIs prog w "internal/strconv.uint64pow10" .u64 Lib.pow10Tab) :
  Calls prog 135 #[.int .i64 n] w fun e w' => e = .returned (.string ⟨(Lib.itoa n).toArray⟩) ∧ ∃ k os, w' = Sort.grow (w.drewN k) os := Any.strconv_Itoa it171 n h0 h1 w htab
theorem slices_Compact_ok [DrawMode] {s_0 r : List Int} (hm : compactM s_0 = some r) {h_0 : Value × List Nat} :
  FnOk prog 133 [pv h_0.1] [oa (rI .i64) h_0.1 h_0.2 s_0] (fun x : Value × List Nat => [pv x.1]) (fun x : Value × List Nat => [oa (rI .i64) x.1 x.2 r]) :=
 compact_fn (fun w blk off cap zs h1 h2 h3 => Any.slices_Compact_int compA blk off cap zs w h1 h2 h3) (fun a cap w => Any.slices_Compact_int_empty compA a cap w) compact_len hm
end Go.Dc
