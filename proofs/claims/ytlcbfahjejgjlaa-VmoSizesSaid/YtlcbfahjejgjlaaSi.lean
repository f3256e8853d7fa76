/- slices.Sort over numbers at this program: the numbers of its family, and that these are its bodies. -/
import Derived.Test.YtlcbfahjejgjlaaSj
import Derived.Test.YtlcbfahjejgjlaaV
set_option maxRecDepth 100000
set_option maxHeartbeats 4000000
namespace Go.Proofs.Ytlcbfahjejgjlaa
open Go Go.Jac Go.Shelf
def iRen : Ren := ⟨fun | 53 => 57 | 64 => 65 | 63 => 64 | 78 => 75 | 79 => 76 | 70 => 66 | 71 => 67 | 72 => 68 | 73 => 69 | 74 => 70 | 75 => 71 | 59 => 72 | 76 => 73 | 77 => 74 | 88 => 77 | 89 => 78 | 90 => 79 | 91 => 80 | 92 => 81 | 68 => 82 | 96 => 83 | n => n, fun | 22 => 49 | 23 => 3 | 3 => 3 | 51 => 106 | 0 => 0 | 67 => 116 | 69 => 118 | 4 => 4 | 61 => 109 | 60 => 108 | 44 => 72 | 5 => 5 | 9 => 9 | 75 => 119 | 79 => 123 | 83 => 125 | 84 => 126 | n => n, fun n => n⟩
theorem iLay : SlLaysN.n53 Try.prog iRen where
  mixed := by kernel_rfl
  f53 := ⟨"slices.Sort[[]int,int]", by decide, Try.func57.trans (congrArg some (by kernel_rfl))⟩
  f59 := ⟨"cmp.Less[int]", by decide, Try.func72.trans (congrArg some (by kernel_rfl))⟩
  f63 := ⟨"slices.pdqsortOrdered[int]", by decide, Try.func64.trans (congrArg some (by kernel_rfl))⟩
  f64 := Try.func65.trans (congrArg some (by kernel_rfl))
  f68 := ⟨"cmp.isNaN[int]", by decide, Try.func82.trans (congrArg some (by kernel_rfl))⟩
  f70 := ⟨"slices.insertionSortOrdered[int]", by decide, Try.func66.trans (congrArg some (by kernel_rfl))⟩
  f71 := ⟨"slices.heapSortOrdered[int]", by decide, Try.func67.trans (congrArg some (by kernel_rfl))⟩
  f72 := ⟨"slices.breakPatternsOrdered[int]", by decide, Try.func68.trans (congrArg some (by kernel_rfl))⟩
  f73 := ⟨"slices.choosePivotOrdered[int]", by decide, Try.func69.trans (congrArg some (by kernel_rfl))⟩
  f74 := ⟨"slices.reverseRangeOrdered[int]", by decide, Try.func70.trans (congrArg some (by kernel_rfl))⟩
  f75 := ⟨"slices.partialInsertionSortOrdered[int]", by decide, Try.func71.trans (congrArg some (by kernel_rfl))⟩
  f76 := ⟨"slices.partitionEqualOrdered[int]", by decide, Try.func73.trans (congrArg some (by kernel_rfl))⟩
  f77 := ⟨"slices.partitionOrdered[int]", by decide, Try.func74.trans (congrArg some (by kernel_rfl))⟩
  f78 := Try.func75.trans (congrArg some (by kernel_rfl))
  f79 := Try.func76.trans (congrArg some (by kernel_rfl))
  f88 := ⟨"slices.siftDownOrdered[int]", by decide, Try.func77.trans (congrArg some (by kernel_rfl))⟩
  f89 := Try.func78.trans (congrArg some (by kernel_rfl))
  f90 := Try.func79.trans (congrArg some (by kernel_rfl))
  f91 := ⟨"slices.medianAdjacentOrdered[int]", by decide, Try.func80.trans (congrArg some (by kernel_rfl))⟩
  f92 := ⟨"slices.medianOrdered[int]", by decide, Try.func81.trans (congrArg some (by kernel_rfl))⟩
  f96 := ⟨"slices.order2Ordered[int]", by decide, Try.func83.trans (congrArg some (by kernel_rfl))⟩
  t0 := Try.underlying0
  a0 := Try.isAgg0
  z0 := Try.sizeOf0
  v0 := Try.zeroValue0
  t3 := Try.underlying3
  a3 := Try.isAgg3
  z3 := Try.sizeOf3
  v3 := Try.zeroValue3
  t4 := Try.underlying4
  a4 := Try.isAgg4
  z4 := Try.sizeOf4
  v4 := Try.zeroValue4
  t5 := Try.underlying5
  a5 := Try.isAgg5
  z5 := Try.sizeOf5
  v5 := Try.zeroValue5
  t9 := Try.underlying9
  a9 := Try.isAgg9
  z9 := Try.sizeOf9
  v9 := Try.zeroValue9
  t22 := Try.underlying49
  a22 := Try.isAgg49
  z22 := Try.sizeOf49
  v22 := Try.zeroValue49
  t23 := Try.underlying3
  a23 := Try.isAgg3
  z23 := Try.sizeOf3
  v23 := Try.zeroValue3
  t44 := Try.underlying72
  a44 := Try.isAgg72
  z44 := Try.sizeOf72
  v44 := Try.zeroValue72
  t51 := Try.underlying106
  a51 := Try.isAgg106
  z51 := Try.sizeOf106
  v51 := Try.zeroValue106
  t60 := Try.underlying108
  a60 := Try.isAgg108
  z60 := Try.sizeOf108
  v60 := Try.zeroValue108
  t61 := Try.underlying109
  a61 := Try.isAgg109
  z61 := Try.sizeOf109
  v61 := Try.zeroValue109
  t67 := Try.underlying116
  a67 := Try.isAgg116
  z67 := Try.sizeOf116
  v67 := Try.zeroValue116
  t69 := Try.underlying118
  a69 := Try.isAgg118
  z69 := Try.sizeOf118
  v69 := Try.zeroValue118
  t75 := Try.underlying119
  a75 := Try.isAgg119
  z75 := Try.sizeOf119
  v75 := Try.zeroValue119
  t79 := Try.underlying123
  a79 := Try.isAgg123
  z79 := Try.sizeOf123
  v79 := Try.zeroValue123
  t83 := Try.underlying125
  a83 := Try.isAgg125
  z83 := Try.sizeOf125
  v83 := Try.zeroValue125
  t84 := Try.underlying126
  a84 := Try.isAgg126
  z84 := Try.sizeOf126
  v84 := Try.zeroValue126
theorem iRoot : iRen.f 53 = 57 := rfl
end Go.Proofs.Ytlcbfahjejgjlaa
