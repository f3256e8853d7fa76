/- slices.Sort over numbers at this program: the numbers of its family, and that these are its bodies. -/
import Derived.Test.YtbbenmflickapaaDoorSj
import Derived.Test.YtbbenmflickapaaDoorV
set_option maxRecDepth 100000
set_option maxHeartbeats 4000000
namespace Go.Proofs.YtbbenmflickapaaDoor
open Go Go.Jac Go.Shelf
def iRen : Ren := ⟨fun | 53 => 36 | 64 => 40 | 63 => 39 | 78 => 50 | 79 => 51 | 70 => 41 | 71 => 42 | 72 => 43 | 73 => 44 | 74 => 45 | 75 => 46 | 59 => 47 | 76 => 48 | 77 => 49 | 88 => 52 | 89 => 53 | 90 => 54 | 91 => 55 | 92 => 56 | 68 => 57 | 96 => 58 | n => n, fun | 22 => 50 | 23 => 3 | 3 => 3 | 51 => 85 | 0 => 0 | 67 => 94 | 69 => 96 | 4 => 4 | 61 => 88 | 60 => 87 | 44 => 55 | 5 => 5 | 9 => 9 | 75 => 97 | 79 => 101 | 83 => 103 | 84 => 104 | n => n, fun n => n⟩
theorem iLay : SlLaysN.n53 Tryd.prog iRen where
  mixed := by kernel_rfl
  f53 := ⟨"slices.Sort[[]int,int]", by decide, Tryd.func36.trans (congrArg some (by kernel_rfl))⟩
  f59 := ⟨"cmp.Less[int]", by decide, Tryd.func47.trans (congrArg some (by kernel_rfl))⟩
  f63 := ⟨"slices.pdqsortOrdered[int]", by decide, Tryd.func39.trans (congrArg some (by kernel_rfl))⟩
  f64 := Tryd.func40.trans (congrArg some (by kernel_rfl))
  f68 := ⟨"cmp.isNaN[int]", by decide, Tryd.func57.trans (congrArg some (by kernel_rfl))⟩
  f70 := ⟨"slices.insertionSortOrdered[int]", by decide, Tryd.func41.trans (congrArg some (by kernel_rfl))⟩
  f71 := ⟨"slices.heapSortOrdered[int]", by decide, Tryd.func42.trans (congrArg some (by kernel_rfl))⟩
  f72 := ⟨"slices.breakPatternsOrdered[int]", by decide, Tryd.func43.trans (congrArg some (by kernel_rfl))⟩
  f73 := ⟨"slices.choosePivotOrdered[int]", by decide, Tryd.func44.trans (congrArg some (by kernel_rfl))⟩
  f74 := ⟨"slices.reverseRangeOrdered[int]", by decide, Tryd.func45.trans (congrArg some (by kernel_rfl))⟩
  f75 := ⟨"slices.partialInsertionSortOrdered[int]", by decide, Tryd.func46.trans (congrArg some (by kernel_rfl))⟩
  f76 := ⟨"slices.partitionEqualOrdered[int]", by decide, Tryd.func48.trans (congrArg some (by kernel_rfl))⟩
  f77 := ⟨"slices.partitionOrdered[int]", by decide, Tryd.func49.trans (congrArg some (by kernel_rfl))⟩
  f78 := Tryd.func50.trans (congrArg some (by kernel_rfl))
  f79 := Tryd.func51.trans (congrArg some (by kernel_rfl))
  f88 := ⟨"slices.siftDownOrdered[int]", by decide, Tryd.func52.trans (congrArg some (by kernel_rfl))⟩
  f89 := Tryd.func53.trans (congrArg some (by kernel_rfl))
  f90 := Tryd.func54.trans (congrArg some (by kernel_rfl))
  f91 := ⟨"slices.medianAdjacentOrdered[int]", by decide, Tryd.func55.trans (congrArg some (by kernel_rfl))⟩
  f92 := ⟨"slices.medianOrdered[int]", by decide, Tryd.func56.trans (congrArg some (by kernel_rfl))⟩
  f96 := ⟨"slices.order2Ordered[int]", by decide, Tryd.func58.trans (congrArg some (by kernel_rfl))⟩
  t0 := Tryd.underlying0
  a0 := Tryd.isAgg0
  z0 := Tryd.sizeOf0
  v0 := Tryd.zeroValue0
  t3 := Tryd.underlying3
  a3 := Tryd.isAgg3
  z3 := Tryd.sizeOf3
  v3 := Tryd.zeroValue3
  t4 := Tryd.underlying4
  a4 := Tryd.isAgg4
  z4 := Tryd.sizeOf4
  v4 := Tryd.zeroValue4
  t5 := Tryd.underlying5
  a5 := Tryd.isAgg5
  z5 := Tryd.sizeOf5
  v5 := Tryd.zeroValue5
  t9 := Tryd.underlying9
  a9 := Tryd.isAgg9
  z9 := Tryd.sizeOf9
  v9 := Tryd.zeroValue9
  t22 := Tryd.underlying50
  a22 := Tryd.isAgg50
  z22 := Tryd.sizeOf50
  v22 := Tryd.zeroValue50
  t23 := Tryd.underlying3
  a23 := Tryd.isAgg3
  z23 := Tryd.sizeOf3
  v23 := Tryd.zeroValue3
  t44 := Tryd.underlying55
  a44 := Tryd.isAgg55
  z44 := Tryd.sizeOf55
  v44 := Tryd.zeroValue55
  t51 := Tryd.underlying85
  a51 := Tryd.isAgg85
  z51 := Tryd.sizeOf85
  v51 := Tryd.zeroValue85
  t60 := Tryd.underlying87
  a60 := Tryd.isAgg87
  z60 := Tryd.sizeOf87
  v60 := Tryd.zeroValue87
  t61 := Tryd.underlying88
  a61 := Tryd.isAgg88
  z61 := Tryd.sizeOf88
  v61 := Tryd.zeroValue88
  t67 := Tryd.underlying94
  a67 := Tryd.isAgg94
  z67 := Tryd.sizeOf94
  v67 := Tryd.zeroValue94
  t69 := Tryd.underlying96
  a69 := Tryd.isAgg96
  z69 := Tryd.sizeOf96
  v69 := Tryd.zeroValue96
  t75 := Tryd.underlying97
  a75 := Tryd.isAgg97
  z75 := Tryd.sizeOf97
  v75 := Tryd.zeroValue97
  t79 := Tryd.underlying101
  a79 := Tryd.isAgg101
  z79 := Tryd.sizeOf101
  v79 := Tryd.zeroValue101
  t83 := Tryd.underlying103
  a83 := Tryd.isAgg103
  z83 := Tryd.sizeOf103
  v83 := Tryd.zeroValue103
  t84 := Tryd.underlying104
  a84 := Tryd.isAgg104
  z84 := Tryd.sizeOf104
  v84 := Tryd.zeroValue104
theorem iRoot : iRen.f 53 = 36 := rfl
end Go.Proofs.YtbbenmflickapaaDoor
