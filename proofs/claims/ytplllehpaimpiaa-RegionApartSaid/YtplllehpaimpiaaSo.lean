/- slices.SortFunc at this program: the numbers of its family, and that these are its bodies. -/
import Derived.Test.YtplllehpaimpiaaSq
import Derived.Test.YtplllehpaimpiaaV
set_option maxRecDepth 100000
set_option maxHeartbeats 4000000
namespace Go.Proofs.Ytplllehpaimpiaa
open Go Go.Jac Go.Shelf
def sRen : Ren := ⟨fun | 6 => 39 | 15 => 45 | 14 => 44 | 28 => 55 | 29 => 56 | 20 => 47 | 21 => 48 | 22 => 49 | 23 => 50 | 24 => 51 | 25 => 52 | 26 => 53 | 27 => 54 | 46 => 57 | 47 => 58 | 48 => 59 | 49 => 60 | 50 => 61 | 57 => 62 | n => n, fun | 22 => 22 | 24 => 27 | 25 => 67 | 3 => 3 | 39 => 73 | 0 => 0 | 53 => 93 | 55 => 95 | 4 => 4 | 46 => 87 | 45 => 86 | 50 => 55 | 5 => 5 | 9 => 9 | 66 => 96 | 70 => 100 | 76 => 102 | 77 => 103 | n => n, fun n => n⟩
theorem sLay : SlLaysF0.n6 Try.prog sRen where
  mixed := by kernel_rfl
  f6 := ⟨"slices.SortFunc[[]jacinth/region.Piece,jacinth/region.Piece]", by decide, Try.func39.trans (congrArg some (by kernel_rfl))⟩
  f14 := ⟨"slices.pdqsortCmpFunc[jacinth/region.Piece]", by decide, Try.func44.trans (congrArg some (by kernel_rfl))⟩
  f15 := Try.func45.trans (congrArg some (by kernel_rfl))
  f20 := ⟨"slices.insertionSortCmpFunc[jacinth/region.Piece]", by decide, Try.func47.trans (congrArg some (by kernel_rfl))⟩
  f21 := ⟨"slices.heapSortCmpFunc[jacinth/region.Piece]", by decide, Try.func48.trans (congrArg some (by kernel_rfl))⟩
  f22 := ⟨"slices.breakPatternsCmpFunc[jacinth/region.Piece]", by decide, Try.func49.trans (congrArg some (by kernel_rfl))⟩
  f23 := ⟨"slices.choosePivotCmpFunc[jacinth/region.Piece]", by decide, Try.func50.trans (congrArg some (by kernel_rfl))⟩
  f24 := ⟨"slices.reverseRangeCmpFunc[jacinth/region.Piece]", by decide, Try.func51.trans (congrArg some (by kernel_rfl))⟩
  f25 := ⟨"slices.partialInsertionSortCmpFunc[jacinth/region.Piece]", by decide, Try.func52.trans (congrArg some (by kernel_rfl))⟩
  f26 := ⟨"slices.partitionEqualCmpFunc[jacinth/region.Piece]", by decide, Try.func53.trans (congrArg some (by kernel_rfl))⟩
  f27 := ⟨"slices.partitionCmpFunc[jacinth/region.Piece]", by decide, Try.func54.trans (congrArg some (by kernel_rfl))⟩
  f28 := Try.func55.trans (congrArg some (by kernel_rfl))
  f29 := Try.func56.trans (congrArg some (by kernel_rfl))
  f46 := ⟨"slices.siftDownCmpFunc[jacinth/region.Piece]", by decide, Try.func57.trans (congrArg some (by kernel_rfl))⟩
  f47 := Try.func58.trans (congrArg some (by kernel_rfl))
  f48 := Try.func59.trans (congrArg some (by kernel_rfl))
  f49 := ⟨"slices.medianAdjacentCmpFunc[jacinth/region.Piece]", by decide, Try.func60.trans (congrArg some (by kernel_rfl))⟩
  f50 := ⟨"slices.medianCmpFunc[jacinth/region.Piece]", by decide, Try.func61.trans (congrArg some (by kernel_rfl))⟩
  f57 := ⟨"slices.order2CmpFunc[jacinth/region.Piece]", by decide, Try.func62.trans (congrArg some (by kernel_rfl))⟩
  t0 := Try.underlying0
  a0 := Try.isAgg0
  z0 := Try.sizeOf0
  v0 := Try.zeroValue0
  t3 := Try.underlying3
  a3 := Try.isAgg3
  z3 := Try.sizeOf3
  v3 := Try.zeroValue3
  t4 := Try.underlying4
  a4 := Try.isAgg4
  z4 := Try.sizeOf4
  v4 := Try.zeroValue4
  t5 := Try.underlying5
  a5 := Try.isAgg5
  z5 := Try.sizeOf5
  v5 := Try.zeroValue5
  t9 := Try.underlying9
  a9 := Try.isAgg9
  z9 := Try.sizeOf9
  v9 := Try.zeroValue9
  t22 := Try.underlying22
  a22 := Try.isAgg22
  z22 := Try.sizeOf22
  v22 := Try.zeroValue22
  t25 := Try.underlying67
  a25 := Try.isAgg67
  z25 := Try.sizeOf67
  v25 := Try.zeroValue67
  t39 := Try.underlying73
  a39 := Try.isAgg73
  z39 := Try.sizeOf73
  v39 := Try.zeroValue73
  t45 := Try.underlying86
  a45 := Try.isAgg86
  z45 := Try.sizeOf86
  v45 := Try.zeroValue86
  t46 := Try.underlying87
  a46 := Try.isAgg87
  z46 := Try.sizeOf87
  v46 := Try.zeroValue87
  t50 := Try.underlying55
  a50 := Try.isAgg55
  z50 := Try.sizeOf55
  v50 := Try.zeroValue55
  t53 := Try.underlying93
  a53 := Try.isAgg93
  z53 := Try.sizeOf93
  v53 := Try.zeroValue93
  t55 := Try.underlying95
  a55 := Try.isAgg95
  z55 := Try.sizeOf95
  v55 := Try.zeroValue95
  t66 := Try.underlying96
  a66 := Try.isAgg96
  z66 := Try.sizeOf96
  v66 := Try.zeroValue96
  t70 := Try.underlying100
  a70 := Try.isAgg100
  z70 := Try.sizeOf100
  v70 := Try.zeroValue100
  t76 := Try.underlying102
  a76 := Try.isAgg102
  z76 := Try.sizeOf102
  v76 := Try.zeroValue102
  t77 := Try.underlying103
  a77 := Try.isAgg103
  z77 := Try.sizeOf103
  v77 := Try.zeroValue103
theorem sAgg : ∀ w, (isAgg (sRen.t 24)).run Try.prog w = .ok true w := Try.isAgg27
theorem sSize : ∀ w, (Go.sizeOf (sRen.t 24)).run Try.prog w = .ok 5 w := Try.sizeOf27
theorem sRoot : sRen.f 6 = 39 := rfl
end Go.Proofs.Ytplllehpaimpiaa
