/- slices.SortFunc at this program: the numbers of its family, and that these are its bodies. -/
import Derived.Test.YthpkkbmiockloaaSq
import Derived.Test.YthpkkbmiockloaaV
set_option maxRecDepth 100000
set_option maxHeartbeats 4000000
namespace Go.Proofs.Ythpkkbmiockloaa
open Go Go.Jac Go.Shelf
def sRen : Ren := ⟨fun | 6 => 31 | 15 => 37 | 14 => 36 | 28 => 47 | 29 => 48 | 20 => 39 | 21 => 40 | 22 => 41 | 23 => 42 | 24 => 43 | 25 => 44 | 26 => 45 | 27 => 46 | 46 => 49 | 47 => 50 | 48 => 51 | 49 => 52 | 50 => 53 | 57 => 54 | n => n, fun | 22 => 58 | 24 => 62 | 25 => 68 | 3 => 3 | 39 => 78 | 0 => 0 | 53 => 88 | 55 => 90 | 4 => 4 | 46 => 82 | 45 => 81 | 50 => 35 | 5 => 5 | 9 => 9 | 66 => 91 | 70 => 95 | 76 => 97 | 77 => 98 | n => n, fun n => n⟩
theorem sLay : SlLaysF0.n6 Try.prog sRen where
  mixed := by kernel_rfl
  f6 := ⟨"slices.SortFunc[[]jacinth/timer.entry,jacinth/timer.entry]", by decide, Try.func31.trans (congrArg some (by kernel_rfl))⟩
  f14 := ⟨"slices.pdqsortCmpFunc[jacinth/timer.entry]", by decide, Try.func36.trans (congrArg some (by kernel_rfl))⟩
  f15 := Try.func37.trans (congrArg some (by kernel_rfl))
  f20 := ⟨"slices.insertionSortCmpFunc[jacinth/timer.entry]", by decide, Try.func39.trans (congrArg some (by kernel_rfl))⟩
  f21 := ⟨"slices.heapSortCmpFunc[jacinth/timer.entry]", by decide, Try.func40.trans (congrArg some (by kernel_rfl))⟩
  f22 := ⟨"slices.breakPatternsCmpFunc[jacinth/timer.entry]", by decide, Try.func41.trans (congrArg some (by kernel_rfl))⟩
  f23 := ⟨"slices.choosePivotCmpFunc[jacinth/timer.entry]", by decide, Try.func42.trans (congrArg some (by kernel_rfl))⟩
  f24 := ⟨"slices.reverseRangeCmpFunc[jacinth/timer.entry]", by decide, Try.func43.trans (congrArg some (by kernel_rfl))⟩
  f25 := ⟨"slices.partialInsertionSortCmpFunc[jacinth/timer.entry]", by decide, Try.func44.trans (congrArg some (by kernel_rfl))⟩
  f26 := ⟨"slices.partitionEqualCmpFunc[jacinth/timer.entry]", by decide, Try.func45.trans (congrArg some (by kernel_rfl))⟩
  f27 := ⟨"slices.partitionCmpFunc[jacinth/timer.entry]", by decide, Try.func46.trans (congrArg some (by kernel_rfl))⟩
  f28 := Try.func47.trans (congrArg some (by kernel_rfl))
  f29 := Try.func48.trans (congrArg some (by kernel_rfl))
  f46 := ⟨"slices.siftDownCmpFunc[jacinth/timer.entry]", by decide, Try.func49.trans (congrArg some (by kernel_rfl))⟩
  f47 := Try.func50.trans (congrArg some (by kernel_rfl))
  f48 := Try.func51.trans (congrArg some (by kernel_rfl))
  f49 := ⟨"slices.medianAdjacentCmpFunc[jacinth/timer.entry]", by decide, Try.func52.trans (congrArg some (by kernel_rfl))⟩
  f50 := ⟨"slices.medianCmpFunc[jacinth/timer.entry]", by decide, Try.func53.trans (congrArg some (by kernel_rfl))⟩
  f57 := ⟨"slices.order2CmpFunc[jacinth/timer.entry]", by decide, Try.func54.trans (congrArg some (by kernel_rfl))⟩
  t0 := Try.underlying0
  a0 := Try.isAgg0
  z0 := Try.sizeOf0
  v0 := Try.zeroValue0
  t3 := Try.underlying3
  a3 := Try.isAgg3
  z3 := Try.sizeOf3
  v3 := Try.zeroValue3
  t4 := Try.underlying4
  a4 := Try.isAgg4
  z4 := Try.sizeOf4
  v4 := Try.zeroValue4
  t5 := Try.underlying5
  a5 := Try.isAgg5
  z5 := Try.sizeOf5
  v5 := Try.zeroValue5
  t9 := Try.underlying9
  a9 := Try.isAgg9
  z9 := Try.sizeOf9
  v9 := Try.zeroValue9
  t22 := Try.underlying58
  a22 := Try.isAgg58
  z22 := Try.sizeOf58
  v22 := Try.zeroValue58
  t25 := Try.underlying68
  a25 := Try.isAgg68
  z25 := Try.sizeOf68
  v25 := Try.zeroValue68
  t39 := Try.underlying78
  a39 := Try.isAgg78
  z39 := Try.sizeOf78
  v39 := Try.zeroValue78
  t45 := Try.underlying81
  a45 := Try.isAgg81
  z45 := Try.sizeOf81
  v45 := Try.zeroValue81
  t46 := Try.underlying82
  a46 := Try.isAgg82
  z46 := Try.sizeOf82
  v46 := Try.zeroValue82
  t50 := Try.underlying35
  a50 := Try.isAgg35
  z50 := Try.sizeOf35
  v50 := Try.zeroValue35
  t53 := Try.underlying88
  a53 := Try.isAgg88
  z53 := Try.sizeOf88
  v53 := Try.zeroValue88
  t55 := Try.underlying90
  a55 := Try.isAgg90
  z55 := Try.sizeOf90
  v55 := Try.zeroValue90
  t66 := Try.underlying91
  a66 := Try.isAgg91
  z66 := Try.sizeOf91
  v66 := Try.zeroValue91
  t70 := Try.underlying95
  a70 := Try.isAgg95
  z70 := Try.sizeOf95
  v70 := Try.zeroValue95
  t76 := Try.underlying97
  a76 := Try.isAgg97
  z76 := Try.sizeOf97
  v76 := Try.zeroValue97
  t77 := Try.underlying98
  a77 := Try.isAgg98
  z77 := Try.sizeOf98
  v77 := Try.zeroValue98
theorem sAgg : ∀ w, (isAgg (sRen.t 24)).run Try.prog w = .ok true w := Try.isAgg62
theorem sSize : ∀ w, (Go.sizeOf (sRen.t 24)).run Try.prog w = .ok 2 w := Try.sizeOf62
theorem sRoot : sRen.f 6 = 31 := rfl
end Go.Proofs.Ythpkkbmiockloaa
