/- slices.Sort over numbers at this program: the numbers of its family, and that these are its bodies. -/
import Derived.Test.YtocoegnoencghaaGreatDoorBj
import Derived.Test.YtocoegnoencghaaGreatDoorProg
import Derived.Test.YtocoegnoencghaaGreatDoorSj
set_option maxRecDepth 100000
namespace Go.Proofs.YtocoegnoencghaaGreatDoor
open Go Go.Jac
noncomputable abbrev pg : Program := Tryz.prog
theorem pg_mixed : pg.follows .mixedOrders = true := by kernel_rfl
def V.slices_Sorted_int (a0 : Value) (KR : Value → WP) : WP :=
  FnV pg (.func (.func 181) #[] #[]) #[a0] fun v5 =>
  FnV pg (.func (.func 182) #[] #[]) #[v5] fun _ =>
  KR v5
theorem V.slices_Sorted_int_ok {a0 : Value} {K : Value → WP} {w : World} (h : V.slices_Sorted_int a0 K w) : Cl pg 99 #[a0] K w :=
  cl_of pg_mixed Tryz.func99 (args := [a0]) (by kernel_rfl) (by rw [show WF pg Tryz.f99 [a0] K = V.slices_Sorted_int a0 K from by kernel_rfl]; exact h)

def V.slices_Collect_int (a0 : Value) (KR : Value → WP) : WP :=
  FnV pg (.func (.func 263) #[] #[]) #[(.slice none 0 0), a0] fun v4 =>
  KR v4
theorem V.slices_Collect_int_ok {a0 : Value} {K : Value → WP} {w : World} (h : V.slices_Collect_int a0 K w) : Cl pg 181 #[a0] K w :=
  cl_of pg_mixed Tryz.func181 (args := [a0]) (by kernel_rfl) (by rw [show WF pg Tryz.f181 [a0] K = V.slices_Collect_int a0 K from by kernel_rfl]; exact h)

def V.maps_Keys_c1_map_int_header_int_header (a0 a1 : Value) (KR : Value → WP) : WP :=
  Ld1 a1 fun v4 =>
  Ex pg (Instr.range 145 v4) fun v5 =>
  LoopC [] fun vK _ => AllE <|
  Ex pg (Instr.next v5 false 0) fun v6 =>
  Ext v6 0 fun v7 =>
  Cnd v7 (Ex pg (Instr.entry v5) fun v8 =>
  Ext v8 0 fun v9 =>
  FnV pg a0 #[v9] fun v12 =>
  Un .not v12 fun v13 =>
  Cnd v13 (KR (.tuple #[]))
  (vK []))
  (KR (.tuple #[]))
theorem V.maps_Keys_c1_map_int_header_int_header_ok {a0 a1 : Value} {K : Value → WP} {w : World} (h : V.maps_Keys_c1_map_int_header_int_header a0 a1 K w) : Cl pg 183 #[a0, a1] K w :=
  cl_of pg_mixed Tryz.func183 (args := [a0, a1]) (by kernel_rfl) (by rw [show WF pg Tryz.f183 [a0, a1] K = V.maps_Keys_c1_map_int_header_int_header a0 a1 K from by kernel_rfl]; exact h)

def V.maps_Keys_c1_map_int_Port_int_Port (a0 a1 : Value) (KR : Value → WP) : WP :=
  Ld1 a1 fun v4 =>
  Ex pg (Instr.range 97 v4) fun v5 =>
  LoopC [] fun vK _ => AllE <|
  Ex pg (Instr.next v5 false 0) fun v6 =>
  Ext v6 0 fun v7 =>
  Cnd v7 (Ex pg (Instr.entry v5) fun v8 =>
  Ext v8 0 fun v9 =>
  FnV pg a0 #[v9] fun v12 =>
  Un .not v12 fun v13 =>
  Cnd v13 (KR (.tuple #[]))
  (vK []))
  (KR (.tuple #[]))
theorem V.maps_Keys_c1_map_int_Port_int_Port_ok {a0 a1 : Value} {K : Value → WP} {w : World} (h : V.maps_Keys_c1_map_int_Port_int_Port a0 a1 K w) : Cl pg 261 #[a0, a1] K w :=
  cl_of pg_mixed Tryz.func261 (args := [a0, a1]) (by kernel_rfl) (by rw [show WF pg Tryz.f261 [a0, a1] K = V.maps_Keys_c1_map_int_Port_int_Port a0 a1 K from by kernel_rfl]; exact h)

def V.slices_AppendSeq_int_int (a0 a1 : Value) (KR : Value → WP) : WP :=
  New 29 (Value.cells a0) fun v2 =>
  RF0 pg a1 (fun vl vs vK =>
  UN vs fun v7 vs =>
  UNe vs <|
  RBeg vl <|
  Ld1 v2 fun v8 =>
  BSlC 3 1 #[(.int .i64 0)] 1 #[(0, v7)] fun v10 =>
  AppC 3 1 8 #[(.int .i64 0)] v8 v10 fun v11 =>
  St 1 v2 v11 fun _ =>
  REnd vl none vK)
  fun vm vj =>
  JumpC vj (Ld1 v2 fun v12 =>
  LvC (.tuple #[vm]) <| KR v12)
  (LvC (.tuple #[vm]) <| KR (.slice none 0 0))
  (fun _ => fun _ => False)
theorem V.slices_AppendSeq_int_int_ok {a0 a1 : Value} {K : Value → WP} {w : World} (h : V.slices_AppendSeq_int_int a0 a1 K w) : Cl pg 263 #[a0, a1] K w :=
  cl_of pg_mixed Tryz.func263 (args := [a0, a1]) (by kernel_rfl) (by rw [show WF pg Tryz.f263 [a0, a1] K = V.slices_AppendSeq_int_int a0 a1 K from by kernel_rfl]; exact h)

def V.maps_Keys_c1_map_int_int_int_int (a0 a1 : Value) (KR : Value → WP) : WP :=
  Ld1 a1 fun v4 =>
  Ex pg (Instr.range 82 v4) fun v5 =>
  LoopC [] fun vK _ => AllE <|
  Ex pg (Instr.next v5 false 0) fun v6 =>
  Ext v6 0 fun v7 =>
  Cnd v7 (Ex pg (Instr.entry v5) fun v8 =>
  Ext v8 0 fun v9 =>
  FnV pg a0 #[v9] fun v12 =>
  Un .not v12 fun v13 =>
  Cnd v13 (KR (.tuple #[]))
  (vK []))
  (KR (.tuple #[]))
theorem V.maps_Keys_c1_map_int_int_int_int_ok {a0 a1 : Value} {K : Value → WP} {w : World} (h : V.maps_Keys_c1_map_int_int_int_int a0 a1 K w) : Cl pg 306 #[a0, a1] K w :=
  cl_of pg_mixed Tryz.func306 (args := [a0, a1]) (by kernel_rfl) (by rw [show WF pg Tryz.f306 [a0, a1] K = V.maps_Keys_c1_map_int_int_int_int a0 a1 K from by kernel_rfl]; exact h)
end Go.Proofs.YtocoegnoencghaaGreatDoor
set_option maxRecDepth 100000
set_option maxHeartbeats 4000000
namespace Go.Proofs.YtocoegnoencghaaGreatDoor
open Go Go.Jac Go.Shelf
def iRen : Ren := ⟨fun | 53 => 182 | 64 => 265 | 63 => 264 | 78 => 330 | 79 => 331 | 70 => 321 | 71 => 322 | 72 => 323 | 73 => 324 | 74 => 325 | 75 => 326 | 59 => 327 | 76 => 328 | 77 => 329 | 88 => 363 | 89 => 364 | 90 => 365 | 91 => 366 | 92 => 367 | 68 => 269 | 96 => 382 | n => n, fun | 22 => 29 | 23 => 3 | 3 => 3 | 51 => 222 | 0 => 0 | 67 => 374 | 69 => 330 | 4 => 4 | 61 => 415 | 60 => 414 | 44 => 341 | 5 => 5 | 9 => 9 | 75 => 439 | 79 => 443 | 83 => 455 | 84 => 456 | n => n, fun n => n⟩
theorem iLay : SlLaysN.n53 Tryz.prog iRen where
  mixed := by kernel_rfl
  f53 := ⟨"slices.Sort[[]int,int]", by decide, Tryz.func182.trans (congrArg some (by kernel_rfl))⟩
  f59 := ⟨"cmp.Less[int]", by decide, Tryz.func327.trans (congrArg some (by kernel_rfl))⟩
  f63 := ⟨"slices.pdqsortOrdered[int]", by decide, Tryz.func264.trans (congrArg some (by kernel_rfl))⟩
  f64 := Tryz.func265.trans (congrArg some (by kernel_rfl))
  f68 := ⟨"cmp.isNaN[int]", by decide, Tryz.func269.trans (congrArg some (by kernel_rfl))⟩
  f70 := ⟨"slices.insertionSortOrdered[int]", by decide, Tryz.func321.trans (congrArg some (by kernel_rfl))⟩
  f71 := ⟨"slices.heapSortOrdered[int]", by decide, Tryz.func322.trans (congrArg some (by kernel_rfl))⟩
  f72 := ⟨"slices.breakPatternsOrdered[int]", by decide, Tryz.func323.trans (congrArg some (by kernel_rfl))⟩
  f73 := ⟨"slices.choosePivotOrdered[int]", by decide, Tryz.func324.trans (congrArg some (by kernel_rfl))⟩
  f74 := ⟨"slices.reverseRangeOrdered[int]", by decide, Tryz.func325.trans (congrArg some (by kernel_rfl))⟩
  f75 := ⟨"slices.partialInsertionSortOrdered[int]", by decide, Tryz.func326.trans (congrArg some (by kernel_rfl))⟩
  f76 := ⟨"slices.partitionEqualOrdered[int]", by decide, Tryz.func328.trans (congrArg some (by kernel_rfl))⟩
  f77 := ⟨"slices.partitionOrdered[int]", by decide, Tryz.func329.trans (congrArg some (by kernel_rfl))⟩
  f78 := Tryz.func330.trans (congrArg some (by kernel_rfl))
  f79 := Tryz.func331.trans (congrArg some (by kernel_rfl))
  f88 := ⟨"slices.siftDownOrdered[int]", by decide, Tryz.func363.trans (congrArg some (by kernel_rfl))⟩
  f89 := Tryz.func364.trans (congrArg some (by kernel_rfl))
  f90 := Tryz.func365.trans (congrArg some (by kernel_rfl))
  f91 := ⟨"slices.medianAdjacentOrdered[int]", by decide, Tryz.func366.trans (congrArg some (by kernel_rfl))⟩
  f92 := ⟨"slices.medianOrdered[int]", by decide, Tryz.func367.trans (congrArg some (by kernel_rfl))⟩
  f96 := ⟨"slices.order2Ordered[int]", by decide, Tryz.func382.trans (congrArg some (by kernel_rfl))⟩
  t0 := Tryz.underlying0
  a0 := Tryz.isAgg0
  z0 := Tryz.sizeOf0
  v0 := Tryz.zeroValue0
  t3 := Tryz.underlying3
  a3 := Tryz.isAgg3
  z3 := Tryz.sizeOf3
  v3 := Tryz.zeroValue3
  t4 := Tryz.underlying4
  a4 := Tryz.isAgg4
  z4 := Tryz.sizeOf4
  v4 := Tryz.zeroValue4
  t5 := Tryz.underlying5
  a5 := Tryz.isAgg5
  z5 := Tryz.sizeOf5
  v5 := Tryz.zeroValue5
  t9 := Tryz.underlying9
  a9 := Tryz.isAgg9
  z9 := Tryz.sizeOf9
  v9 := Tryz.zeroValue9
  t22 := Tryz.underlying29
  a22 := Tryz.isAgg29
  z22 := Tryz.sizeOf29
  v22 := Tryz.zeroValue29
  t23 := Tryz.underlying3
  a23 := Tryz.isAgg3
  z23 := Tryz.sizeOf3
  v23 := Tryz.zeroValue3
  t44 := Tryz.underlying341
  a44 := Tryz.isAgg341
  z44 := Tryz.sizeOf341
  v44 := Tryz.zeroValue341
  t51 := Tryz.underlying222
  a51 := Tryz.isAgg222
  z51 := Tryz.sizeOf222
  v51 := Tryz.zeroValue222
  t60 := Tryz.underlying414
  a60 := Tryz.isAgg414
  z60 := Tryz.sizeOf414
  v60 := Tryz.zeroValue414
  t61 := Tryz.underlying415
  a61 := Tryz.isAgg415
  z61 := Tryz.sizeOf415
  v61 := Tryz.zeroValue415
  t67 := Tryz.underlying374
  a67 := Tryz.isAgg374
  z67 := Tryz.sizeOf374
  v67 := Tryz.zeroValue374
  t69 := Tryz.underlying330
  a69 := Tryz.isAgg330
  z69 := Tryz.sizeOf330
  v69 := Tryz.zeroValue330
  t75 := Tryz.underlying439
  a75 := Tryz.isAgg439
  z75 := Tryz.sizeOf439
  v75 := Tryz.zeroValue439
  t79 := Tryz.underlying443
  a79 := Tryz.isAgg443
  z79 := Tryz.sizeOf443
  v79 := Tryz.zeroValue443
  t83 := Tryz.underlying455
  a83 := Tryz.isAgg455
  z83 := Tryz.sizeOf455
  v83 := Tryz.zeroValue455
  t84 := Tryz.underlying456
  a84 := Tryz.isAgg456
  z84 := Tryz.sizeOf456
  v84 := Tryz.zeroValue456
theorem iRoot : iRen.f 53 = 182 := rfl
end Go.Proofs.YtocoegnoencghaaGreatDoor
