/- slices.Sort over numbers at this program: the numbers of its family, and that these are its bodies. -/
import Derived.Test.YtfehhjjfmbjlfaaGreatDoorBj
import Derived.Test.YtfehhjjfmbjlfaaGreatDoorProg
import Derived.Test.YtfehhjjfmbjlfaaGreatDoorSj
set_option maxRecDepth 100000
namespace Go.Proofs.YtfehhjjfmbjlfaaGreatDoor
open Go Go.Jac
noncomputable abbrev pg : Program := Tryz.prog
theorem pg_mixed : pg.follows .mixedOrders = true := by kernel_rfl
def V.slices_Sorted_int (a0 : Value) (KR : Value → WP) : WP :=
  FnV pg (.func (.func 180) #[] #[]) #[a0] fun v5 =>
  FnV pg (.func (.func 181) #[] #[]) #[v5] fun _ =>
  KR v5
theorem V.slices_Sorted_int_ok {a0 : Value} {K : Value → WP} {w : World} (h : V.slices_Sorted_int a0 K w) : Cl pg 88 #[a0] K w :=
  cl_of pg_mixed Tryz.func88 (args := [a0]) (by kernel_rfl) (by rw [show WF pg Tryz.f88 [a0] K = V.slices_Sorted_int a0 K from by kernel_rfl]; exact h)

def V.slices_Collect_int (a0 : Value) (KR : Value → WP) : WP :=
  FnV pg (.func (.func 269) #[] #[]) #[(.slice none 0 0), a0] fun v4 =>
  KR v4
theorem V.slices_Collect_int_ok {a0 : Value} {K : Value → WP} {w : World} (h : V.slices_Collect_int a0 K w) : Cl pg 180 #[a0] K w :=
  cl_of pg_mixed Tryz.func180 (args := [a0]) (by kernel_rfl) (by rw [show WF pg Tryz.f180 [a0] K = V.slices_Collect_int a0 K from by kernel_rfl]; exact h)

def V.maps_Keys_c1_map_int_header_int_header (a0 a1 : Value) (KR : Value → WP) : WP :=
  Ld1 a1 fun v4 =>
  Ex pg (Instr.range 122 v4) fun v5 =>
  LoopC [] fun vK _ => AllE <|
  Ex pg (Instr.next v5 false 0) fun v6 =>
  Ext v6 0 fun v7 =>
  Cnd v7 (Ex pg (Instr.entry v5) fun v8 =>
  Ext v8 0 fun v9 =>
  FnV pg a0 #[v9] fun v12 =>
  Un .not v12 fun v13 =>
  Cnd v13 (KR (.tuple #[]))
  (vK []))
  (KR (.tuple #[]))
theorem V.maps_Keys_c1_map_int_header_int_header_ok {a0 a1 : Value} {K : Value → WP} {w : World} (h : V.maps_Keys_c1_map_int_header_int_header a0 a1 K w) : Cl pg 182 #[a0, a1] K w :=
  cl_of pg_mixed Tryz.func182 (args := [a0, a1]) (by kernel_rfl) (by rw [show WF pg Tryz.f182 [a0, a1] K = V.maps_Keys_c1_map_int_header_int_header a0 a1 K from by kernel_rfl]; exact h)

def V.maps_Keys_c1_map_int_Port_int_Port (a0 a1 : Value) (KR : Value → WP) : WP :=
  Ld1 a1 fun v4 =>
  Ex pg (Instr.range 69 v4) fun v5 =>
  LoopC [] fun vK _ => AllE <|
  Ex pg (Instr.next v5 false 0) fun v6 =>
  Ext v6 0 fun v7 =>
  Cnd v7 (Ex pg (Instr.entry v5) fun v8 =>
  Ext v8 0 fun v9 =>
  FnV pg a0 #[v9] fun v12 =>
  Un .not v12 fun v13 =>
  Cnd v13 (KR (.tuple #[]))
  (vK []))
  (KR (.tuple #[]))
theorem V.maps_Keys_c1_map_int_Port_int_Port_ok {a0 a1 : Value} {K : Value → WP} {w : World} (h : V.maps_Keys_c1_map_int_Port_int_Port a0 a1 K w) : Cl pg 267 #[a0, a1] K w :=
  cl_of pg_mixed Tryz.func267 (args := [a0, a1]) (by kernel_rfl) (by rw [show WF pg Tryz.f267 [a0, a1] K = V.maps_Keys_c1_map_int_Port_int_Port a0 a1 K from by kernel_rfl]; exact h)

def V.slices_AppendSeq_int_int (a0 a1 : Value) (KR : Value → WP) : WP :=
  New 27 (Value.cells a0) fun v2 =>
  RF0 pg a1 (fun vl vs vK =>
  UN vs fun v7 vs =>
  UNe vs <|
  RBeg vl <|
  Ld1 v2 fun v8 =>
  BSlC 3 1 #[(.int .i64 0)] 1 #[(0, v7)] fun v10 =>
  AppC 3 1 8 #[(.int .i64 0)] v8 v10 fun v11 =>
  St 1 v2 v11 fun _ =>
  REnd vl none vK)
  fun vm vj =>
  JumpC vj (Ld1 v2 fun v12 =>
  LvC (.tuple #[vm]) <| KR v12)
  (LvC (.tuple #[vm]) <| KR (.slice none 0 0))
  (fun _ => fun _ => False)
theorem V.slices_AppendSeq_int_int_ok {a0 a1 : Value} {K : Value → WP} {w : World} (h : V.slices_AppendSeq_int_int a0 a1 K w) : Cl pg 269 #[a0, a1] K w :=
  cl_of pg_mixed Tryz.func269 (args := [a0, a1]) (by kernel_rfl) (by rw [show WF pg Tryz.f269 [a0, a1] K = V.slices_AppendSeq_int_int a0 a1 K from by kernel_rfl]; exact h)

def V.maps_Keys_c1_map_int_int_int_int (a0 a1 : Value) (KR : Value → WP) : WP :=
  Ld1 a1 fun v4 =>
  Ex pg (Instr.range 70 v4) fun v5 =>
  LoopC [] fun vK _ => AllE <|
  Ex pg (Instr.next v5 false 0) fun v6 =>
  Ext v6 0 fun v7 =>
  Cnd v7 (Ex pg (Instr.entry v5) fun v8 =>
  Ext v8 0 fun v9 =>
  FnV pg a0 #[v9] fun v12 =>
  Un .not v12 fun v13 =>
  Cnd v13 (KR (.tuple #[]))
  (vK []))
  (KR (.tuple #[]))
theorem V.maps_Keys_c1_map_int_int_int_int_ok {a0 a1 : Value} {K : Value → WP} {w : World} (h : V.maps_Keys_c1_map_int_int_int_int a0 a1 K w) : Cl pg 316 #[a0, a1] K w :=
  cl_of pg_mixed Tryz.func316 (args := [a0, a1]) (by kernel_rfl) (by rw [show WF pg Tryz.f316 [a0, a1] K = V.maps_Keys_c1_map_int_int_int_int a0 a1 K from by kernel_rfl]; exact h)
end Go.Proofs.YtfehhjjfmbjlfaaGreatDoor
set_option maxRecDepth 100000
set_option maxHeartbeats 4000000
namespace Go.Proofs.YtfehhjjfmbjlfaaGreatDoor
open Go Go.Jac Go.Shelf
def iRen : Ren := ⟨fun | 53 => 181 | 64 => 94 | 63 => 270 | 78 => 193 | 79 => 194 | 70 => 332 | 71 => 333 | 72 => 334 | 73 => 335 | 74 => 336 | 75 => 337 | 59 => 338 | 76 => 339 | 77 => 340 | 88 => 365 | 89 => 273 | 90 => 274 | 91 => 366 | 92 => 367 | 68 => 195 | 96 => 379 | n => n, fun | 22 => 27 | 23 => 3 | 3 => 3 | 51 => 192 | 0 => 0 | 67 => 299 | 69 => 301 | 4 => 4 | 61 => 292 | 60 => 291 | 44 => 296 | 5 => 5 | 9 => 9 | 75 => 375 | 79 => 379 | 83 => 425 | 84 => 426 | n => n, fun n => n⟩
theorem iLay : SlLaysN.n53 Tryz.prog iRen where
  mixed := by kernel_rfl
  f53 := ⟨"slices.Sort[[]int,int]", by decide, Tryz.func181.trans (congrArg some (by kernel_rfl))⟩
  f59 := ⟨"cmp.Less[int]", by decide, Tryz.func338.trans (congrArg some (by kernel_rfl))⟩
  f63 := ⟨"slices.pdqsortOrdered[int]", by decide, Tryz.func270.trans (congrArg some (by kernel_rfl))⟩
  f64 := Tryz.func94.trans (congrArg some (by kernel_rfl))
  f68 := ⟨"cmp.isNaN[int]", by decide, Tryz.func195.trans (congrArg some (by kernel_rfl))⟩
  f70 := ⟨"slices.insertionSortOrdered[int]", by decide, Tryz.func332.trans (congrArg some (by kernel_rfl))⟩
  f71 := ⟨"slices.heapSortOrdered[int]", by decide, Tryz.func333.trans (congrArg some (by kernel_rfl))⟩
  f72 := ⟨"slices.breakPatternsOrdered[int]", by decide, Tryz.func334.trans (congrArg some (by kernel_rfl))⟩
  f73 := ⟨"slices.choosePivotOrdered[int]", by decide, Tryz.func335.trans (congrArg some (by kernel_rfl))⟩
  f74 := ⟨"slices.reverseRangeOrdered[int]", by decide, Tryz.func336.trans (congrArg some (by kernel_rfl))⟩
  f75 := ⟨"slices.partialInsertionSortOrdered[int]", by decide, Tryz.func337.trans (congrArg some (by kernel_rfl))⟩
  f76 := ⟨"slices.partitionEqualOrdered[int]", by decide, Tryz.func339.trans (congrArg some (by kernel_rfl))⟩
  f77 := ⟨"slices.partitionOrdered[int]", by decide, Tryz.func340.trans (congrArg some (by kernel_rfl))⟩
  f78 := Tryz.func193.trans (congrArg some (by kernel_rfl))
  f79 := Tryz.func194.trans (congrArg some (by kernel_rfl))
  f88 := ⟨"slices.siftDownOrdered[int]", by decide, Tryz.func365.trans (congrArg some (by kernel_rfl))⟩
  f89 := Tryz.func273.trans (congrArg some (by kernel_rfl))
  f90 := Tryz.func274.trans (congrArg some (by kernel_rfl))
  f91 := ⟨"slices.medianAdjacentOrdered[int]", by decide, Tryz.func366.trans (congrArg some (by kernel_rfl))⟩
  f92 := ⟨"slices.medianOrdered[int]", by decide, Tryz.func367.trans (congrArg some (by kernel_rfl))⟩
  f96 := ⟨"slices.order2Ordered[int]", by decide, Tryz.func379.trans (congrArg some (by kernel_rfl))⟩
  t0 := Tryz.underlying0
  a0 := Tryz.isAgg0
  z0 := Tryz.sizeOf0
  v0 := Tryz.zeroValue0
  t3 := Tryz.underlying3
  a3 := Tryz.isAgg3
  z3 := Tryz.sizeOf3
  v3 := Tryz.zeroValue3
  t4 := Tryz.underlying4
  a4 := Tryz.isAgg4
  z4 := Tryz.sizeOf4
  v4 := Tryz.zeroValue4
  t5 := Tryz.underlying5
  a5 := Tryz.isAgg5
  z5 := Tryz.sizeOf5
  v5 := Tryz.zeroValue5
  t9 := Tryz.underlying9
  a9 := Tryz.isAgg9
  z9 := Tryz.sizeOf9
  v9 := Tryz.zeroValue9
  t22 := Tryz.underlying27
  a22 := Tryz.isAgg27
  z22 := Tryz.sizeOf27
  v22 := Tryz.zeroValue27
  t23 := Tryz.underlying3
  a23 := Tryz.isAgg3
  z23 := Tryz.sizeOf3
  v23 := Tryz.zeroValue3
  t44 := Tryz.underlying296
  a44 := Tryz.isAgg296
  z44 := Tryz.sizeOf296
  v44 := Tryz.zeroValue296
  t51 := Tryz.underlying192
  a51 := Tryz.isAgg192
  z51 := Tryz.sizeOf192
  v51 := Tryz.zeroValue192
  t60 := Tryz.underlying291
  a60 := Tryz.isAgg291
  z60 := Tryz.sizeOf291
  v60 := Tryz.zeroValue291
  t61 := Tryz.underlying292
  a61 := Tryz.isAgg292
  z61 := Tryz.sizeOf292
  v61 := Tryz.zeroValue292
  t67 := Tryz.underlying299
  a67 := Tryz.isAgg299
  z67 := Tryz.sizeOf299
  v67 := Tryz.zeroValue299
  t69 := Tryz.underlying301
  a69 := Tryz.isAgg301
  z69 := Tryz.sizeOf301
  v69 := Tryz.zeroValue301
  t75 := Tryz.underlying375
  a75 := Tryz.isAgg375
  z75 := Tryz.sizeOf375
  v75 := Tryz.zeroValue375
  t79 := Tryz.underlying379
  a79 := Tryz.isAgg379
  z79 := Tryz.sizeOf379
  v79 := Tryz.zeroValue379
  t83 := Tryz.underlying425
  a83 := Tryz.isAgg425
  z83 := Tryz.sizeOf425
  v83 := Tryz.zeroValue425
  t84 := Tryz.underlying426
  a84 := Tryz.isAgg426
  z84 := Tryz.sizeOf426
  v84 := Tryz.zeroValue426
theorem iRoot : iRen.f 53 = 181 := rfl
end Go.Proofs.YtfehhjjfmbjlfaaGreatDoor
