/- What each function asks, printed by a program of this session's own; each is checked against the code. -/
import Derived.Test.YtcdkbkgpgemfgaaGreatDoorBj
import Derived.Test.YtcdkbkgpgemfgaaGreatDoorProg
set_option maxRecDepth 100000
namespace Go.Proofs.YtcdkbkgpgemfgaaGreatDoor
open Go Go.Jac
noncomputable abbrev pg : Program := Tryz.prog
theorem pg_mixed : pg.follows .mixedOrders = true := by kernel_rfl
def V.slices_Collect_int (a0 : Value) (KR : Value → WP) : WP :=
  FnV pg (.func (.func 134) #[] #[]) #[(.slice none 0 0), a0] fun v4 =>
  KR v4
theorem V.slices_Collect_int_ok {a0 : Value} {K : Value → WP} {w : World} (h : V.slices_Collect_int a0 K w) : Cl pg 75 #[a0] K w :=
  cl_of pg_mixed Tryz.func75 (args := [a0]) (by kernel_rfl) (by rw [show WF pg Tryz.f75 [a0] K = V.slices_Collect_int a0 K from by kernel_rfl]; exact h)

def V.slices_Sorted_int (a0 : Value) (KR : Value → WP) : WP :=
  FnV pg (.func (.func 75) #[] #[]) #[a0] fun v5 =>
  FnV pg (.func (.func 147) #[] #[]) #[v5] fun _ =>
  KR v5
theorem V.slices_Sorted_int_ok {a0 : Value} {K : Value → WP} {w : World} (h : V.slices_Sorted_int a0 K w) : Cl pg 85 #[a0] K w :=
  cl_of pg_mixed Tryz.func85 (args := [a0]) (by kernel_rfl) (by rw [show WF pg Tryz.f85 [a0] K = V.slices_Sorted_int a0 K from by kernel_rfl]; exact h)

def V.slices_AppendSeq_int_int (a0 a1 : Value) (KR : Value → WP) : WP :=
  New 30 (Value.cells a0) fun v2 =>
  RF0 pg a1 (fun vl vs vK =>
  UN vs fun v7 vs =>
  UNe vs <|
  RBeg vl <|
  Ld1 v2 fun v8 =>
  BSlC 3 1 #[(.int .i64 0)] 1 #[(0, v7)] fun v10 =>
  AppC 3 1 8 #[(.int .i64 0)] v8 v10 fun v11 =>
  St 1 v2 v11 fun _ =>
  REnd vl none vK)
  fun vm vj =>
  JumpC vj (Ld1 v2 fun v12 =>
  LvC (.tuple #[vm]) <| KR v12)
  (LvC (.tuple #[vm]) <| KR (.slice none 0 0))
  (fun _ => fun _ => False)
theorem V.slices_AppendSeq_int_int_ok {a0 a1 : Value} {K : Value → WP} {w : World} (h : V.slices_AppendSeq_int_int a0 a1 K w) : Cl pg 134 #[a0, a1] K w :=
  cl_of pg_mixed Tryz.func134 (args := [a0, a1]) (by kernel_rfl) (by rw [show WF pg Tryz.f134 [a0, a1] K = V.slices_AppendSeq_int_int a0 a1 K from by kernel_rfl]; exact h)

def V.maps_Keys_c1_map_int_header_int_header (a0 a1 : Value) (KR : Value → WP) : WP :=
  Ld1 a1 fun v4 =>
  Ex pg (Instr.range 162 v4) fun v5 =>
  LoopC [] fun vK _ => AllE <|
  Ex pg (Instr.next v5 false 0) fun v6 =>
  Ext v6 0 fun v7 =>
  Cnd v7 (Ex pg (Instr.entry v5) fun v8 =>
  Ext v8 0 fun v9 =>
  FnV pg a0 #[v9] fun v12 =>
  Un .not v12 fun v13 =>
  Cnd v13 (KR (.tuple #[]))
  (vK []))
  (KR (.tuple #[]))
theorem V.maps_Keys_c1_map_int_header_int_header_ok {a0 a1 : Value} {K : Value → WP} {w : World} (h : V.maps_Keys_c1_map_int_header_int_header a0 a1 K w) : Cl pg 148 #[a0, a1] K w :=
  cl_of pg_mixed Tryz.func148 (args := [a0, a1]) (by kernel_rfl) (by rw [show WF pg Tryz.f148 [a0, a1] K = V.maps_Keys_c1_map_int_header_int_header a0 a1 K from by kernel_rfl]; exact h)

def V.maps_Keys_c1_map_int_Port_int_Port (a0 a1 : Value) (KR : Value → WP) : WP :=
  Ld1 a1 fun v4 =>
  Ex pg (Instr.range 87 v4) fun v5 =>
  LoopC [] fun vK _ => AllE <|
  Ex pg (Instr.next v5 false 0) fun v6 =>
  Ext v6 0 fun v7 =>
  Cnd v7 (Ex pg (Instr.entry v5) fun v8 =>
  Ext v8 0 fun v9 =>
  FnV pg a0 #[v9] fun v12 =>
  Un .not v12 fun v13 =>
  Cnd v13 (KR (.tuple #[]))
  (vK []))
  (KR (.tuple #[]))
theorem V.maps_Keys_c1_map_int_Port_int_Port_ok {a0 a1 : Value} {K : Value → WP} {w : World} (h : V.maps_Keys_c1_map_int_Port_int_Port a0 a1 K w) : Cl pg 311 #[a0, a1] K w :=
  cl_of pg_mixed Tryz.func311 (args := [a0, a1]) (by kernel_rfl) (by rw [show WF pg Tryz.f311 [a0, a1] K = V.maps_Keys_c1_map_int_Port_int_Port a0 a1 K from by kernel_rfl]; exact h)

def V.maps_Keys_c1_map_int_int_int_int (a0 a1 : Value) (KR : Value → WP) : WP :=
  Ld1 a1 fun v4 =>
  Ex pg (Instr.range 88 v4) fun v5 =>
  LoopC [] fun vK _ => AllE <|
  Ex pg (Instr.next v5 false 0) fun v6 =>
  Ext v6 0 fun v7 =>
  Cnd v7 (Ex pg (Instr.entry v5) fun v8 =>
  Ext v8 0 fun v9 =>
  FnV pg a0 #[v9] fun v12 =>
  Un .not v12 fun v13 =>
  Cnd v13 (KR (.tuple #[]))
  (vK []))
  (KR (.tuple #[]))
theorem V.maps_Keys_c1_map_int_int_int_int_ok {a0 a1 : Value} {K : Value → WP} {w : World} (h : V.maps_Keys_c1_map_int_int_int_int a0 a1 K w) : Cl pg 374 #[a0, a1] K w :=
  cl_of pg_mixed Tryz.func374 (args := [a0, a1]) (by kernel_rfl) (by rw [show WF pg Tryz.f374 [a0, a1] K = V.maps_Keys_c1_map_int_int_int_int a0 a1 K from by kernel_rfl]; exact h)
end Go.Proofs.YtcdkbkgpgemfgaaGreatDoor
