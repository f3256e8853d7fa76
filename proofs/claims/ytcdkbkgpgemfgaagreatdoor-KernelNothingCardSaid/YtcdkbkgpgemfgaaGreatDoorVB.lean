/- What each function asks, printed by a program of this session's own; each is checked against the code. -/
import Derived.Test.YtcdkbkgpgemfgaaGreatDoorV
set_option maxRecDepth 100000
namespace Go.Proofs.YtcdkbkgpgemfgaaGreatDoor
open Go Go.Jac
def V.jacinthlaw19_KernelNothing (a0 a1 : Value) (KR : Value → WP) : WP :=
  New 36 (Value.cells a1) fun v3 =>
  FnV pg (.func (.func 21) #[] #[]) #[] fun v9 =>
  FnV pg (.func (.func 20) #[] #[]) #[v9] fun v10 =>
  EqP false v10 (.pointer none) fun v12 =>
  Grd v12 false (FA v3 7 fun v14 =>
  Ld1 v14 fun v15 =>
  LenS v15 fun v16 =>
  BinI .gtr v16 (.int .i64 300) fun v17 =>
  Grd v17 false (FA v3 8 fun v20 =>
  Ld1 v20 fun v21 =>
  LenS v21 fun v22 =>
  BinI .gtr v22 (.int .i64 80) fun v23 =>
  Cnd v23 (EqP true v10 (.pointer none) fun v26 =>
  Grd v26 true (FnV pg (.func (.func 22) #[] #[]) #[] fun v28 =>
  KR v28)
  (KR (.bool false)))
  (FnV pg (.func (.func 23) #[] #[]) #[v10] fun v31 =>
  BinI .neq a0 (.int .i64 3) fun v33 =>
  Cnd v33 (LdN 9 v3 fun v36 =>
  FnV pg (.func (.func 25) #[] #[]) #[v36] fun v37 =>
  FnV pg (.func (.func 24) #[] #[]) #[v10, a0, v37] fun v38 =>
  New 59 #[(.int .i64 0), (.slice none 0 0), (.slice none 0 0), (.bool false), (.slice none 0 0)] fun v7 =>
  St 5 v7 v38 fun _ =>
  FA v7 0 fun v39 =>
  Ld1 v39 fun v40 =>
  BinI .eql v40 (.int .i64 (-20)) fun v41 =>
  Grd v41 true (FnV pg (.func (.func 23) #[] #[]) #[v10] fun v44 =>
  FnV pg (.func (.func 26) #[] #[]) #[v44, v31] fun v46 =>
  Grd v46 true (FnV pg (.func (.func 22) #[] #[]) #[] fun v49 =>
  KR v49)
  (KR (.bool false)))
  (KR (.bool false)))
  (FA v3 0 fun v51 =>
  Ld1 v51 fun v52 =>
  BinI .geq v52 (.int .i64 1) fun v53 =>
  Grd v53 true (FA v3 0 fun v55 =>
  Ld1 v55 fun v56 =>
  BinI .leq v56 (.int .i64 49) fun v57 =>
  Cnd v57 (FnV pg (.func (.func 22) #[] #[]) #[] fun v59 =>
  KR v59)
  (LdN 9 v3 fun v61 =>
  FnV pg (.func (.func 25) #[] #[]) #[v61] fun v62 =>
  FnV pg (.func (.func 24) #[] #[]) #[v10, (.int .i64 3), v62] fun v63 =>
  New 59 #[(.int .i64 0), (.slice none 0 0), (.slice none 0 0), (.bool false), (.slice none 0 0)] fun v8 =>
  St 5 v8 v63 fun _ =>
  FA v8 0 fun v64 =>
  Ld1 v64 fun v65 =>
  BinI .eql v65 (.int .i64 (-2)) fun v66 =>
  Grd v66 true (FA v8 1 fun v68 =>
  Ld1 v68 fun v69 =>
  LenS v69 fun v70 =>
  BinI .eql v70 (.int .i64 0) fun v71 =>
  Grd v71 true (FnV pg (.func (.func 23) #[] #[]) #[v10] fun v75 =>
  FnV pg (.func (.func 26) #[] #[]) #[v75, v31] fun v77 =>
  Grd v77 true (FnV pg (.func (.func 22) #[] #[]) #[] fun v80 =>
  KR v80)
  (KR (.bool false)))
  (KR (.bool false)))
  (KR (.bool false))))
  (LdN 9 v3 fun v61_1 =>
  FnV pg (.func (.func 25) #[] #[]) #[v61_1] fun v62_1 =>
  FnV pg (.func (.func 24) #[] #[]) #[v10, (.int .i64 3), v62_1] fun v63_1 =>
  New 59 #[(.int .i64 0), (.slice none 0 0), (.slice none 0 0), (.bool false), (.slice none 0 0)] fun v8_1 =>
  St 5 v8_1 v63_1 fun _ =>
  FA v8_1 0 fun v64_1 =>
  Ld1 v64_1 fun v65_1 =>
  BinI .eql v65_1 (.int .i64 (-2)) fun v66_1 =>
  Grd v66_1 true (FA v8_1 1 fun v68_1 =>
  Ld1 v68_1 fun v69_1 =>
  LenS v69_1 fun v70_1 =>
  BinI .eql v70_1 (.int .i64 0) fun v71_1 =>
  Grd v71_1 true (FnV pg (.func (.func 23) #[] #[]) #[v10] fun v75_1 =>
  FnV pg (.func (.func 26) #[] #[]) #[v75_1, v31] fun v77_1 =>
  Grd v77_1 true (FnV pg (.func (.func 22) #[] #[]) #[] fun v80_1 =>
  KR v80_1)
  (KR (.bool false)))
  (KR (.bool false)))
  (KR (.bool false))))))
  (EqP true v10 (.pointer none) fun v26_1 =>
  Grd v26_1 true (FnV pg (.func (.func 22) #[] #[]) #[] fun v28_1 =>
  KR v28_1)
  (KR (.bool false))))
  (EqP true v10 (.pointer none) fun v26_2 =>
  Grd v26_2 true (FnV pg (.func (.func 22) #[] #[]) #[] fun v28_2 =>
  KR v28_2)
  (KR (.bool false)))
theorem V.jacinthlaw19_KernelNothing_ok {a0 a1 : Value} {K : Value → WP} {w : World} (h : V.jacinthlaw19_KernelNothing a0 a1 K w) : Cl pg 5 #[a0, a1] K w :=
  cl_of pg_mixed Tryz.func5 (args := [a0, a1]) (by kernel_rfl) (by rw [show WF pg Tryz.f5 [a0, a1] K = V.jacinthlaw19_KernelNothing a0 a1 K from by kernel_rfl]; exact h)

def V.jacinthlaw19_settings (KR : Value → WP) : WP :=
  New 23 #[(.int .i64 0), (.int .i64 0), (.int .i64 0), (.int .i64 0), (.int .i64 0)] fun v0 =>
  Ex pg (bldS #[(.int .i64 0), (.int .i64 0), (.int .i64 0), (.int .i64 0), (.int .i64 0)] [(0, 1), (1, 1), (2, 1), (3, 1), (4, 1)] #[(0, (.int .i64 20)), (1, (.int .i64 10)), (2, (.int .i64 3)), (3, (.int .i64 10)), (4, (.int .i64 10))]) fun v1 =>
  St 5 v0 v1 fun _ =>
  LdN 5 v0 fun vr =>
  KR vr
theorem V.jacinthlaw19_settings_ok {K : Value → WP} {w : World} (h : V.jacinthlaw19_settings  K w) : Cl pg 21 #[] K w :=
  cl_of pg_mixed Tryz.func21 (args := []) (by kernel_rfl) (by rw [show WF pg Tryz.f21 [] K = V.jacinthlaw19_settings  K from by kernel_rfl]; exact h)

def V.jacinthlaw19_copied (a0 : Value) (KR : Value → WP) : WP :=
  New 36 (Value.cells a0) fun v1 =>
  New 36 #[(.int .i64 0), (.int .i64 0), (.int .i64 0), (.int .i64 0), (.int .i64 0), (.int .i64 0), (.int .i64 0), (.slice none 0 0), (.slice none 0 0)] fun v2 =>
  FA v1 7 fun v3 =>
  Ld1 v3 fun v4 =>
  FnV pg (.func (.func 73) #[] #[]) #[v4] fun v5 =>
  FA v1 7 fun v6 =>
  St 1 v6 v5 fun _ =>
  BSlC 3 1 #[(.int .i64 0)] 0 #[] fun v7 =>
  FA v1 8 fun v8 =>
  Ld1 v8 fun v9 =>
  AppC 3 1 8 #[(.int .i64 0)] v7 v9 fun v10 =>
  FA v1 8 fun v11 =>
  St 1 v11 v10 fun _ =>
  LdN 9 v1 fun v12 =>
  St 9 v2 v12 fun _ =>
  LdN 9 v2 fun vr =>
  KR vr
theorem V.jacinthlaw19_copied_ok {a0 : Value} {K : Value → WP} {w : World} (h : V.jacinthlaw19_copied a0 K w) : Cl pg 25 #[a0] K w :=
  cl_of pg_mixed Tryz.func25 (args := [a0]) (by kernel_rfl) (by rw [show WF pg Tryz.f25 [a0] K = V.jacinthlaw19_copied a0 K from by kernel_rfl]; exact h)

def V.jacinthref07_Copy (a0 : Value) (KR : Value → WP) : WP :=
  AppC 5 1 1 #[(.int .u8 0)] (.slice none 0 0) a0 fun v6 =>
  KR v6
theorem V.jacinthref07_Copy_ok {a0 : Value} {K : Value → WP} {w : World} (h : V.jacinthref07_Copy a0 K w) : Cl pg 73 #[a0] K w :=
  cl_of pg_mixed Tryz.func73 (args := [a0]) (by kernel_rfl) (by rw [show WF pg Tryz.f73 [a0] K = V.jacinthref07_Copy a0 K from by kernel_rfl]; exact h)
end Go.Proofs.YtcdkbkgpgemfgaaGreatDoor
