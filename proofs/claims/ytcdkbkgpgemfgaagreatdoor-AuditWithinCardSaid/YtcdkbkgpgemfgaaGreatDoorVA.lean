/- What each function asks, printed by a program of this session's own; each is checked against the code. -/
import Derived.Test.YtcdkbkgpgemfgaaGreatDoorV
set_option maxRecDepth 100000
namespace Go.Proofs.YtcdkbkgpgemfgaaGreatDoor
open Go Go.Jac
def V.jacinthlaw21_AuditWithin (a0 a1 a2 : Value) (KR : Value → WP) : WP :=
  LenS a0 fun v9 =>
  BinI .gtr v9 (.int .i64 60) fun v10 =>
  Grd v10 false (LenS a1 fun v13 =>
  BinI .gtr v13 (.int .i64 60) fun v14 =>
  Grd v14 false (LenS a2 fun v18 =>
  BinI .gtr v18 (.int .i64 60) fun v19 =>
  Cnd v19 (FnV pg (.func (.func 16) #[] #[]) #[] fun v21 =>
  KR v21)
  (FnV pg (.func (.func 17) #[] #[]) #[a0] fun v24 =>
  FnV pg (.func (.func 17) #[] #[]) #[a1] fun v27 =>
  BSlC 3 1 #[(.int .i64 0)] 0 #[] fun v28 =>
  AppC 3 1 8 #[(.int .i64 0)] v28 a2 fun v30 =>
  FnV pg (.func (.func 18) #[] #[]) #[v24, v27, v30] fun v31 =>
  FnV pg (.func (.func 19) #[] #[]) #[a0, a1, a2] fun v35 =>
  EqB false v31 v35 fun v36 =>
  Grd v36 true (FnV pg (.func (.func 16) #[] #[]) #[] fun v38 =>
  KR v38)
  (KR (.bool false))))
  (FnV pg (.func (.func 16) #[] #[]) #[] fun v21_1 =>
  KR v21_1))
  (FnV pg (.func (.func 16) #[] #[]) #[] fun v21_2 =>
  KR v21_2)
theorem V.jacinthlaw21_AuditWithin_ok {a0 a1 a2 : Value} {K : Value → WP} {w : World} (h : V.jacinthlaw21_AuditWithin a0 a1 a2 K w) : Cl pg 4 #[a0, a1, a2] K w :=
  cl_of pg_mixed Tryz.func4 (args := [a0, a1, a2]) (by kernel_rfl) (by rw [show WF pg Tryz.f4 [a0, a1, a2] K = V.jacinthlaw21_AuditWithin a0 a1 a2 K from by kernel_rfl]; exact h)

def V.jacinthlaw21_AuditWithin_c1 (a0 : Value) (KR : Value → WP) : WP :=
  LenS a0 fun v7 =>
  LoopC [(.slice none 0 0), (.int .i64 0)] fun vK vs => AllE <|
  UN vs fun v3 vs =>
  UN vs fun v8 _ =>
  BinI .lss v8 v7 fun v9 =>
  Cnd v9 (IA 2 a0 v8 fun v10 =>
  LdN 2 v10 fun v11 =>
  New 47 #[(.int .i64 0), (.int .i64 0)] fun v5 =>
  St 2 v5 v11 fun _ =>
  FA v5 0 fun v13 =>
  Ld1 v13 fun v14 =>
  FA v5 1 fun v15 =>
  Ld1 v15 fun v16 =>
  Ex pg (bldS #[(.int .i64 0), (.int .i64 0)] [(0, 1), (1, 1)] #[(0, v14), (1, v16)]) fun v17 =>
  BSlC 50 2 #[(.int .i64 0), (.int .i64 0)] 1 #[(0, v17)] fun v18 =>
  AppC 50 2 16 #[(.int .i64 0), (.int .i64 0)] v3 v18 fun v19 =>
  BinI .add v8 (.int .i64 1) fun v20 =>
  vK [v19, v20])
  (KR v3)
theorem V.jacinthlaw21_AuditWithin_c1_ok {a0 : Value} {K : Value → WP} {w : World} (h : V.jacinthlaw21_AuditWithin_c1 a0 K w) : Cl pg 17 #[a0] K w :=
  cl_of pg_mixed Tryz.func17 (args := [a0]) (by kernel_rfl) (by rw [show WF pg Tryz.f17 [a0] K = V.jacinthlaw21_AuditWithin_c1 a0 K from by kernel_rfl]; exact h)

def V.audit_Within (a0 a1 a2 : Value) (KR : Value → WP) : WP :=
  LenS a0 fun v12 =>
  LoopC [(.bool false), (.int .i64 0)] fun vK vs => AllE <|
  UN vs fun v6 vs =>
  UN vs fun v13 _ =>
  BinI .lss v13 v12 fun v14 =>
  Cnd v14 (IA 2 a0 v13 fun v15 =>
  LdN 2 v15 fun v16 =>
  New 50 #[(.int .i64 0), (.int .i64 0)] fun v8 =>
  St 2 v8 v16 fun _ =>
  FA v8 0 fun v18 =>
  Ld1 v18 fun v19 =>
  FnV pg (.func (.func 48) #[] #[]) #[a2, v19] fun v20 =>
  Cnd v20 (BinI .add v13 (.int .i64 1) fun v40 =>
  vK [v6, v40])
  (LenS a1 fun v22 =>
  LoopC [(.int .i64 0)] fun vK_1 vs => AllE <|
  UN vs fun v23 _ =>
  BinI .lss v23 v22 fun v24 =>
  Cnd v24 (IA 2 a1 v23 fun v25 =>
  LdN 2 v25 fun v26 =>
  New 50 #[(.int .i64 0), (.int .i64 0)] fun v10 =>
  St 2 v10 v26 fun _ =>
  FA v10 0 fun v27 =>
  Ld1 v27 fun v28 =>
  FA v8 0 fun v29 =>
  Ld1 v29 fun v30 =>
  BinI .eql v28 v30 fun v31 =>
  Grd v31 true (FA v10 1 fun v33 =>
  Ld1 v33 fun v34 =>
  FA v8 1 fun v35 =>
  Ld1 v35 fun v36 =>
  FnV pg (.func (.func 49) #[] #[]) #[v34, v36] fun v37 =>
  Cnd v37 (BinI .add v13 (.int .i64 1) fun v40_1 =>
  vK [v6, v40_1])
  (BinI .add v23 (.int .i64 1) fun v39 =>
  vK_1 [v39]))
  (BinI .add v23 (.int .i64 1) fun v39_1 =>
  vK_1 [v39_1]))
  (KR (.bool false))))
  (KR (.bool true))
theorem V.audit_Within_ok {a0 a1 a2 : Value} {K : Value → WP} {w : World} (h : V.audit_Within a0 a1 a2 K w) : Cl pg 18 #[a0, a1, a2] K w :=
  cl_of pg_mixed Tryz.func18 (args := [a0, a1, a2]) (by kernel_rfl) (by rw [show WF pg Tryz.f18 [a0, a1, a2] K = V.audit_Within a0 a1 a2 K from by kernel_rfl]; exact h)

def V.slices_Contains_int_int (a0 a1 : Value) (KR : Value → WP) : WP :=
  FnV pg (.func (.func 95) #[] #[]) #[a0, a1] fun v7 =>
  BinI .geq v7 (.int .i64 0) fun v8 =>
  KR v8
theorem V.slices_Contains_int_int_ok {a0 a1 : Value} {K : Value → WP} {w : World} (h : V.slices_Contains_int_int a0 a1 K w) : Cl pg 48 #[a0, a1] K w :=
  cl_of pg_mixed Tryz.func48 (args := [a0, a1]) (by kernel_rfl) (by rw [show WF pg Tryz.f48 [a0, a1] K = V.slices_Contains_int_int a0 a1 K from by kernel_rfl]; exact h)

def V.rights_Rights_Has (a0 a1 : Value) (KR : Value → WP) : WP :=
  BinI .andNot a1 a0 fun v7 =>
  BinI .eql v7 (.int .i64 0) fun v8 =>
  KR v8
theorem V.rights_Rights_Has_ok {a0 a1 : Value} {K : Value → WP} {w : World} (h : V.rights_Rights_Has a0 a1 K w) : Cl pg 49 #[a0, a1] K w :=
  cl_of pg_mixed Tryz.func49 (args := [a0, a1]) (by kernel_rfl) (by rw [show WF pg Tryz.f49 [a0, a1] K = V.rights_Rights_Has a0 a1 K from by kernel_rfl]; exact h)

def V.jacinthref21_Sub (a0 a1 : Value) (KR : Value → WP) : WP :=
  BinI .or a0 a1 fun v7 =>
  BinI .eql v7 a0 fun v9 =>
  KR v9
theorem V.jacinthref21_Sub_ok {a0 a1 : Value} {K : Value → WP} {w : World} (h : V.jacinthref21_Sub a0 a1 K w) : Cl pg 50 #[a0, a1] K w :=
  cl_of pg_mixed Tryz.func50 (args := [a0, a1]) (by kernel_rfl) (by rw [show WF pg Tryz.f50 [a0, a1] K = V.jacinthref21_Sub a0 a1 K from by kernel_rfl]; exact h)

def V.slices_Index_int_int (a0 a1 : Value) (KR : Value → WP) : WP :=
  LenS a0 fun v7 =>
  LoopC [(.int .i64 0), (.int .i64 0)] fun vK vs => AllE <|
  UN vs fun v4 vs =>
  UN vs fun v8 _ =>
  BinI .lss v8 v7 fun v9 =>
  Cnd v9 (IA 1 a0 v8 fun v14 =>
  Ld1 v14 fun v15 =>
  BinI .eql a1 v15 fun v16 =>
  Cnd v16 (KR v8)
  (BinI .add v8 (.int .i64 1) fun v18 =>
  vK [v4, v18]))
  (KR (.int .i64 (-1)))
theorem V.slices_Index_int_int_ok {a0 a1 : Value} {K : Value → WP} {w : World} (h : V.slices_Index_int_int a0 a1 K w) : Cl pg 95 #[a0, a1] K w :=
  cl_of pg_mixed Tryz.func95 (args := [a0, a1]) (by kernel_rfl) (by rw [show WF pg Tryz.f95 [a0, a1] K = V.slices_Index_int_int a0 a1 K from by kernel_rfl]; exact h)
end Go.Proofs.YtcdkbkgpgemfgaaGreatDoor
