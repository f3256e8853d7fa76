/- What each function asks, printed by a program of this session's own; each is checked against the code. -/
import Derived.Test.YtcdkbkgpgemfgaaGreatDoorV
set_option maxRecDepth 100000
namespace Go.Proofs.YtcdkbkgpgemfgaaGreatDoor
open Go Go.Jac
def V.jacinthlaw20_MachineNothing (a0 : Value) (KR : Value → WP) : WP :=
  FnV pg (.func (.func 27) #[] #[]) #[] fun v9 =>
  FnV pg (.func (.func 7) #[] #[]) #[v9] fun v10 =>
  EqP false v10 (.pointer none) fun v12 =>
  Grd v12 false (LenS a0 fun v15 =>
  BinI .gtr v15 (.int .i64 60) fun v16 =>
  Cnd v16 (EqP true v10 (.pointer none) fun v19 =>
  Grd v19 true (FnV pg (.func (.func 28) #[] #[]) #[] fun v21 =>
  KR v21)
  (KR (.bool false)))
  (LenS a0 fun v24 =>
  LoopC [(.bool false), (.int .i64 0)] fun vK vs => AllE <|
  UN vs fun v2 vs =>
  UN vs fun v25 _ =>
  BinI .lss v25 v24 fun v26 =>
  Cnd v26 (IA 12 a0 v25 fun v28 =>
  LdN 12 v28 fun v29 =>
  New 38 #[(.int .i64 0), (.int .i64 0), (.int .i64 0), (.int .i64 0), (.int .i64 0), (.int .i64 0), (.int .i64 0), (.int .i64 0), (.int .i64 0), (.int .i64 0), (.slice none 0 0), (.slice none 0 0)] fun v5 =>
  St 12 v5 v29 fun _ =>
  JoinC (fun _ => AllE (FnV pg (.func (.func 9) #[] #[]) #[v10] fun v35 =>
  FnV pg (.func (.func 29) #[] #[]) #[v35] fun v36 =>
  LdN 12 v5 fun v38 =>
  FnV pg (.func (.func 10) #[] #[]) #[v10, v38] fun v39 =>
  New 33 #[(.int .i64 0), (.int .i64 0), (.int .i64 0), (.slice none 0 0), (.slice none 0 0)] fun v7 =>
  St 5 v7 v39 fun _ =>
  FnV pg (.func (.func 30) #[] #[]) #[v10] fun v41 =>
  BinI .add v25 (.int .i64 1) fun v43 =>
  BinI .neq v41 v43 fun v44 =>
  Grd v44 false (FnV pg (.func (.func 9) #[] #[]) #[v10] fun v47 =>
  FnV pg (.func (.func 14) #[] #[]) #[v47] fun v48 =>
  LenS v48 fun v49 =>
  BinI .neq v49 (.int .i64 3) fun v50 =>
  Grd v50 false (FnV pg (.func (.func 31) #[] #[]) #[v10] fun v54 =>
  LenS v54 fun v55 =>
  BinI .neq v55 (.int .i64 1) fun v56 =>
  Cnd v56 (KR (.bool false))
  (FA v5 0 fun v58 =>
  Ld1 v58 fun v59 =>
  BinI .neq v59 (.int .i64 2) fun v60 =>
  Cnd v60 (LdN 5 v7 fun v61 =>
  Ex pg (bldS #[(.int .i64 0), (.int .i64 0), (.int .i64 0), (.slice none 0 0), (.slice none 0 0)] [(0, 1), (1, 1), (2, 1), (3, 1), (4, 1)] #[]) fun v62 =>
  FnV pg (.func (.func 32) #[] #[]) #[v61, v62] fun v63 =>
  Un .not v63 fun v64 =>
  Grd v64 false (FnV pg (.func (.func 9) #[] #[]) #[v10] fun v67 =>
  FnV pg (.func (.func 29) #[] #[]) #[v67] fun v68 =>
  BinI .neq v68 v36 fun v70 =>
  Cnd v70 (KR (.bool false))
  (BinI .add v25 (.int .i64 1) fun v116 =>
  vK [v2, v116]))
  (KR (.bool false)))
  (FA v5 2 fun v72 =>
  Ld1 v72 fun v73 =>
  BinI .geq v73 (.int .i64 0) fun v74 =>
  Grd v74 true (FA v5 2 fun v76 =>
  Ld1 v76 fun v77 =>
  BinI .sub (.int .i64 1099511627776) v36 fun v79 =>
  BinI .leq v77 v79 fun v80 =>
  Drw <| FA v7 0 fun v82 =>
  Ld1 v82 fun v83 =>
  BinI .neq v83 (.int .i64 4) fun v84 =>
  QtC fun I =>
  Grd v84 false (QE (fun _ => True) (fun KK => FA v7 2 fun v86 =>
  KK v86) fun v86_1 =>
  QE I (fun KK => Ld1 v86_1 fun v87 =>
  KK v87) fun v87_1 =>
  QE (fun _ => True) (fun KK => BinI .eql v87_1 (.int .i64 0) fun v88 =>
  KK v88) fun v88_1 =>
  EqB true v88_1 v80 fun v90 =>
  Grd v90 false (QtC fun I =>
  Grd v80 true (QE (fun _ => True) (fun KK => FA v5 2 fun v99 =>
  KK v99) fun v99_1 =>
  QE I (fun KK => Ld1 v99_1 fun v100 =>
  KK v100) fun v100_1 =>
  QE (fun _ => True) (fun KK => BinI .add v36 v100_1 fun v101 =>
  KK v101) fun v101_1 =>
  FnV pg (.func (.func 9) #[] #[]) #[v10] fun v96 =>
  CH I <|
  FnV pg (.func (.func 29) #[] #[]) #[v96] fun v97 =>
  CH I <|
  BinI .neq v97 v101_1 fun v102 =>
  Grd v102 false (Un .not v80 fun v107 =>
  QtC fun _ =>
  Grd v107 true (FnV pg (.func (.func 9) #[] #[]) #[v10] fun v110 =>
  FnV pg (.func (.func 29) #[] #[]) #[v110] fun v111 =>
  BinI .neq v111 v36 fun v113 =>
  Cnd v113 (KR (.bool false))
  (BinI .add v25 (.int .i64 1) fun v116_1 =>
  vK [v2, v116_1]))
  (BinI .add v25 (.int .i64 1) fun v116_2 =>
  vK [v2, v116_2]))
  (QtC fun _ =>
  KR (.bool false)))
  (CH I <|
  CH I <|
  Un .not v80 fun v107_1 =>
  QtC fun _ =>
  Grd v107_1 true (FnV pg (.func (.func 9) #[] #[]) #[v10] fun v110_1 =>
  FnV pg (.func (.func 29) #[] #[]) #[v110_1] fun v111_1 =>
  BinI .neq v111_1 v36 fun v113_1 =>
  Cnd v113_1 (KR (.bool false))
  (BinI .add v25 (.int .i64 1) fun v116_3 =>
  vK [v2, v116_3]))
  (BinI .add v25 (.int .i64 1) fun v116_4 =>
  vK [v2, v116_4])))
  (QtC fun I =>
  CH I <|
  CH I <|
  QtC fun _ =>
  KR (.bool false)))
  (QtC fun I =>
  CH I <|
  CH I <|
  QtC fun _ =>
  KR (.bool false)))
  (Drw <| FA v7 0 fun v82_1 =>
  Ld1 v82_1 fun v83_1 =>
  BinI .neq v83_1 (.int .i64 4) fun v84_1 =>
  QtC fun I =>
  Grd v84_1 false (QE (fun _ => True) (fun KK => FA v7 2 fun v86_2 =>
  KK v86_2) fun v86_3 =>
  QE I (fun KK => Ld1 v86_3 fun v87_2 =>
  KK v87_2) fun v87_3 =>
  QE (fun _ => True) (fun KK => BinI .eql v87_3 (.int .i64 0) fun v88_2 =>
  KK v88_2) fun v88_3 =>
  EqB true v88_3 (.bool false) fun v90_1 =>
  Grd v90_1 false (QtC fun I =>
  CH I <|
  CH I <|
  Un .not (.bool false) fun v107_2 =>
  QtC fun _ =>
  Grd v107_2 true (FnV pg (.func (.func 9) #[] #[]) #[v10] fun v110_2 =>
  FnV pg (.func (.func 29) #[] #[]) #[v110_2] fun v111_2 =>
  BinI .neq v111_2 v36 fun v113_2 =>
  Cnd v113_2 (KR (.bool false))
  (BinI .add v25 (.int .i64 1) fun v116_5 =>
  vK [v2, v116_5]))
  (BinI .add v25 (.int .i64 1) fun v116_6 =>
  vK [v2, v116_6]))
  (QtC fun I =>
  CH I <|
  CH I <|
  QtC fun _ =>
  KR (.bool false)))
  (QtC fun I =>
  CH I <|
  CH I <|
  QtC fun _ =>
  KR (.bool false))))))
  (KR (.bool false)))
  (KR (.bool false))))
  fun vK_1 =>
  FA v5 0 fun v30 =>
  Ld1 v30 fun v31 =>
  BinI .eql v31 (.int .i64 1) fun v32 =>
  Cnd v32 (FA v5 0 fun v33 =>
  St 1 v33 (.int .i64 0) fun _ =>
  vK_1 [])
  (vK_1 []))
  (FnV pg (.func (.func 28) #[] #[]) #[] fun v117 =>
  KR v117)))
  (EqP true v10 (.pointer none) fun v19_1 =>
  Grd v19_1 true (FnV pg (.func (.func 28) #[] #[]) #[] fun v21_1 =>
  KR v21_1)
  (KR (.bool false)))
theorem V.jacinthlaw20_MachineNothing_ok {a0 : Value} {K : Value → WP} {w : World} (h : V.jacinthlaw20_MachineNothing a0 K w) : Cl pg 6 #[a0] K w :=
  cl_of pg_mixed Tryz.func6 (args := [a0]) (by kernel_rfl) (by rw [show WF pg Tryz.f6 [a0] K = V.jacinthlaw20_MachineNothing a0 K from by kernel_rfl]; exact h)

def V.jacinthlaw20_settings (KR : Value → WP) : WP :=
  New 23 #[(.int .i64 0), (.int .i64 0), (.int .i64 0), (.int .i64 0), (.int .i64 0)] fun v0 =>
  Ex pg (bldS #[(.int .i64 0), (.int .i64 0), (.int .i64 0), (.int .i64 0), (.int .i64 0)] [(0, 1), (1, 1), (2, 1), (3, 1), (4, 1)] #[(0, (.int .i64 20)), (1, (.int .i64 10)), (2, (.int .i64 3)), (3, (.int .i64 10)), (4, (.int .i64 10))]) fun v1 =>
  St 5 v0 v1 fun _ =>
  LdN 5 v0 fun vr =>
  KR vr
theorem V.jacinthlaw20_settings_ok {K : Value → WP} {w : World} (h : V.jacinthlaw20_settings  K w) : Cl pg 27 #[] K w :=
  cl_of pg_mixed Tryz.func27 (args := []) (by kernel_rfl) (by rw [show WF pg Tryz.f27 [] K = V.jacinthlaw20_settings  K from by kernel_rfl]; exact h)

def V.jacinthlaw20_same (a0 a1 : Value) (KR : Value → WP) : WP :=
  New 33 (Value.cells a0) fun v2 =>
  New 33 (Value.cells a1) fun v3 =>
  FA v2 0 fun v5 =>
  Ld1 v5 fun v6 =>
  FA v3 0 fun v7 =>
  Ld1 v7 fun v8 =>
  BinI .eql v6 v8 fun v9 =>
  Grd v9 true (FA v2 1 fun v11 =>
  Ld1 v11 fun v12 =>
  FA v3 1 fun v13 =>
  Ld1 v13 fun v14 =>
  BinI .eql v12 v14 fun v15 =>
  Grd v15 true (FA v2 2 fun v18 =>
  Ld1 v18 fun v19 =>
  FA v3 2 fun v20 =>
  Ld1 v20 fun v21 =>
  BinI .eql v19 v21 fun v22 =>
  Grd v22 true (FA v2 3 fun v25 =>
  Ld1 v25 fun v26 =>
  FA v3 3 fun v27 =>
  Ld1 v27 fun v28 =>
  FnV pg (.func (.func 77) #[] #[]) #[v26, v28] fun v29 =>
  Grd v29 true (FA v2 4 fun v32 =>
  Ld1 v32 fun v33 =>
  FA v3 4 fun v34 =>
  Ld1 v34 fun v35 =>
  FnV pg (.func (.func 78) #[] #[]) #[v33, v35] fun v36 =>
  KR v36)
  (KR (.bool false)))
  (KR (.bool false)))
  (KR (.bool false)))
  (KR (.bool false))
theorem V.jacinthlaw20_same_ok {a0 a1 : Value} {K : Value → WP} {w : World} (h : V.jacinthlaw20_same a0 a1 K w) : Cl pg 32 #[a0, a1] K w :=
  cl_of pg_mixed Tryz.func32 (args := [a0, a1]) (by kernel_rfl) (by rw [show WF pg Tryz.f32 [a0, a1] K = V.jacinthlaw20_same a0 a1 K from by kernel_rfl]; exact h)

def V.jacinthlaw20_ints (a0 a1 : Value) (KR : Value → WP) : WP :=
  LenS a0 fun v7 =>
  LenS a1 fun v9 =>
  BinI .neq v7 v9 fun v10 =>
  Cnd v10 (KR (.bool false))
  (LenS a0 fun v12 =>
  LoopC [(.bool false), (.int .i64 0)] fun vK vs => AllE <|
  UN vs fun v4 vs =>
  UN vs fun v13 _ =>
  BinI .lss v13 v12 fun v14 =>
  Cnd v14 (Drw <| QtC fun I =>
  QE (fun _ => True) (fun KK => IA 1 a0 v13 fun v18 =>
  KK v18) fun v18_1 =>
  QE I (fun KK => Ld1 v18_1 fun v19 =>
  KK v19) fun v19_1 =>
  QE (fun _ => True) (fun KK => IA 1 a1 v13 fun v22 =>
  KK v22) fun v22_1 =>
  QE I (fun KK => Ld1 v22_1 fun v23 =>
  KK v23) fun v23_1 =>
  BinI .neq v19_1 v23_1 fun v24 =>
  Cnd v24 (KR (.bool false))
  (BinI .add v13 (.int .i64 1) fun v25 =>
  vK [v4, v25]))
  (KR (.bool true)))
theorem V.jacinthlaw20_ints_ok {a0 a1 : Value} {K : Value → WP} {w : World} (h : V.jacinthlaw20_ints a0 a1 K w) : Cl pg 77 #[a0, a1] K w :=
  cl_of pg_mixed Tryz.func77 (args := [a0, a1]) (by kernel_rfl) (by rw [show WF pg Tryz.f77 [a0, a1] K = V.jacinthlaw20_ints a0 a1 K from by kernel_rfl]; exact h)

def V.jacinthref07_Same (a0 a1 : Value) (KR : Value → WP) : WP :=
  Ex pg (convert 31 9 a0) fun v6 =>
  Ex pg (convert 31 9 a1) fun v8 =>
  BinX pg .eql 9 (.tmp 6) (.tmp 8) v6 v8 fun v9 =>
  KR v9
theorem V.jacinthref07_Same_ok {a0 a1 : Value} {K : Value → WP} {w : World} (h : V.jacinthref07_Same a0 a1 K w) : Cl pg 78 #[a0, a1] K w :=
  cl_of pg_mixed Tryz.func78 (args := [a0, a1]) (by kernel_rfl) (by rw [show WF pg Tryz.f78 [a0, a1] K = V.jacinthref07_Same a0 a1 K from by kernel_rfl]; exact h)
end Go.Proofs.YtcdkbkgpgemfgaaGreatDoor
