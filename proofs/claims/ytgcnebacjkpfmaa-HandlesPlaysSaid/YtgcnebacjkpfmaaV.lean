/- What each function asks, printed by a program of this session's own; each is checked against the code. -/
import Derived.Test.YtgcnebacjkpfmaaBj
import Derived.Test.YtgcnebacjkpfmaaProg
set_option maxRecDepth 100000
namespace Go.Proofs.Ytgcnebacjkpfmaa
open Go Go.Jac
noncomputable abbrev pg : Program := Try.prog
theorem pg_mixed : pg.follows .mixedOrders = true := by kernel_rfl
def V.gosem_cut_init (KR : Value → WP) : WP :=
  FnV pg (.func (.func 1) #[] #[]) #[] fun _ =>
  KR (.tuple #[])
theorem V.gosem_cut_init_ok {K : Value → WP} {w : World} (h : V.gosem_cut_init  K w) : Cl pg 2 #[] K w :=
  cl_of pg_mixed Try.func2 (args := []) (by kernel_rfl) (by rw [show WF pg Try.f2 [] K = V.gosem_cut_init  K from by kernel_rfl]; exact h)

def V.jacinthlaw06_HandlesValues (a0 a1 a2 : Value) (KR : Value → WP) : WP :=
  FnV pg (.func (.func 9) #[] #[]) #[a0, a1] fun v12 =>
  JoinC (fun vs => AllE (UN vs fun _ _ =>
  FnV pg (.func (.func 11) #[] #[]) #[a2] fun v37 =>
  BinI .rem a2 (.int .i64 1048576) fun v39 =>
  BinI .lss a2 (.int .i64 0) fun v41 =>
  Grd v41 false (BinI .geq a2 (.int .i64 68719476736) fun v44 =>
  Grd v44 false (BinI .rem a2 (.int .i64 4) fun v48 =>
  BinI .neq v48 (.int .i64 3) fun v49 =>
  Grd v49 false (BinI .geq v39 (.int .i64 262144) fun v53 =>
  Cnd v53 (BinI .eql v37 (.int .i64 (-1)) fun v56 =>
  Grd v56 true (FnV pg (.func (.func 12) #[] #[]) #[] fun v58 =>
  KR v58)
  (KR (.bool false)))
  (BinI .sub v39 (.int .i64 3) fun v62 =>
  BinI .quo v62 (.int .i64 4) fun v63 =>
  BinI .eql v37 v63 fun v64 =>
  Grd v64 true (BinI .quo a2 (.int .i64 1048576) fun v68 =>
  FnV pg (.func (.func 9) #[] #[]) #[v37, v68] fun v69 =>
  BinI .eql v69 a2 fun v71 =>
  Grd v71 true (FnV pg (.func (.func 12) #[] #[]) #[] fun v74 =>
  KR v74)
  (KR (.bool false)))
  (KR (.bool false))))
  (BinI .eql v37 (.int .i64 (-1)) fun v56_1 =>
  Grd v56_1 true (FnV pg (.func (.func 12) #[] #[]) #[] fun v58_1 =>
  KR v58_1)
  (KR (.bool false))))
  (BinI .eql v37 (.int .i64 (-1)) fun v56_2 =>
  Grd v56_2 true (FnV pg (.func (.func 12) #[] #[]) #[] fun v58_2 =>
  KR v58_2)
  (KR (.bool false))))
  (BinI .eql v37 (.int .i64 (-1)) fun v56_3 =>
  Grd v56_3 true (FnV pg (.func (.func 12) #[] #[]) #[] fun v58_3 =>
  KR v58_3)
  (KR (.bool false)))))
  fun vK =>
  BinI .lss a0 (.int .i64 0) fun v14 =>
  Grd v14 false (BinI .geq a0 (.int .i64 65536) fun v17 =>
  Cnd v17 (BinI .neq v12 (.int .i64 0) fun v20 =>
  Cnd v20 (KR (.bool false))
  (vK [(.bool false)]))
  (FnV pg (.func (.func 10) #[] #[]) #[a1] fun v23 =>
  BinI .mul v23 (.int .i64 1048576) fun v24 =>
  BinI .mul a0 (.int .i64 4) fun v26 =>
  BinI .add v24 v26 fun v27 =>
  BinI .add v27 (.int .i64 3) fun v28 =>
  BinI .neq v12 v28 fun v29 =>
  Grd v29 false (FnV pg (.func (.func 11) #[] #[]) #[v12] fun v32 =>
  BinI .neq v32 a0 fun v34 =>
  Cnd v34 (KR (.bool false))
  (vK [(.bool false)]))
  (KR (.bool false))))
  (BinI .neq v12 (.int .i64 0) fun v20_1 =>
  Cnd v20_1 (KR (.bool false))
  (vK [(.bool false)]))
theorem V.jacinthlaw06_HandlesValues_ok {a0 a1 a2 : Value} {K : Value → WP} {w : World} (h : V.jacinthlaw06_HandlesValues a0 a1 a2 K w) : Cl pg 3 #[a0, a1, a2] K w :=
  cl_of pg_mixed Try.func3 (args := [a0, a1, a2]) (by kernel_rfl) (by rw [show WF pg Try.f3 [a0, a1, a2] K = V.jacinthlaw06_HandlesValues a0 a1 a2 K from by kernel_rfl]; exact h)

def V.jacinthlaw06_HandlesLowest (a0 : Value) (KR : Value → WP) : WP :=
  New 27 (Value.cells a0) fun v1 =>
  Drw <| QtC fun I =>
  QE I (fun KK => FA v1 0 fun v18 =>
  KK v18) fun v18_1 =>
  QE I (fun KK => Ld1 v18_1 fun v19 =>
  KK v19) fun v19_1 =>
  QE I (fun KK => FA v1 1 fun v20 =>
  KK v20) fun v20_1 =>
  QE I (fun KK => Ld1 v20_1 fun v21 =>
  KK v21) fun v21_1 =>
  QE I (fun KK => FA v1 2 fun v22 =>
  KK v22) fun v22_1 =>
  QE I (fun KK => Ld1 v22_1 fun v23 =>
  KK v23) fun v23_1 =>
  QE I (fun KK => FA v1 3 fun v24 =>
  KK v24) fun v24_1 =>
  QE I (fun KK => Ld1 v24_1 fun v25 =>
  KK v25) fun v25_1 =>
  FnV pg (.func (.func 13) #[] #[]) #[(.int .i64 32)] fun v26 =>
  EqP false v26 (.pointer none) fun v28 =>
  Grd v28 false (BinI .lss v19_1 (.int .i64 1) fun v31 =>
  Grd v31 false (BinI .gtr v19_1 (.int .i64 30) fun v35 =>
  Grd v35 false (BinI .lss v21_1 (.int .i64 0) fun v39 =>
  Grd v39 false (BinI .geq v21_1 v19_1 fun v44 =>
  Cnd v44 (EqP true v26 (.pointer none) fun v47 =>
  Grd v47 true (FnV pg (.func (.func 12) #[] #[]) #[] fun v49 =>
  KR v49)
  (KR (.bool false)))
  (LoopC [(.bool false), (.int .i64 0)] fun vK vs => AllE <|
  UN vs fun v2 vs =>
  UN vs fun v52 _ =>
  BinI .lss v52 v19_1 fun v53 =>
  Cnd v53 (Ex pg (bldS #[(.int .i64 0), (.int .i64 0), (.int .i64 0)] [(0, 1), (1, 1), (2, 1)] #[(0, v52)]) fun v58 =>
  FnV pg (.func (.func 14) #[] #[]) #[v26, v58, v23_1] fun v60 =>
  Ext v60 0 fun v61 =>
  Ext v60 1 fun v62 =>
  BinI .neq v62 (.int .i64 0) fun v64 =>
  Grd v64 false (FnV pg (.func (.func 11) #[] #[]) #[v61] fun v67 =>
  BinI .neq v67 v52 fun v69 =>
  Cnd v69 (KR (.bool false))
  (BinI .add v52 (.int .i64 1) fun v71 =>
  vK [v2, v71]))
  (KR (.bool false)))
  (FnV pg (.func (.func 9) #[] #[]) #[v21_1, v23_1] fun v74 =>
  FnV pg (.func (.func 15) #[] #[]) #[v26, v74] fun v78 =>
  Ext v78 0 fun v79 =>
  Ext v78 1 fun v80 =>
  New 35 #[(.int .i64 0), (.int .i64 0), (.int .i64 0)] fun v12 =>
  St 3 v12 v79 fun _ =>
  BinI .neq v80 (.int .i64 0) fun v82 =>
  Cnd v82 (KR (.bool false))
  (Ex pg (bldS #[(.int .i64 0), (.int .i64 0), (.int .i64 0)] [(0, 1), (1, 1), (2, 1)] #[(0, (.int .i64 99))]) fun v85 =>
  FnV pg (.func (.func 14) #[] #[]) #[v26, v85, v25_1] fun v87 =>
  Ext v87 0 fun v88 =>
  Ext v87 1 fun v89 =>
  BinI .neq v89 (.int .i64 0) fun v91 =>
  Grd v91 false (FnV pg (.func (.func 11) #[] #[]) #[v88] fun v94 =>
  BinI .neq v94 v21_1 fun v96 =>
  Grd v96 false (BinI .eql v88 v74 fun v101 =>
  BinI .and v23_1 (.int .i64 65535) fun v103 =>
  BinI .and v25_1 (.int .i64 65535) fun v105 =>
  BinI .eql v103 v105 fun v106 =>
  EqB true v101 v106 fun v107 =>
  Cnd v107 (KR (.bool false))
  (FnV pg (.func (.func 16) #[] #[]) #[v26, v74] fun v112 =>
  Ext v112 0 fun v113 =>
  Ext v112 1 fun v114 =>
  New 35 #[(.int .i64 0), (.int .i64 0), (.int .i64 0)] fun v16 =>
  St 3 v16 v113 fun _ =>
  BinI .eql v114 (.int .i64 0) fun v116 =>
  BinI .eql v88 v74 fun v119 =>
  EqB false v116 v119 fun v120 =>
  Grd v120 true (BinI .neq v114 (.int .i64 0) fun v123 =>
  Grd v123 false (FA v16 0 fun v125 =>
  Ld1 v125 fun v126 =>
  BinI .eql v126 (.int .i64 99) fun v127 =>
  Grd v127 true (FnV pg (.func (.func 12) #[] #[]) #[] fun v131 =>
  KR v131)
  (KR (.bool false)))
  (FnV pg (.func (.func 12) #[] #[]) #[] fun v131_1 =>
  KR v131_1))
  (KR (.bool false))))
  (KR (.bool false)))
  (KR (.bool false))))))
  (EqP true v26 (.pointer none) fun v47_1 =>
  Grd v47_1 true (FnV pg (.func (.func 12) #[] #[]) #[] fun v49_1 =>
  KR v49_1)
  (KR (.bool false))))
  (EqP true v26 (.pointer none) fun v47_2 =>
  Grd v47_2 true (FnV pg (.func (.func 12) #[] #[]) #[] fun v49_2 =>
  KR v49_2)
  (KR (.bool false))))
  (EqP true v26 (.pointer none) fun v47_3 =>
  Grd v47_3 true (FnV pg (.func (.func 12) #[] #[]) #[] fun v49_3 =>
  KR v49_3)
  (KR (.bool false))))
  (EqP true v26 (.pointer none) fun v47_4 =>
  Grd v47_4 true (FnV pg (.func (.func 12) #[] #[]) #[] fun v49_4 =>
  KR v49_4)
  (KR (.bool false)))
theorem V.jacinthlaw06_HandlesLowest_ok {a0 : Value} {K : Value → WP} {w : World} (h : V.jacinthlaw06_HandlesLowest a0 K w) : Cl pg 4 #[a0] K w :=
  cl_of pg_mixed Try.func4 (args := [a0]) (by kernel_rfl) (by rw [show WF pg Try.f4 [a0] K = V.jacinthlaw06_HandlesLowest a0 K from by kernel_rfl]; exact h)

def V.jacinthlaw06_HandlesFinds (a0 : Value) (KR : Value → WP) : WP :=
  New 40 (Value.cells a0) fun v1 =>
  FnV pg (.func (.func 13) #[] #[]) #[(.int .i64 2)] fun v11 =>
  EqP false v11 (.pointer none) fun v13 =>
  Cnd v13 (KR (.bool false))
  (FA v1 0 fun v16 =>
  LdN 3 v16 fun v17 =>
  FA v1 3 fun v18 =>
  Ld1 v18 fun v19 =>
  FnV pg (.func (.func 14) #[] #[]) #[v11, v17, v19] fun v20 =>
  Ext v20 0 fun v21 =>
  Ext v20 1 fun v22 =>
  FA v1 4 fun v26 =>
  Ld1 v26 fun v27 =>
  FA v1 5 fun v28 =>
  Ld1 v28 fun v29 =>
  FnV pg (.func (.func 17) #[] #[]) #[v11, v21, v27, v29] fun v30 =>
  Ext v30 0 fun v31 =>
  Ext v30 1 fun v32 =>
  New 35 #[(.int .i64 0), (.int .i64 0), (.int .i64 0)] fun v6 =>
  St 3 v6 v31 fun _ =>
  BinI .neq v22 (.int .i64 0) fun v34 =>
  Cnd v34 (KR (.bool false))
  (JoinC (fun vs => AllE (UN vs fun v8 _ =>
  BinI .neq v32 v8 fun v57 =>
  Grd v57 false (BinI .eql v32 (.int .i64 0) fun v60 =>
  Grd v60 true (LdN 3 v6 fun v62 =>
  FA v1 0 fun v63 =>
  LdN 3 v63 fun v64 =>
  EqS 3 true v62 v64 fun v65 =>
  Grd v65 false (BinI .neq v32 (.int .i64 0) fun v70 =>
  Grd v70 true (LdN 3 v6 fun v72 =>
  Ex pg (bldS #[(.int .i64 0), (.int .i64 0), (.int .i64 0)] [(0, 1), (1, 1), (2, 1)] #[]) fun v73 =>
  EqS 3 true v72 v73 fun v74 =>
  Cnd v74 (KR (.bool false))
  (BinI .add v21 (.int .i64 4) fun v80 =>
  FA v1 4 fun v81 =>
  Ld1 v81 fun v82 =>
  FA v1 5 fun v83 =>
  Ld1 v83 fun v84 =>
  FnV pg (.func (.func 17) #[] #[]) #[v11, v80, v82, v84] fun v85 =>
  Ext v85 0 fun v86 =>
  Ext v85 1 fun v87 =>
  New 35 #[(.int .i64 0), (.int .i64 0), (.int .i64 0)] fun v9 =>
  St 3 v9 v86 fun _ =>
  BinI .eql v87 (.int .i64 (-11)) fun v89 =>
  Grd v89 true (FnV pg (.func (.func 12) #[] #[]) #[] fun v91 =>
  KR v91)
  (KR (.bool false))))
  (BinI .add v21 (.int .i64 4) fun v80_1 =>
  FA v1 4 fun v81_1 =>
  Ld1 v81_1 fun v82_1 =>
  FA v1 5 fun v83_1 =>
  Ld1 v83_1 fun v84_1 =>
  FnV pg (.func (.func 17) #[] #[]) #[v11, v80_1, v82_1, v84_1] fun v85_1 =>
  Ext v85_1 0 fun v86_1 =>
  Ext v85_1 1 fun v87_1 =>
  New 35 #[(.int .i64 0), (.int .i64 0), (.int .i64 0)] fun v9_1 =>
  St 3 v9_1 v86_1 fun _ =>
  BinI .eql v87_1 (.int .i64 (-11)) fun v89_1 =>
  Grd v89_1 true (FnV pg (.func (.func 12) #[] #[]) #[] fun v91_1 =>
  KR v91_1)
  (KR (.bool false))))
  (KR (.bool false)))
  (BinI .neq v32 (.int .i64 0) fun v70_1 =>
  Grd v70_1 true (LdN 3 v6 fun v72_1 =>
  Ex pg (bldS #[(.int .i64 0), (.int .i64 0), (.int .i64 0)] [(0, 1), (1, 1), (2, 1)] #[]) fun v73_1 =>
  EqS 3 true v72_1 v73_1 fun v74_1 =>
  Cnd v74_1 (KR (.bool false))
  (BinI .add v21 (.int .i64 4) fun v80_2 =>
  FA v1 4 fun v81_2 =>
  Ld1 v81_2 fun v82_2 =>
  FA v1 5 fun v83_2 =>
  Ld1 v83_2 fun v84_2 =>
  FnV pg (.func (.func 17) #[] #[]) #[v11, v80_2, v82_2, v84_2] fun v85_2 =>
  Ext v85_2 0 fun v86_2 =>
  Ext v85_2 1 fun v87_2 =>
  New 35 #[(.int .i64 0), (.int .i64 0), (.int .i64 0)] fun v9_2 =>
  St 3 v9_2 v86_2 fun _ =>
  BinI .eql v87_2 (.int .i64 (-11)) fun v89_2 =>
  Grd v89_2 true (FnV pg (.func (.func 12) #[] #[]) #[] fun v91_2 =>
  KR v91_2)
  (KR (.bool false))))
  (BinI .add v21 (.int .i64 4) fun v80_3 =>
  FA v1 4 fun v81_3 =>
  Ld1 v81_3 fun v82_3 =>
  FA v1 5 fun v83_3 =>
  Ld1 v83_3 fun v84_3 =>
  FnV pg (.func (.func 17) #[] #[]) #[v11, v80_3, v82_3, v84_3] fun v85_3 =>
  Ext v85_3 0 fun v86_3 =>
  Ext v85_3 1 fun v87_3 =>
  New 35 #[(.int .i64 0), (.int .i64 0), (.int .i64 0)] fun v9_3 =>
  St 3 v9_3 v86_3 fun _ =>
  BinI .eql v87_3 (.int .i64 (-11)) fun v89_3 =>
  Grd v89_3 true (FnV pg (.func (.func 12) #[] #[]) #[] fun v91_3 =>
  KR v91_3)
  (KR (.bool false)))))
  (KR (.bool false))))
  fun vK =>
  FA v1 4 fun v36 =>
  Ld1 v36 fun v37 =>
  BinI .neq v37 (.int .i64 0) fun v38 =>
  Grd v38 true (FA v1 4 fun v40 =>
  Ld1 v40 fun v41 =>
  FA v1 0 fun v42 =>
  FA v42 1 fun v43 =>
  Ld1 v43 fun v44 =>
  BinI .neq v41 v44 fun v45 =>
  Cnd v45 (vK [(.int .i64 (-12))])
  (FA v1 5 fun v48 =>
  Ld1 v48 fun v49 =>
  FA v1 0 fun v50 =>
  FA v50 2 fun v51 =>
  Ld1 v51 fun v52 =>
  BinI .andNot v49 v52 fun v53 =>
  BinI .neq v53 (.int .i64 0) fun v54 =>
  Cnd v54 (vK [(.int .i64 (-30))])
  (vK [(.int .i64 0)])))
  (FA v1 5 fun v48_1 =>
  Ld1 v48_1 fun v49_1 =>
  FA v1 0 fun v50_1 =>
  FA v50_1 2 fun v51_1 =>
  Ld1 v51_1 fun v52_1 =>
  BinI .andNot v49_1 v52_1 fun v53_1 =>
  BinI .neq v53_1 (.int .i64 0) fun v54_1 =>
  Cnd v54_1 (vK [(.int .i64 (-30))])
  (vK [(.int .i64 0)]))))
theorem V.jacinthlaw06_HandlesFinds_ok {a0 : Value} {K : Value → WP} {w : World} (h : V.jacinthlaw06_HandlesFinds a0 K w) : Cl pg 5 #[a0] K w :=
  cl_of pg_mixed Try.func5 (args := [a0]) (by kernel_rfl) (by rw [show WF pg Try.f5 [a0] K = V.jacinthlaw06_HandlesFinds a0 K from by kernel_rfl]; exact h)

def V.jacinthlaw06_HandlesAll (a0 a1 : Value) (KR : Value → WP) : WP :=
  FnV pg (.func (.func 13) #[] #[]) #[(.int .i64 64)] fun v20 =>
  FnV pg (.func (.func 13) #[] #[]) #[(.int .i64 64)] fun v21 =>
  EqP false v20 (.pointer none) fun v23 =>
  Grd v23 false (EqP false v21 (.pointer none) fun v26 =>
  Grd v26 false (BinI .lss a0 (.int .i64 0) fun v30 =>
  Grd v30 false (BinI .gtr a0 (.int .i64 60) fun v34 =>
  Grd v34 false (LenS a1 fun v38 =>
  BinI .gtr v38 (.int .i64 60) fun v39 =>
  Cnd v39 (EqP true v20 (.pointer none) fun v42 =>
  Grd v42 true (EqP true v21 (.pointer none) fun v45 =>
  Grd v45 true (FnV pg (.func (.func 12) #[] #[]) #[] fun v48 =>
  KR v48)
  (KR (.bool false)))
  (KR (.bool false)))
  (LoopC [(.int .i64 0)] fun vK vs => AllE <|
  UN vs fun v51 _ =>
  BinI .lss v51 a0 fun v52 =>
  Cnd v52 (Ex pg (bldS #[(.int .i64 0), (.int .i64 0), (.int .i64 0)] [(0, 1), (1, 1), (2, 1)] #[(0, v51)]) fun v56 =>
  BinI .mul v51 v51 fun v59 =>
  FnV pg (.func (.func 14) #[] #[]) #[v20, v56, v59] fun _ =>
  Ex pg (bldS #[(.int .i64 0), (.int .i64 0), (.int .i64 0)] [(0, 1), (1, 1), (2, 1)] #[(0, v51)]) fun v63 =>
  BinI .mul v51 v51 fun v66 =>
  FnV pg (.func (.func 14) #[] #[]) #[v21, v63, v66] fun _ =>
  BinI .add v51 (.int .i64 1) fun v68 =>
  vK [v68])
  (MkSC 3 1 8 #[(.int .i64 0)] a0 a0 fun v70 =>
  LenS a1 fun v72 =>
  LoopC [(.bool false), (.bool true), (.slice none 0 0), (.int .i64 0)] fun vK_1 vs => AllE <|
  UN vs fun v4 vs =>
  UN vs fun v10 vs =>
  UN vs fun v8 vs =>
  UN vs fun v73 _ =>
  BinI .lss v73 v72 fun v74 =>
  Cnd v74 (IA 1 a1 v73 fun v75 =>
  Ld1 v75 fun v76 =>
  JoinC (fun vs => AllE (UN vs fun v13 vs =>
  UN vs fun v4_1 _ =>
  Grd v10 true (BinI .geq v76 (.int .i64 0) fun v109 =>
  Grd v109 true (BinI .lss v76 a0 fun v114 =>
  Grd v114 true (IA 1 v70 v76 fun v119 =>
  Ld1 v119 fun v120 =>
  BinI .eql v120 (.int .i64 1) fun v121 =>
  BSlC 3 1 #[(.int .i64 0)] 1 #[(0, v13)] fun v125 =>
  AppC 3 1 8 #[(.int .i64 0)] v8 v125 fun v126 =>
  BinI .add v73 (.int .i64 1) fun v127 =>
  vK_1 [v4_1, v121, v126, v127])
  (BSlC 3 1 #[(.int .i64 0)] 1 #[(0, v13)] fun v125_1 =>
  AppC 3 1 8 #[(.int .i64 0)] v8 v125_1 fun v126_1 =>
  BinI .add v73 (.int .i64 1) fun v127_1 =>
  vK_1 [v4_1, (.bool false), v126_1, v127_1]))
  (BSlC 3 1 #[(.int .i64 0)] 1 #[(0, v13)] fun v125_2 =>
  AppC 3 1 8 #[(.int .i64 0)] v8 v125_2 fun v126_2 =>
  BinI .add v73 (.int .i64 1) fun v127_2 =>
  vK_1 [v4_1, (.bool false), v126_2, v127_2]))
  (BSlC 3 1 #[(.int .i64 0)] 1 #[(0, v13)] fun v125_3 =>
  AppC 3 1 8 #[(.int .i64 0)] v8 v125_3 fun v126_3 =>
  BinI .add v73 (.int .i64 1) fun v127_3 =>
  vK_1 [v4_1, (.bool false), v126_3, v127_3])))
  fun vK_2 =>
  BinI .geq v76 (.int .i64 0) fun v79 =>
  Grd v79 true (BinI .lss v76 a0 fun v83 =>
  Cnd v83 (BinI .mul v76 v76 fun v88 =>
  FnV pg (.func (.func 9) #[] #[]) #[v76, v88] fun v89 =>
  IA 1 v70 v76 fun v92 =>
  Ld1 v92 fun v93 =>
  BinI .add v93 (.int .i64 1) fun v94 =>
  IA 1 v70 v76 fun v95 =>
  St 1 v95 v94 fun _ =>
  vK_2 [v89, v4])
  (FnV pg (.func (.func 11) #[] #[]) #[v76] fun v97 =>
  BinI .geq v97 (.int .i64 0) fun v98 =>
  Grd v98 true (FnV pg (.func (.func 11) #[] #[]) #[v76] fun v101 =>
  BinI .lss v101 a0 fun v103 =>
  Cnd v103 (FnV pg (.func (.func 12) #[] #[]) #[] fun v105 =>
  KR v105)
  (vK_2 [v76, v4]))
  (vK_2 [v76, v4])))
  (FnV pg (.func (.func 11) #[] #[]) #[v76] fun v97_1 =>
  BinI .geq v97_1 (.int .i64 0) fun v98_1 =>
  Grd v98_1 true (FnV pg (.func (.func 11) #[] #[]) #[v76] fun v101_1 =>
  BinI .lss v101_1 a0 fun v103_1 =>
  Cnd v103_1 (FnV pg (.func (.func 12) #[] #[]) #[] fun v105_1 =>
  KR v105_1)
  (vK_2 [v76, v4]))
  (vK_2 [v76, v4])))
  (FnV pg (.func (.func 18) #[] #[]) #[v20, v8] fun v131 =>
  Ext v131 0 fun v132 =>
  Ext v131 1 fun v133 =>
  BinI .eql v133 (.int .i64 0) fun v136 =>
  EqB true v10 v136 fun v137 =>
  Grd v137 false (Grd v10 true (LenS v132 fun v142 =>
  LenS a1 fun v144 =>
  BinI .neq v142 v144 fun v145 =>
  Grd v145 false (FnV pg (.func (.func 19) #[] #[]) #[v20] fun v148 =>
  LenS a1 fun v151 =>
  BinI .sub a0 v151 fun v152 =>
  BinI .neq v148 v152 fun v153 =>
  Grd v153 false (Un .not v10 fun v159 =>
  Grd v159 true (LenS v132 fun v162 =>
  BinI .neq v162 (.int .i64 0) fun v163 =>
  Grd v163 false (FnV pg (.func (.func 19) #[] #[]) #[v20] fun v166 =>
  BinI .neq v166 a0 fun v168 =>
  Cnd v168 (KR (.bool false))
  (FnV pg (.func (.func 20) #[] #[]) #[v21, v8] fun _ =>
  LenS v70 fun v176 =>
  LoopC [v4, (.int .i64 0)] fun vK_3 vs => AllE <|
  UN vs fun v4_2 vs =>
  UN vs fun v177 _ =>
  BinI .lss v177 v176 fun v178 =>
  Cnd v178 (IA 1 v70 v177 fun v180 =>
  Ld1 v180 fun v181 =>
  BinI .mul v177 v177 fun v187 =>
  FnV pg (.func (.func 9) #[] #[]) #[v177, v187] fun v188 =>
  FnV pg (.func (.func 16) #[] #[]) #[v21, v188] fun v189 =>
  Ext v189 0 fun v190 =>
  Ext v189 1 fun v191 =>
  New 35 #[(.int .i64 0), (.int .i64 0), (.int .i64 0)] fun v18 =>
  St 3 v18 v190 fun _ =>
  BinI .eql v191 (.int .i64 0) fun v193 =>
  BinI .eql v181 (.int .i64 0) fun v195 =>
  EqB true v193 v195 fun v196 =>
  Cnd v196 (KR (.bool false))
  (BinI .add v177 (.int .i64 1) fun v197 =>
  vK_3 [v4_2, v197]))
  (FnV pg (.func (.func 12) #[] #[]) #[] fun v198 =>
  KR v198)))
  (KR (.bool false)))
  (FnV pg (.func (.func 20) #[] #[]) #[v21, v8] fun _ =>
  LenS v70 fun v176_1 =>
  LoopC [v4, (.int .i64 0)] fun vK_4 vs => AllE <|
  UN vs fun v4_3 vs =>
  UN vs fun v177_1 _ =>
  BinI .lss v177_1 v176_1 fun v178_1 =>
  Cnd v178_1 (IA 1 v70 v177_1 fun v180_1 =>
  Ld1 v180_1 fun v181_1 =>
  BinI .mul v177_1 v177_1 fun v187_1 =>
  FnV pg (.func (.func 9) #[] #[]) #[v177_1, v187_1] fun v188_1 =>
  FnV pg (.func (.func 16) #[] #[]) #[v21, v188_1] fun v189_1 =>
  Ext v189_1 0 fun v190_1 =>
  Ext v189_1 1 fun v191_1 =>
  New 35 #[(.int .i64 0), (.int .i64 0), (.int .i64 0)] fun v18_1 =>
  St 3 v18_1 v190_1 fun _ =>
  BinI .eql v191_1 (.int .i64 0) fun v193_1 =>
  BinI .eql v181_1 (.int .i64 0) fun v195_1 =>
  EqB true v193_1 v195_1 fun v196_1 =>
  Cnd v196_1 (KR (.bool false))
  (BinI .add v177_1 (.int .i64 1) fun v197_1 =>
  vK_4 [v4_3, v197_1]))
  (FnV pg (.func (.func 12) #[] #[]) #[] fun v198_1 =>
  KR v198_1)))
  (KR (.bool false)))
  (KR (.bool false)))
  (Un .not v10 fun v159_1 =>
  Grd v159_1 true (LenS v132 fun v162_1 =>
  BinI .neq v162_1 (.int .i64 0) fun v163_1 =>
  Grd v163_1 false (FnV pg (.func (.func 19) #[] #[]) #[v20] fun v166_1 =>
  BinI .neq v166_1 a0 fun v168_1 =>
  Cnd v168_1 (KR (.bool false))
  (FnV pg (.func (.func 20) #[] #[]) #[v21, v8] fun _ =>
  LenS v70 fun v176_2 =>
  LoopC [v4, (.int .i64 0)] fun vK_5 vs => AllE <|
  UN vs fun v4_4 vs =>
  UN vs fun v177_2 _ =>
  BinI .lss v177_2 v176_2 fun v178_2 =>
  Cnd v178_2 (IA 1 v70 v177_2 fun v180_2 =>
  Ld1 v180_2 fun v181_2 =>
  BinI .mul v177_2 v177_2 fun v187_2 =>
  FnV pg (.func (.func 9) #[] #[]) #[v177_2, v187_2] fun v188_2 =>
  FnV pg (.func (.func 16) #[] #[]) #[v21, v188_2] fun v189_2 =>
  Ext v189_2 0 fun v190_2 =>
  Ext v189_2 1 fun v191_2 =>
  New 35 #[(.int .i64 0), (.int .i64 0), (.int .i64 0)] fun v18_2 =>
  St 3 v18_2 v190_2 fun _ =>
  BinI .eql v191_2 (.int .i64 0) fun v193_2 =>
  BinI .eql v181_2 (.int .i64 0) fun v195_2 =>
  EqB true v193_2 v195_2 fun v196_2 =>
  Cnd v196_2 (KR (.bool false))
  (BinI .add v177_2 (.int .i64 1) fun v197_2 =>
  vK_5 [v4_4, v197_2]))
  (FnV pg (.func (.func 12) #[] #[]) #[] fun v198_2 =>
  KR v198_2)))
  (KR (.bool false)))
  (FnV pg (.func (.func 20) #[] #[]) #[v21, v8] fun _ =>
  LenS v70 fun v176_3 =>
  LoopC [v4, (.int .i64 0)] fun vK_6 vs => AllE <|
  UN vs fun v4_5 vs =>
  UN vs fun v177_3 _ =>
  BinI .lss v177_3 v176_3 fun v178_3 =>
  Cnd v178_3 (IA 1 v70 v177_3 fun v180_3 =>
  Ld1 v180_3 fun v181_3 =>
  BinI .mul v177_3 v177_3 fun v187_3 =>
  FnV pg (.func (.func 9) #[] #[]) #[v177_3, v187_3] fun v188_3 =>
  FnV pg (.func (.func 16) #[] #[]) #[v21, v188_3] fun v189_3 =>
  Ext v189_3 0 fun v190_3 =>
  Ext v189_3 1 fun v191_3 =>
  New 35 #[(.int .i64 0), (.int .i64 0), (.int .i64 0)] fun v18_3 =>
  St 3 v18_3 v190_3 fun _ =>
  BinI .eql v191_3 (.int .i64 0) fun v193_3 =>
  BinI .eql v181_3 (.int .i64 0) fun v195_3 =>
  EqB true v193_3 v195_3 fun v196_3 =>
  Cnd v196_3 (KR (.bool false))
  (BinI .add v177_3 (.int .i64 1) fun v197_3 =>
  vK_6 [v4_5, v197_3]))
  (FnV pg (.func (.func 12) #[] #[]) #[] fun v198_3 =>
  KR v198_3))))
  (KR (.bool false))))))
  (EqP true v20 (.pointer none) fun v42_1 =>
  Grd v42_1 true (EqP true v21 (.pointer none) fun v45_1 =>
  Grd v45_1 true (FnV pg (.func (.func 12) #[] #[]) #[] fun v48_1 =>
  KR v48_1)
  (KR (.bool false)))
  (KR (.bool false))))
  (EqP true v20 (.pointer none) fun v42_2 =>
  Grd v42_2 true (EqP true v21 (.pointer none) fun v45_2 =>
  Grd v45_2 true (FnV pg (.func (.func 12) #[] #[]) #[] fun v48_2 =>
  KR v48_2)
  (KR (.bool false)))
  (KR (.bool false))))
  (EqP true v20 (.pointer none) fun v42_3 =>
  Grd v42_3 true (EqP true v21 (.pointer none) fun v45_3 =>
  Grd v45_3 true (FnV pg (.func (.func 12) #[] #[]) #[] fun v48_3 =>
  KR v48_3)
  (KR (.bool false)))
  (KR (.bool false))))
  (EqP true v20 (.pointer none) fun v42_4 =>
  Grd v42_4 true (EqP true v21 (.pointer none) fun v45_4 =>
  Grd v45_4 true (FnV pg (.func (.func 12) #[] #[]) #[] fun v48_4 =>
  KR v48_4)
  (KR (.bool false)))
  (KR (.bool false)))
theorem V.jacinthlaw06_HandlesAll_ok {a0 a1 : Value} {K : Value → WP} {w : World} (h : V.jacinthlaw06_HandlesAll a0 a1 K w) : Cl pg 6 #[a0, a1] K w :=
  cl_of pg_mixed Try.func6 (args := [a0, a1]) (by kernel_rfl) (by rw [show WF pg Try.f6 [a0, a1] K = V.jacinthlaw06_HandlesAll a0 a1 K from by kernel_rfl]; exact h)

def V.jacinthlaw06_HandlesReduced (a0 a1 : Value) (KR : Value → WP) : WP :=
  FnV pg (.func (.func 13) #[] #[]) #[(.int .i64 20)] fun v17 =>
  EqP false v17 (.pointer none) fun v19 =>
  Grd v19 false (LenS a0 fun v22 =>
  BinI .gtr v22 (.int .i64 100) fun v23 =>
  Cnd v23 (EqP true v17 (.pointer none) fun v26 =>
  Grd v26 true (FnV pg (.func (.func 12) #[] #[]) #[] fun v28 =>
  KR v28)
  (KR (.bool false)))
  (Ex pg (bldS #[(.int .i64 0), (.int .i64 0), (.int .i64 0)] [(0, 1), (1, 1), (2, 1)] #[(0, (.int .i64 1)), (1, (.int .i64 7)), (2, a1)]) fun v33 =>
  FnV pg (.func (.func 14) #[] #[]) #[v17, v33, (.int .i64 5)] fun v34 =>
  Ext v34 0 fun _ =>
  Ext v34 1 fun v36 =>
  BinI .neq v36 (.int .i64 0) fun v38 =>
  Cnd v38 (KR (.bool false))
  (LenS a0 fun v40 =>
  LoopC [(.bool false), (.int .i64 0)] fun vK vs => AllE <|
  UN vs fun v4 vs =>
  UN vs fun v41 _ =>
  BinI .lss v41 v40 fun v42 =>
  Cnd v42 (IA 10 a0 v41 fun v43 =>
  LdN 10 v43 fun v44 =>
  New 51 #[(.int .i64 0), (.int .i64 0), (.int .i64 0), (.int .i64 0), (.int .i64 0), (.int .i64 0), (.int .i64 0), (.int .i64 0), (.int .i64 0), (.slice none 0 0)] fun v9 =>
  St 10 v9 v44 fun _ =>
  FnV pg (.func (.func 21) #[] #[]) #[v17] fun v46 =>
  FA v9 2 fun v47 =>
  Ld1 v47 fun v48 =>
  BinI .lss v48 (.int .i64 0) fun v49 =>
  Grd v49 false (FA v9 2 fun v51 =>
  Ld1 v51 fun v52 =>
  LenS v46 fun v54 =>
  BinI .geq v52 v54 fun v55 =>
  Cnd v55 (BinI .add v41 (.int .i64 1) fun v142 =>
  vK [v4, v142])
  (FA v9 2 fun v60 =>
  Ld1 v60 fun v61 =>
  IA 1 v46 v61 fun v62 =>
  Ld1 v62 fun v63 =>
  FnV pg (.func (.func 16) #[] #[]) #[v17, v63] fun v64 =>
  Ext v64 0 fun v65 =>
  Ext v64 1 fun _ =>
  New 35 #[(.int .i64 0), (.int .i64 0), (.int .i64 0)] fun v11 =>
  St 3 v11 v65 fun _ =>
  JoinC (fun vs => AllE (UN vs fun v4_1 vs =>
  UN vs fun v13 vs =>
  UN vs fun v14 _ =>
  BinI .neq v14 (.int .i64 0) fun v108 =>
  Cnd v108 (BinI .add v41 (.int .i64 1) fun v142_1 =>
  vK [v4_1, v142_1])
  (FnV pg (.func (.func 16) #[] #[]) #[v17, v13] fun v112 =>
  Ext v112 0 fun v113 =>
  Ext v112 1 fun v114 =>
  New 35 #[(.int .i64 0), (.int .i64 0), (.int .i64 0)] fun v15 =>
  St 3 v15 v113 fun _ =>
  BinI .neq v114 (.int .i64 0) fun v116 =>
  Grd v116 false (FA v11 2 fun v118 =>
  Ld1 v118 fun v119 =>
  FA v15 2 fun v120 =>
  Ld1 v120 fun v121 =>
  FnV pg (.func (.func 23) #[] #[]) #[v119, v121] fun v122 =>
  Un .not v122 fun v123 =>
  Grd v123 false (FA v15 2 fun v127 =>
  Ld1 v127 fun v128 =>
  FnV pg (.func (.func 23) #[] #[]) #[a1, v128] fun v129 =>
  Un .not v129 fun v130 =>
  Grd v130 false (FA v15 0 fun v133 =>
  Ld1 v133 fun v134 =>
  BinI .neq v134 (.int .i64 1) fun v135 =>
  Grd v135 false (FA v15 1 fun v138 =>
  Ld1 v138 fun v139 =>
  BinI .neq v139 (.int .i64 7) fun v140 =>
  Cnd v140 (KR (.bool false))
  (BinI .add v41 (.int .i64 1) fun v142_2 =>
  vK [v4_1, v142_2]))
  (KR (.bool false)))
  (KR (.bool false)))
  (KR (.bool false)))
  (KR (.bool false)))))
  fun vK_1 =>
  FA v9 0 fun v67 =>
  Ld1 v67 fun v68 =>
  BinI .eql v68 (.int .i64 7) fun v69 =>
  Cnd v69 (Drw <| QtC fun I =>
  QE I (fun KK => FA v9 2 fun v73 =>
  KK v73) fun v73_1 =>
  QE I (fun KK => Ld1 v73_1 fun v74 =>
  KK v74) fun v74_1 =>
  QE I (fun KK => IA 1 v46 v74_1 fun v75 =>
  KK v75) fun v75_1 =>
  QE I (fun KK => Ld1 v75_1 fun v76 =>
  KK v76) fun v76_1 =>
  QE I (fun KK => FA v9 4 fun v77 =>
  KK v77) fun v77_1 =>
  QE I (fun KK => Ld1 v77_1 fun v78 =>
  KK v78) fun v78_1 =>
  QE I (fun KK => FA v9 5 fun v79 =>
  KK v79) fun v79_1 =>
  QE I (fun KK => Ld1 v79_1 fun v80 =>
  KK v80) fun v80_1 =>
  FnV pg (.func (.func 22) #[] #[]) #[v17, v76_1, v78_1, v80_1] fun v81 =>
  QtC fun I =>
  QE I (fun KK => Ext v81 0 fun v82 =>
  KK v82) fun v82_1 =>
  QE I (fun KK => Ext v81 1 fun v83 =>
  KK v83) fun v83_1 =>
  BinI .eql v83_1 (.int .i64 0) fun v85 =>
  Grd v85 true (FA v11 2 fun v87 =>
  Ld1 v87 fun v88 =>
  FnV pg (.func (.func 23) #[] #[]) #[v88, (.int .i64 1)] fun v89 =>
  Un .not v89 fun v90 =>
  Cnd v90 (KR (.bool false))
  (vK_1 [v4, v82_1, v83_1]))
  (vK_1 [v4, v82_1, v83_1]))
  (Drw <| QtC fun I =>
  QE I (fun KK => FA v9 2 fun v95 =>
  KK v95) fun v95_1 =>
  QE I (fun KK => Ld1 v95_1 fun v96 =>
  KK v96) fun v96_1 =>
  QE I (fun KK => IA 1 v46 v96_1 fun v97 =>
  KK v97) fun v97_1 =>
  QE I (fun KK => Ld1 v97_1 fun v98 =>
  KK v98) fun v98_1 =>
  QE I (fun KK => FA v9 4 fun v99 =>
  KK v99) fun v99_1 =>
  QE I (fun KK => Ld1 v99_1 fun v100 =>
  KK v100) fun v100_1 =>
  QE I (fun KK => FA v9 5 fun v101 =>
  KK v101) fun v101_1 =>
  QE I (fun KK => Ld1 v101_1 fun v102 =>
  KK v102) fun v102_1 =>
  FnV pg (.func (.func 24) #[] #[]) #[v17, v98_1, v100_1, v102_1] fun v103 =>
  QtC fun I =>
  QE I (fun KK => Ext v103 0 fun v104 =>
  KK v104) fun v104_1 =>
  QE I (fun KK => Ext v103 1 fun v105 =>
  KK v105) fun _ =>
  QE I (fun KK => Ext v103 2 fun v106 =>
  KK v106) fun v106_1 =>
  vK_1 [v4, v104_1, v106_1])))
  (BinI .add v41 (.int .i64 1) fun v142_3 =>
  vK [v4, v142_3]))
  (FnV pg (.func (.func 12) #[] #[]) #[] fun v143 =>
  KR v143))))
  (EqP true v17 (.pointer none) fun v26_1 =>
  Grd v26_1 true (FnV pg (.func (.func 12) #[] #[]) #[] fun v28_1 =>
  KR v28_1)
  (KR (.bool false)))
theorem V.jacinthlaw06_HandlesReduced_ok {a0 a1 : Value} {K : Value → WP} {w : World} (h : V.jacinthlaw06_HandlesReduced a0 a1 K w) : Cl pg 7 #[a0, a1] K w :=
  cl_of pg_mixed Try.func7 (args := [a0, a1]) (by kernel_rfl) (by rw [show WF pg Try.f7 [a0, a1] K = V.jacinthlaw06_HandlesReduced a0 a1 K from by kernel_rfl]; exact h)

def V.jacinthlaw06_HandlesPlays (a0 a1 : Value) (KR : Value → WP) : WP :=
  FnV pg (.func (.func 13) #[] #[]) #[a0] fun v12 =>
  BinI .lss a0 (.int .i64 0) fun v14 =>
  Grd v14 false (BinI .gtr a0 (.int .i64 65536) fun v17 =>
  Cnd v17 (EqP false v12 (.pointer none) fun v20 =>
  Grd v20 true (FnV pg (.func (.func 12) #[] #[]) #[] fun v22 =>
  KR v22)
  (KR (.bool false)))
  (EqP false v12 (.pointer none) fun v25 =>
  Grd v25 false (LenS a1 fun v28 =>
  BinI .gtr v28 (.int .i64 100) fun v29 =>
  Cnd v29 (EqP true v12 (.pointer none) fun v32 =>
  Grd v32 true (FnV pg (.func (.func 12) #[] #[]) #[] fun v34 =>
  KR v34)
  (KR (.bool false)))
  (Ex pg (bldS #[(.slice none 0 0), (.slice none 0 0), (.int .i64 0)] [(0, 1), (1, 1), (2, 1)] #[(2, a0)]) fun v37 =>
  New 61 (Value.cells v37) fun v38 =>
  LenS a1 fun v40 =>
  LoopC [(.bool false), (.int .i64 0)] fun vK vs => AllE <|
  UN vs fun v4 vs =>
  UN vs fun v41 _ =>
  BinI .lss v41 v40 fun v42 =>
  Cnd v42 (IA 10 a1 v41 fun v43 =>
  LdN 10 v43 fun v44 =>
  New 51 #[(.int .i64 0), (.int .i64 0), (.int .i64 0), (.int .i64 0), (.int .i64 0), (.int .i64 0), (.int .i64 0), (.int .i64 0), (.int .i64 0), (.slice none 0 0)] fun v8 =>
  St 10 v8 v44 fun _ =>
  FA v8 9 fun v45 =>
  Ld1 v45 fun v46 =>
  LenS v46 fun v47 =>
  BinI .gtr v47 (.int .i64 60) fun v48 =>
  Cnd v48 (FnV pg (.func (.func 12) #[] #[]) #[] fun v49 =>
  KR v49)
  (LdN 10 v8 fun v52 =>
  FnV pg (.func (.func 25) #[] #[]) #[v12, v38, v52] fun v53 =>
  Un .not v53 fun v54 =>
  Cnd v54 (KR (.bool false))
  (FnV pg (.func (.func 26) #[] #[]) #[v38] fun v57 =>
  Ext v57 0 fun v58 =>
  Ext v57 1 fun v59 =>
  FnV pg (.func (.func 21) #[] #[]) #[v12] fun v61 =>
  FnV pg (.func (.func 27) #[] #[]) #[v61, v58] fun v63 =>
  Un .not v63 fun v64 =>
  Grd v64 false (FnV pg (.func (.func 29) #[] #[]) #[v12] fun v67 =>
  FnV pg (.func (.func 28) #[] #[]) #[v67, v59] fun v69 =>
  Un .not v69 fun v70 =>
  Grd v70 false (FnV pg (.func (.func 19) #[] #[]) #[v12] fun v74 =>
  LenS v58 fun v76 =>
  BinI .neq v74 v76 fun v77 =>
  Grd v77 false (FnV pg (.func (.func 30) #[] #[]) #[v12] fun v81 =>
  LenS v58 fun v84 =>
  BinI .sub a0 v84 fun v85 =>
  BinI .neq v81 v85 fun v86 =>
  Cnd v86 (KR (.bool false))
  (BinI .add v41 (.int .i64 1) fun v88 =>
  vK [v4, v88]))
  (KR (.bool false)))
  (KR (.bool false)))
  (KR (.bool false)))))
  (FnV pg (.func (.func 12) #[] #[]) #[] fun v89 =>
  KR v89)))
  (EqP true v12 (.pointer none) fun v32_1 =>
  Grd v32_1 true (FnV pg (.func (.func 12) #[] #[]) #[] fun v34_1 =>
  KR v34_1)
  (KR (.bool false)))))
  (EqP false v12 (.pointer none) fun v20_1 =>
  Grd v20_1 true (FnV pg (.func (.func 12) #[] #[]) #[] fun v22_1 =>
  KR v22_1)
  (KR (.bool false)))
theorem V.jacinthlaw06_HandlesPlays_ok {a0 a1 : Value} {K : Value → WP} {w : World} (h : V.jacinthlaw06_HandlesPlays a0 a1 K w) : Cl pg 8 #[a0, a1] K w :=
  cl_of pg_mixed Try.func8 (args := [a0, a1]) (by kernel_rfl) (by rw [show WF pg Try.f8 [a0, a1] K = V.jacinthlaw06_HandlesPlays a0 a1 K from by kernel_rfl]; exact h)

def V.handles_Value (a0 a1 : Value) (KR : Value → WP) : WP :=
  BinI .lss a0 (.int .i64 0) fun v6 =>
  Grd v6 false (BinI .geq a0 (.int .i64 65536) fun v9 =>
  Cnd v9 (KR (.int .i64 0))
  (BinI .and a1 (.int .i64 65535) fun v12 =>
  BinI .shl v12 (.int .u64 20) fun v13 =>
  BinI .shl a0 (.int .u64 2) fun v15 =>
  BinI .or v13 v15 fun v16 =>
  BinI .or v16 (.int .i64 3) fun v17 =>
  KR v17))
  (KR (.int .i64 0))
theorem V.handles_Value_ok {a0 a1 : Value} {K : Value → WP} {w : World} (h : V.handles_Value a0 a1 K w) : Cl pg 9 #[a0, a1] K w :=
  cl_of pg_mixed Try.func9 (args := [a0, a1]) (by kernel_rfl) (by rw [show WF pg Try.f9 [a0, a1] K = V.handles_Value a0 a1 K from by kernel_rfl]; exact h)

def V.jacinthref06_Mod (a0 : Value) (KR : Value → WP) : WP :=
  BinI .rem a0 (.int .i64 65536) fun v5 =>
  BinI .lss v5 (.int .i64 0) fun v7 =>
  Cnd v7 (BinI .add v5 (.int .i64 65536) fun v9 =>
  KR v9)
  (KR v5)
theorem V.jacinthref06_Mod_ok {a0 : Value} {K : Value → WP} {w : World} (h : V.jacinthref06_Mod a0 K w) : Cl pg 10 #[a0] K w :=
  cl_of pg_mixed Try.func10 (args := [a0]) (by kernel_rfl) (by rw [show WF pg Try.f10 [a0] K = V.jacinthref06_Mod a0 K from by kernel_rfl]; exact h)

def V.handles_Place (a0 : Value) (KR : Value → WP) : WP :=
  BinI .lss a0 (.int .i64 0) fun v4 =>
  Grd v4 false (BinI .and a0 (.int .i64 3) fun v7 =>
  BinI .neq v7 (.int .i64 3) fun v8 =>
  Grd v8 false (BinI .geq a0 (.int .i64 68719476736) fun v12 =>
  Grd v12 false (BinI .shr a0 (.int .u64 18) fun v16 =>
  BinI .and v16 (.int .i64 3) fun v17 =>
  BinI .neq v17 (.int .i64 0) fun v18 =>
  Cnd v18 (KR (.int .i64 (-1)))
  (BinI .shr a0 (.int .u64 2) fun v21 =>
  BinI .and v21 (.int .i64 65535) fun v22 =>
  KR v22))
  (KR (.int .i64 (-1))))
  (KR (.int .i64 (-1))))
  (KR (.int .i64 (-1)))
theorem V.handles_Place_ok {a0 : Value} {K : Value → WP} {w : World} (h : V.handles_Place a0 K w) : Cl pg 11 #[a0] K w :=
  cl_of pg_mixed Try.func11 (args := [a0]) (by kernel_rfl) (by rw [show WF pg Try.f11 [a0] K = V.handles_Place a0 K from by kernel_rfl]; exact h)

def V.jacinthlaw06_awake (KR : Value → WP) : WP :=
  FnV pg (.func (.func 13) #[] #[]) #[(.int .i64 1)] fun v6 =>
  EqP false v6 (.pointer none) fun v8 =>
  Cnd v8 (KR (.bool false))
  (Ex pg (bldS #[(.int .i64 0), (.int .i64 0), (.int .i64 0)] [(0, 1), (1, 1), (2, 1)] #[(0, (.int .i64 7)), (1, (.int .i64 7)), (2, (.int .i64 5))]) fun v11 =>
  FnV pg (.func (.func 14) #[] #[]) #[v6, v11, (.int .i64 0)] fun v12 =>
  Ext v12 0 fun v13 =>
  Ext v12 1 fun v14 =>
  Ex pg (bldS #[(.int .i64 0), (.int .i64 0), (.int .i64 0)] [(0, 1), (1, 1), (2, 1)] #[]) fun v17 =>
  FnV pg (.func (.func 14) #[] #[]) #[v6, v17, (.int .i64 0)] fun v18 =>
  Ext v18 0 fun _ =>
  Ext v18 1 fun v20 =>
  BinI .eql v13 (.int .i64 3) fun v22 =>
  Grd v22 true (BinI .eql v14 (.int .i64 0) fun v25 =>
  Grd v25 true (BinI .eql v20 (.int .i64 (-4)) fun v29 =>
  Grd v29 true (FnV pg (.func (.func 9) #[] #[]) #[(.int .i64 2), (.int .i64 5)] fun v32 =>
  BinI .eql v32 (.int .i64 5242891) fun v33 =>
  KR v33)
  (KR (.bool false)))
  (KR (.bool false)))
  (KR (.bool false)))
theorem V.jacinthlaw06_awake_ok {K : Value → WP} {w : World} (h : V.jacinthlaw06_awake  K w) : Cl pg 12 #[] K w :=
  cl_of pg_mixed Try.func12 (args := []) (by kernel_rfl) (by rw [show WF pg Try.f12 [] K = V.jacinthlaw06_awake  K from by kernel_rfl]; exact h)

def V.handles_New (a0 : Value) (KR : Value → WP) : WP :=
  BinI .lss a0 (.int .i64 0) fun v4 =>
  Grd v4 false (BinI .gtr a0 (.int .i64 65536) fun v7 =>
  Cnd v7 (KR (.pointer none))
  (Ex pg (bldS #[(.slice none 0 0), (.int .i64 0), (.int .i64 0)] [(0, 1), (1, 1), (2, 1)] #[(1, a0)]) fun v10 =>
  New 72 (Value.cells v10) fun v11 =>
  KR v11))
  (KR (.pointer none))
theorem V.handles_New_ok {a0 : Value} {K : Value → WP} {w : World} (h : V.handles_New a0 K w) : Cl pg 13 #[a0] K w :=
  cl_of pg_mixed Try.func13 (args := [a0]) (by kernel_rfl) (by rw [show WF pg Try.f13 [a0] K = V.handles_New a0 K from by kernel_rfl]; exact h)

def V.handles_Table_Add (a0 a1 a2 : Value) (KR : Value → WP) : WP :=
  New 35 (Value.cells a1) fun v4 =>
  Drw <| QtC fun I =>
  QE I (fun KK => NilC a0 fun v10 =>
  KK v10) fun v10_1 =>
  QE I (fun KK => FA v10_1 2 fun v11 =>
  KK v11) fun v11_1 =>
  QE I (fun KK => Ld1 v11_1 fun v12 =>
  KK v12) fun v12_1 =>
  QE I (fun KK => NilC a0 fun v14 =>
  KK v14) fun v14_1 =>
  QE I (fun KK => FA v14_1 1 fun v15 =>
  KK v15) fun v15_1 =>
  QE I (fun KK => Ld1 v15_1 fun v16 =>
  KK v16) fun v16_1 =>
  BinI .eql v12_1 v16_1 fun v17 =>
  Cnd v17 (KR (.tuple #[(.int .i64 0), (.int .i64 (-4))]))
  (NilC a0 fun v19 =>
  FA v19 0 fun v20 =>
  Ld1 v20 fun v21 =>
  FnV pg (.func (.func 31) #[] #[]) #[v21, (.func (.func 32) #[] #[])] fun v22 =>
  JoinC (fun vs => AllE (UN vs fun v8 _ =>
  Drw <| QtC fun I =>
  QE I (fun KK => NilC a0 fun v41 =>
  KK v41) fun v41_1 =>
  QE I (fun KK => FA v41_1 0 fun v42 =>
  KK v42) fun v42_1 =>
  QE I (fun KK => Ld1 v42_1 fun v43 =>
  KK v43) fun v43_1 =>
  QE I (fun KK => LdN 3 v4 fun v48 =>
  KK v48) fun v48_1 =>
  FnV pg (.func (.func 9) #[] #[]) #[v8, a2] fun v47 =>
  CH I <|
  Ex pg (bldS #[(.int .i64 0), (.int .i64 0), (.int .i64 0), (.int .i64 0)] [(0, 1), (1, 3)] #[(0, v47), (1, v48_1)]) fun v49 =>
  CH I <|
  IA 4 v43_1 v8 fun v50 =>
  St 4 v50 v49 fun _ =>
  NilC a0 fun v52 =>
  FA v52 2 fun v53 =>
  Ld1 v53 fun v54 =>
  BinI .add v54 (.int .i64 1) fun v55 =>
  NilC a0 fun v56 =>
  FA v56 2 fun v57 =>
  St 1 v57 v55 fun _ =>
  NilC a0 fun v59 =>
  FA v59 0 fun v60 =>
  Ld1 v60 fun v61 =>
  IA 4 v61 v8 fun v63 =>
  FA v63 0 fun v64 =>
  Ld1 v64 fun v65 =>
  KR (.tuple #[v65, (.int .i64 0)])))
  fun vK =>
  BinI .lss v22 (.int .i64 0) fun v24 =>
  Cnd v24 (NilC a0 fun v26 =>
  FA v26 0 fun v27 =>
  Ld1 v27 fun v28 =>
  LenS v28 fun v29 =>
  NilC a0 fun v32 =>
  FA v32 0 fun v33 =>
  Ld1 v33 fun v34 =>
  Ex pg (bldS #[(.int .i64 0), (.int .i64 0), (.int .i64 0), (.int .i64 0)] [(0, 1), (1, 3)] #[]) fun v35 =>
  BSlC 75 4 #[(.int .i64 0), (.int .i64 0), (.int .i64 0), (.int .i64 0)] 1 #[(0, v35)] fun v36 =>
  AppC 75 4 32 #[(.int .i64 0), (.int .i64 0), (.int .i64 0), (.int .i64 0)] v34 v36 fun v37 =>
  NilC a0 fun v38 =>
  FA v38 0 fun v39 =>
  St 1 v39 v37 fun _ =>
  vK [v29])
  (vK [v22]))
theorem V.handles_Table_Add_ok {a0 a1 a2 : Value} {K : Value → WP} {w : World} (h : V.handles_Table_Add a0 a1 a2 K w) : Cl pg 14 #[a0, a1, a2] K w :=
  cl_of pg_mixed Try.func14 (args := [a0, a1, a2]) (by kernel_rfl) (by rw [show WF pg Try.f14 [a0, a1, a2] K = V.handles_Table_Add a0 a1 a2 K from by kernel_rfl]; exact h)

def V.handles_Table_Close (a0 a1 : Value) (KR : Value → WP) : WP :=
  New 35 #[(.int .i64 0), (.int .i64 0), (.int .i64 0)] fun v4 =>
  FnV pg (.func (.func 33) #[] #[]) #[a0, a1] fun v10 =>
  EqP false v10 (.pointer none) fun v12 =>
  Cnd v12 (Ex pg (bldS #[(.int .i64 0), (.int .i64 0), (.int .i64 0)] [(0, 1), (1, 1), (2, 1)] #[]) fun v13 =>
  St 3 v4 v13 fun _ =>
  LdN 3 v4 fun vr =>
  KR (.tuple #[vr, (.int .i64 (-11))]))
  (NilC v10 fun v15 =>
  FA v15 1 fun v16 =>
  LdN 3 v16 fun v17 =>
  New 35 #[(.int .i64 0), (.int .i64 0), (.int .i64 0)] fun v7 =>
  St 3 v7 v17 fun _ =>
  Ex pg (bldS #[(.int .i64 0), (.int .i64 0), (.int .i64 0), (.int .i64 0)] [(0, 1), (1, 3)] #[]) fun v19 =>
  NilC v10 fun v20 =>
  St 4 v20 v19 fun _ =>
  NilC a0 fun v22 =>
  FA v22 2 fun v23 =>
  Ld1 v23 fun v24 =>
  BinI .sub v24 (.int .i64 1) fun v25 =>
  NilC a0 fun v26 =>
  FA v26 2 fun v27 =>
  St 1 v27 v25 fun _ =>
  LdN 3 v7 fun v28 =>
  St 3 v4 v28 fun _ =>
  LdN 3 v4 fun vr_1 =>
  KR (.tuple #[vr_1, (.int .i64 0)]))
theorem V.handles_Table_Close_ok {a0 a1 : Value} {K : Value → WP} {w : World} (h : V.handles_Table_Close a0 a1 K w) : Cl pg 15 #[a0, a1] K w :=
  cl_of pg_mixed Try.func15 (args := [a0, a1]) (by kernel_rfl) (by rw [show WF pg Try.f15 [a0, a1] K = V.handles_Table_Close a0 a1 K from by kernel_rfl]; exact h)

def V.handles_Table_Get (a0 a1 : Value) (KR : Value → WP) : WP :=
  New 35 #[(.int .i64 0), (.int .i64 0), (.int .i64 0)] fun v4 =>
  FnV pg (.func (.func 33) #[] #[]) #[a0, a1] fun v9 =>
  EqP false v9 (.pointer none) fun v11 =>
  Cnd v11 (Ex pg (bldS #[(.int .i64 0), (.int .i64 0), (.int .i64 0)] [(0, 1), (1, 1), (2, 1)] #[]) fun v12 =>
  St 3 v4 v12 fun _ =>
  LdN 3 v4 fun vr =>
  KR (.tuple #[vr, (.int .i64 (-11))]))
  (NilC v9 fun v14 =>
  FA v14 1 fun v15 =>
  LdN 3 v15 fun v16 =>
  St 3 v4 v16 fun _ =>
  LdN 3 v4 fun vr_1 =>
  KR (.tuple #[vr_1, (.int .i64 0)]))
theorem V.handles_Table_Get_ok {a0 a1 : Value} {K : Value → WP} {w : World} (h : V.handles_Table_Get a0 a1 K w) : Cl pg 16 #[a0, a1] K w :=
  cl_of pg_mixed Try.func16 (args := [a0, a1]) (by kernel_rfl) (by rw [show WF pg Try.f16 [a0, a1] K = V.handles_Table_Get a0 a1 K from by kernel_rfl]; exact h)

def V.handles_Table_Find (a0 a1 a2 a3 : Value) (KR : Value → WP) : WP :=
  New 35 #[(.int .i64 0), (.int .i64 0), (.int .i64 0)] fun v8 =>
  FnV pg (.func (.func 16) #[] #[]) #[a0, a1] fun v15 =>
  Ext v15 0 fun v16 =>
  Ext v15 1 fun v17 =>
  New 35 #[(.int .i64 0), (.int .i64 0), (.int .i64 0)] fun v10 =>
  St 3 v10 v16 fun _ =>
  BinI .neq v17 (.int .i64 0) fun v20 =>
  Cnd v20 (Ex pg (bldS #[(.int .i64 0), (.int .i64 0), (.int .i64 0)] [(0, 1), (1, 1), (2, 1)] #[]) fun v21 =>
  St 3 v8 v21 fun _ =>
  LdN 3 v8 fun vr =>
  KR (.tuple #[vr, v17]))
  (BinI .neq a2 (.int .i64 0) fun v25 =>
  Grd v25 true (FA v10 1 fun v28 =>
  Ld1 v28 fun v29 =>
  BinI .neq a2 v29 fun v30 =>
  Cnd v30 (Ex pg (bldS #[(.int .i64 0), (.int .i64 0), (.int .i64 0)] [(0, 1), (1, 1), (2, 1)] #[]) fun v32 =>
  St 3 v8 v32 fun _ =>
  LdN 3 v8 fun vr_1 =>
  KR (.tuple #[vr_1, (.int .i64 (-12))]))
  (FA v10 2 fun v33 =>
  Ld1 v33 fun v34 =>
  FnV pg (.func (.func 34) #[] #[]) #[v34, a3] fun v36 =>
  BinI .neq v36 (.int .i64 0) fun v38 =>
  Cnd v38 (Ex pg (bldS #[(.int .i64 0), (.int .i64 0), (.int .i64 0)] [(0, 1), (1, 1), (2, 1)] #[]) fun v39 =>
  St 3 v8 v39 fun _ =>
  LdN 3 v8 fun vr_2 =>
  KR (.tuple #[vr_2, v36]))
  (LdN 3 v10 fun v41 =>
  St 3 v8 v41 fun _ =>
  LdN 3 v8 fun vr_3 =>
  KR (.tuple #[vr_3, (.int .i64 0)]))))
  (FA v10 2 fun v33_1 =>
  Ld1 v33_1 fun v34_1 =>
  FnV pg (.func (.func 34) #[] #[]) #[v34_1, a3] fun v36_1 =>
  BinI .neq v36_1 (.int .i64 0) fun v38_1 =>
  Cnd v38_1 (Ex pg (bldS #[(.int .i64 0), (.int .i64 0), (.int .i64 0)] [(0, 1), (1, 1), (2, 1)] #[]) fun v39_1 =>
  St 3 v8 v39_1 fun _ =>
  LdN 3 v8 fun vr_4 =>
  KR (.tuple #[vr_4, v36_1]))
  (LdN 3 v10 fun v41_1 =>
  St 3 v8 v41_1 fun _ =>
  LdN 3 v8 fun vr_5 =>
  KR (.tuple #[vr_5, (.int .i64 0)]))))
theorem V.handles_Table_Find_ok {a0 a1 a2 a3 : Value} {K : Value → WP} {w : World} (h : V.handles_Table_Find a0 a1 a2 a3 K w) : Cl pg 17 #[a0, a1, a2, a3] K w :=
  cl_of pg_mixed Try.func17 (args := [a0, a1, a2, a3]) (by kernel_rfl) (by rw [show WF pg Try.f17 [a0, a1, a2, a3] K = V.handles_Table_Find a0 a1 a2 a3 K from by kernel_rfl]; exact h)

def V.handles_Table_Take (a0 a1 : Value) (KR : Value → WP) : WP :=
  LenS a1 fun v14 =>
  LoopC [(.slice none 0 0), (.int .i64 0), (.int .i64 0)] fun vK vs => AllE <|
  UN vs fun v4 vs =>
  UN vs fun v5 vs =>
  UN vs fun v15 _ =>
  BinI .lss v15 v14 fun v16 =>
  Cnd v16 (IA 1 a1 v15 fun v18 =>
  Ld1 v18 fun v19 =>
  FnV pg (.func (.func 33) #[] #[]) #[a0, v19] fun v22 =>
  EqP false v22 (.pointer none) fun v23 =>
  Grd v23 false (SlC 1 a1 none (some v15) fun v27 =>
  FnV pg (.func (.func 35) #[] #[]) #[v27, v19] fun v29 =>
  Cnd v29 (KR (.tuple #[(.slice none 0 0), (.int .i64 (-11))]))
  (BinI .add v15 (.int .i64 1) fun v31 =>
  vK [v4, v5, v31]))
  (KR (.tuple #[(.slice none 0 0), (.int .i64 (-11))])))
  (LenS a1 fun v33 =>
  LoopC [(.slice none 0 0), (.int .i64 0)] fun vK_1 vs => AllE <|
  UN vs fun v8 vs =>
  UN vs fun v34 _ =>
  BinI .lss v34 v33 fun v35 =>
  Cnd v35 (IA 1 a1 v34 fun v36 =>
  Ld1 v36 fun v37 =>
  FnV pg (.func (.func 15) #[] #[]) #[a0, v37] fun v41 =>
  Ext v41 0 fun v42 =>
  Ext v41 1 fun _ =>
  New 35 #[(.int .i64 0), (.int .i64 0), (.int .i64 0)] fun v11 =>
  St 3 v11 v42 fun _ =>
  LdN 3 v11 fun v45 =>
  BSlC 35 3 #[(.int .i64 0), (.int .i64 0), (.int .i64 0)] 1 #[(0, v45)] fun v46 =>
  AppC 35 3 24 #[(.int .i64 0), (.int .i64 0), (.int .i64 0)] v8 v46 fun v47 =>
  BinI .add v34 (.int .i64 1) fun v48 =>
  vK_1 [v47, v48])
  (KR (.tuple #[v8, (.int .i64 0)])))
theorem V.handles_Table_Take_ok {a0 a1 : Value} {K : Value → WP} {w : World} (h : V.handles_Table_Take a0 a1 K w) : Cl pg 18 #[a0, a1] K w :=
  cl_of pg_mixed Try.func18 (args := [a0, a1]) (by kernel_rfl) (by rw [show WF pg Try.f18 [a0, a1] K = V.handles_Table_Take a0 a1 K from by kernel_rfl]; exact h)

def V.handles_Table_Count (a0 : Value) (KR : Value → WP) : WP :=
  NilC a0 fun v4 =>
  FA v4 2 fun v5 =>
  Ld1 v5 fun v6 =>
  KR v6
theorem V.handles_Table_Count_ok {a0 : Value} {K : Value → WP} {w : World} (h : V.handles_Table_Count a0 K w) : Cl pg 19 #[a0] K w :=
  cl_of pg_mixed Try.func19 (args := [a0]) (by kernel_rfl) (by rw [show WF pg Try.f19 [a0] K = V.handles_Table_Count a0 K from by kernel_rfl]; exact h)

def V.handles_Table_CloseMany (a0 a1 : Value) (KR : Value → WP) : WP :=
  LenS a1 fun v13 =>
  LoopC [(.int .i64 0), (.slice none 0 0), (.int .i64 0)] fun vK vs => AllE <|
  UN vs fun v7 vs =>
  UN vs fun v6 vs =>
  UN vs fun v14 _ =>
  BinI .lss v14 v13 fun v15 =>
  Cnd v15 (IA 1 a1 v14 fun v16 =>
  Ld1 v16 fun v17 =>
  BinI .eql v17 (.int .i64 0) fun v19 =>
  Cnd v19 (BinI .add v14 (.int .i64 1) fun v33 =>
  vK [v7, v6, v33])
  (FnV pg (.func (.func 15) #[] #[]) #[a0, v17] fun v23 =>
  Ext v23 0 fun v24 =>
  Ext v23 1 fun v25 =>
  New 35 #[(.int .i64 0), (.int .i64 0), (.int .i64 0)] fun v10 =>
  St 3 v10 v24 fun _ =>
  BinI .neq v25 (.int .i64 0) fun v27 =>
  Cnd v27 (BinI .add v14 (.int .i64 1) fun v33_1 =>
  vK [v25, v6, v33_1])
  (LdN 3 v10 fun v30 =>
  BSlC 35 3 #[(.int .i64 0), (.int .i64 0), (.int .i64 0)] 1 #[(0, v30)] fun v31 =>
  AppC 35 3 24 #[(.int .i64 0), (.int .i64 0), (.int .i64 0)] v6 v31 fun v32 =>
  BinI .add v14 (.int .i64 1) fun v33_2 =>
  vK [v7, v32, v33_2])))
  (KR (.tuple #[v6, v7]))
theorem V.handles_Table_CloseMany_ok {a0 a1 : Value} {K : Value → WP} {w : World} (h : V.handles_Table_CloseMany a0 a1 K w) : Cl pg 20 #[a0, a1] K w :=
  cl_of pg_mixed Try.func20 (args := [a0, a1]) (by kernel_rfl) (by rw [show WF pg Try.f20 [a0, a1] K = V.handles_Table_CloseMany a0 a1 K from by kernel_rfl]; exact h)

def V.handles_Table_Values (a0 : Value) (KR : Value → WP) : WP :=
  New 43 #[(.slice none 0 0)] fun v3 =>
  FnV pg (.func (.func 36) #[] #[]) #[a0] fun v6 =>
  RF0 pg v6 (fun vl vs vK =>
  UN vs fun v7 vs =>
  UN vs fun _ vs =>
  UNe vs <|
  RBeg vl <|
  Ld1 v3 fun v9 =>
  BSlC 3 1 #[(.int .i64 0)] 1 #[(0, v7)] fun v11 =>
  AppC 3 1 8 #[(.int .i64 0)] v9 v11 fun v12 =>
  St 1 v3 v12 fun _ =>
  REnd vl none vK)
  fun vm vj =>
  JumpC vj (Ld1 v3 fun v13 =>
  LvC (.tuple #[vm]) <| KR v13)
  (LvC (.tuple #[vm]) <| KR (.slice none 0 0))
  (fun _ => fun _ => False)
theorem V.handles_Table_Values_ok {a0 : Value} {K : Value → WP} {w : World} (h : V.handles_Table_Values a0 K w) : Cl pg 21 #[a0] K w :=
  cl_of pg_mixed Try.func21 (args := [a0]) (by kernel_rfl) (by rw [show WF pg Try.f21 [a0] K = V.handles_Table_Values a0 K from by kernel_rfl]; exact h)

def V.handles_Table_Duplicate (a0 a1 a2 a3 : Value) (KR : Value → WP) : WP :=
  FnV pg (.func (.func 17) #[] #[]) #[a0, a1, (.int .i64 0), (.int .i64 1)] fun v15 =>
  Ext v15 0 fun v16 =>
  Ext v15 1 fun v17 =>
  New 35 #[(.int .i64 0), (.int .i64 0), (.int .i64 0)] fun v10 =>
  St 3 v10 v16 fun _ =>
  BinI .neq v17 (.int .i64 0) fun v19 =>
  Cnd v19 (KR (.tuple #[(.int .i64 0), v17]))
  (FA v10 2 fun v22 =>
  Ld1 v22 fun v23 =>
  FnV pg (.func (.func 37) #[] #[]) #[v23, a2] fun v25 =>
  Ext v25 0 fun v26 =>
  Ext v25 1 fun v27 =>
  FA v10 2 fun v28 =>
  St 1 v28 v26 fun _ =>
  BinI .neq v27 (.int .i64 0) fun v30 =>
  Cnd v30 (KR (.tuple #[(.int .i64 0), v27]))
  (LdN 3 v10 fun v33 =>
  FnV pg (.func (.func 14) #[] #[]) #[a0, v33, a3] fun v35 =>
  Ext v35 0 fun v36 =>
  Ext v35 1 fun v37 =>
  KR (.tuple #[v36, v37])))
theorem V.handles_Table_Duplicate_ok {a0 a1 a2 a3 : Value} {K : Value → WP} {w : World} (h : V.handles_Table_Duplicate a0 a1 a2 a3 K w) : Cl pg 22 #[a0, a1, a2, a3] K w :=
  cl_of pg_mixed Try.func22 (args := [a0, a1, a2, a3]) (by kernel_rfl) (by rw [show WF pg Try.f22 [a0, a1, a2, a3] K = V.handles_Table_Duplicate a0 a1 a2 a3 K from by kernel_rfl]; exact h)

def V.rights_Rights_Has (a0 a1 : Value) (KR : Value → WP) : WP :=
  BinI .andNot a1 a0 fun v7 =>
  BinI .eql v7 (.int .i64 0) fun v8 =>
  KR v8
theorem V.rights_Rights_Has_ok {a0 a1 : Value} {K : Value → WP} {w : World} (h : V.rights_Rights_Has a0 a1 K w) : Cl pg 23 #[a0, a1] K w :=
  cl_of pg_mixed Try.func23 (args := [a0, a1]) (by kernel_rfl) (by rw [show WF pg Try.f23 [a0, a1] K = V.rights_Rights_Has a0 a1 K from by kernel_rfl]; exact h)

def V.handles_Table_Replace (a0 a1 a2 a3 : Value) (KR : Value → WP) : WP :=
  New 35 #[(.int .i64 0), (.int .i64 0), (.int .i64 0)] fun v9 =>
  FnV pg (.func (.func 15) #[] #[]) #[a0, a1] fun v18 =>
  Ext v18 0 fun v19 =>
  Ext v18 1 fun v20 =>
  New 35 #[(.int .i64 0), (.int .i64 0), (.int .i64 0)] fun v11 =>
  St 3 v11 v19 fun _ =>
  BinI .neq v20 (.int .i64 0) fun v22 =>
  Cnd v22 (Ex pg (bldS #[(.int .i64 0), (.int .i64 0), (.int .i64 0)] [(0, 1), (1, 1), (2, 1)] #[]) fun v23 =>
  St 3 v9 v23 fun _ =>
  LdN 3 v9 fun vr =>
  KR (.tuple #[(.int .i64 0), vr, v20]))
  (FA v11 2 fun v26 =>
  Ld1 v26 fun v27 =>
  FnV pg (.func (.func 37) #[] #[]) #[v27, a2] fun v29 =>
  Ext v29 0 fun v30 =>
  Ext v29 1 fun v31 =>
  BinI .neq v31 (.int .i64 0) fun v33 =>
  Cnd v33 (Drw <| QtC fun I =>
  QE I (fun KK => LdN 3 v11 fun v34 =>
  KK v34) fun v34_1 =>
  St 3 v9 v34_1 fun _ =>
  LdN 3 v9 fun vr_1 =>
  KR (.tuple #[(.int .i64 0), vr_1, v31]))
  (FA v11 2 fun v37 =>
  St 1 v37 v30 fun _ =>
  LdN 3 v11 fun v40 =>
  FnV pg (.func (.func 14) #[] #[]) #[a0, v40, a3] fun v42 =>
  Ext v42 0 fun v43 =>
  Ext v42 1 fun v44 =>
  Ex pg (bldS #[(.int .i64 0), (.int .i64 0), (.int .i64 0)] [(0, 1), (1, 1), (2, 1)] #[]) fun v46 =>
  St 3 v9 v46 fun _ =>
  LdN 3 v9 fun vr_2 =>
  KR (.tuple #[v43, vr_2, v44])))
theorem V.handles_Table_Replace_ok {a0 a1 a2 a3 : Value} {K : Value → WP} {w : World} (h : V.handles_Table_Replace a0 a1 a2 a3 K w) : Cl pg 24 #[a0, a1, a2, a3] K w :=
  cl_of pg_mixed Try.func24 (args := [a0, a1, a2, a3]) (by kernel_rfl) (by rw [show WF pg Try.f24 [a0, a1, a2, a3] K = V.handles_Table_Replace a0 a1 a2 a3 K from by kernel_rfl]; exact h)

def V.jacinthlaw06_step (a0 a1 a2 : Value) (KR : Value → WP) : WP :=
  New 51 (Value.cells a2) fun v5 =>
  FnV pg (.func (.func 26) #[] #[]) #[a1] fun v52 =>
  Ext v52 0 fun v53 =>
  Ext v52 1 fun _ =>
  FA v5 1 fun v55 =>
  Ld1 v55 fun v56 =>
  JoinC (fun vs => AllE (UN vs fun v9 _ =>
  FA v5 9 fun v72 =>
  Ld1 v72 fun v73 =>
  LenS v73 fun v74 =>
  LoopC [(.slice none 0 0), (.int .i64 0)] fun vK vs => AllE <|
  UN vs fun v10 vs =>
  UN vs fun v75 _ =>
  BinI .lss v75 v74 fun v76 =>
  Cnd v76 (IA 1 v73 v75 fun v77 =>
  Ld1 v77 fun v78 =>
  BinI .geq v78 (.int .i64 0) fun v80 =>
  Grd v80 true (BinI .lss v78 (.int .i64 100) fun v83 =>
  Grd v83 true (LenS v53 fun v88 =>
  BinI .lss v78 v88 fun v89 =>
  Cnd v89 (IA 1 v53 v78 fun v93 =>
  Ld1 v93 fun v94 =>
  BSlC 3 1 #[(.int .i64 0)] 1 #[(0, v94)] fun v97 =>
  AppC 3 1 8 #[(.int .i64 0)] v10 v97 fun v98 =>
  BinI .add v75 (.int .i64 1) fun v99 =>
  vK [v98, v99])
  (BSlC 3 1 #[(.int .i64 0)] 1 #[(0, v78)] fun v97_1 =>
  AppC 3 1 8 #[(.int .i64 0)] v10 v97_1 fun v98_1 =>
  BinI .add v75 (.int .i64 1) fun v99_1 =>
  vK [v98_1, v99_1]))
  (BSlC 3 1 #[(.int .i64 0)] 1 #[(0, v78)] fun v97_2 =>
  AppC 3 1 8 #[(.int .i64 0)] v10 v97_2 fun v98_2 =>
  BinI .add v75 (.int .i64 1) fun v99_2 =>
  vK [v98_2, v99_2]))
  (BSlC 3 1 #[(.int .i64 0)] 1 #[(0, v78)] fun v97_3 =>
  AppC 3 1 8 #[(.int .i64 0)] v10 v97_3 fun v98_3 =>
  BinI .add v75 (.int .i64 1) fun v99_3 =>
  vK [v98_3, v99_3]))
  (FA v5 4 fun v100 =>
  Ld1 v100 fun v101 =>
  FA v5 0 fun v102 =>
  Ld1 v102 fun v103 =>
  BinI .eql v103 (.int .i64 1) fun v105 =>
  Cnd v105 (FA v5 6 fun v108 =>
  LdN 3 v108 fun v109 =>
  FA v5 5 fun v110 =>
  Ld1 v110 fun v111 =>
  FnV pg (.func (.func 14) #[] #[]) #[a0, v109, v111] fun v112 =>
  Ext v112 0 fun v113 =>
  Ext v112 1 fun v114 =>
  Drw <| QtC fun I =>
  QE I (fun KK => FA v5 6 fun v117 =>
  KK v117) fun v117_1 =>
  QE I (fun KK => LdN 3 v117_1 fun v118 =>
  KK v118) fun v118_1 =>
  QE I (fun KK => FA v5 5 fun v120 =>
  KK v120) fun v120_1 =>
  QE I (fun KK => Ld1 v120_1 fun v121 =>
  KK v121) fun v121_1 =>
  FnV pg (.func (.func 39) #[] #[]) #[v118_1] fun v119 =>
  CH I <|
  FnV pg (.func (.func 38) #[] #[]) #[a1, v119, v121_1] fun v122 =>
  QtC fun I =>
  QE I (fun KK => Ext v122 0 fun v123 =>
  KK v123) fun v123_1 =>
  QE I (fun KK => Ext v122 1 fun v124 =>
  KK v124) fun v124_1 =>
  BinI .eql v113 v123_1 fun v127 =>
  Grd v127 true (BinI .eql v114 v124_1 fun v131 =>
  KR v131)
  (KR (.bool false)))
  (BinI .eql v103 (.int .i64 2) fun v134 =>
  Cnd v134 (FnV pg (.func (.func 16) #[] #[]) #[a0, v9] fun v138 =>
  Ext v138 0 fun v139 =>
  Ext v138 1 fun v140 =>
  New 35 #[(.int .i64 0), (.int .i64 0), (.int .i64 0)] fun v18 =>
  St 3 v18 v139 fun _ =>
  FnV pg (.func (.func 40) #[] #[]) #[a1, v9, (.int .i64 0), (.int .i64 0)] fun v144 =>
  Ext v144 0 fun v145 =>
  Ext v144 1 fun v146 =>
  New 89 #[(.int .i64 0), (.int .i64 0), (.int .i64 0)] fun v20 =>
  St 3 v20 v145 fun _ =>
  Drw <| QtC fun I =>
  QE I (fun KK => LdN 3 v18 fun v147 =>
  KK v147) fun v147_1 =>
  QE I (fun KK => LdN 3 v20 fun v149 =>
  KK v149) fun v149_1 =>
  FnV pg (.func (.func 39) #[] #[]) #[v147_1] fun v148 =>
  CH I <|
  EqS 3 false v148 v149_1 fun v150 =>
  QtC fun _ =>
  Grd v150 true (BinI .eql v140 v146 fun v154 =>
  KR v154)
  (KR (.bool false)))
  (BinI .eql v103 (.int .i64 3) fun v157 =>
  Cnd v157 (FA v5 3 fun v161 =>
  Ld1 v161 fun v162 =>
  FnV pg (.func (.func 17) #[] #[]) #[a0, v9, v162, v101] fun v164 =>
  Ext v164 0 fun v165 =>
  Ext v164 1 fun v166 =>
  New 35 #[(.int .i64 0), (.int .i64 0), (.int .i64 0)] fun v22 =>
  St 3 v22 v165 fun _ =>
  FA v5 3 fun v170 =>
  Ld1 v170 fun v171 =>
  FA v5 4 fun v172 =>
  Ld1 v172 fun v173 =>
  FnV pg (.func (.func 40) #[] #[]) #[a1, v9, v171, v173] fun v174 =>
  Ext v174 0 fun v175 =>
  Ext v174 1 fun v176 =>
  New 89 #[(.int .i64 0), (.int .i64 0), (.int .i64 0)] fun v24 =>
  St 3 v24 v175 fun _ =>
  Drw <| QtC fun I =>
  QE I (fun KK => LdN 3 v22 fun v177 =>
  KK v177) fun v177_1 =>
  QE I (fun KK => LdN 3 v24 fun v179 =>
  KK v179) fun v179_1 =>
  FnV pg (.func (.func 39) #[] #[]) #[v177_1] fun v178 =>
  CH I <|
  EqS 3 false v178 v179_1 fun v180 =>
  QtC fun _ =>
  Grd v180 true (BinI .eql v166 v176 fun v184 =>
  KR v184)
  (KR (.bool false)))
  (BinI .eql v103 (.int .i64 4) fun v187 =>
  Cnd v187 (FnV pg (.func (.func 15) #[] #[]) #[a0, v9] fun v191 =>
  Ext v191 0 fun v192 =>
  Ext v191 1 fun v193 =>
  New 35 #[(.int .i64 0), (.int .i64 0), (.int .i64 0)] fun v26 =>
  St 3 v26 v192 fun _ =>
  FnV pg (.func (.func 41) #[] #[]) #[a1, v9] fun v197 =>
  Ext v197 0 fun v198 =>
  Ext v197 1 fun v199 =>
  New 89 #[(.int .i64 0), (.int .i64 0), (.int .i64 0)] fun v28 =>
  St 3 v28 v198 fun _ =>
  Drw <| QtC fun I =>
  QE I (fun KK => LdN 3 v26 fun v200 =>
  KK v200) fun v200_1 =>
  QE I (fun KK => LdN 3 v28 fun v202 =>
  KK v202) fun v202_1 =>
  FnV pg (.func (.func 39) #[] #[]) #[v200_1] fun v201 =>
  CH I <|
  EqS 3 false v201 v202_1 fun v203 =>
  QtC fun _ =>
  Grd v203 true (BinI .eql v193 v199 fun v207 =>
  KR v207)
  (KR (.bool false)))
  (BinI .eql v103 (.int .i64 5) fun v210 =>
  Cnd v210 (BSlC 3 1 #[(.int .i64 0)] 0 #[] fun v213 =>
  AppC 3 1 8 #[(.int .i64 0)] v213 v10 fun v215 =>
  FnV pg (.func (.func 20) #[] #[]) #[a0, v215] fun v216 =>
  Ext v216 0 fun v217 =>
  Ext v216 1 fun v218 =>
  FnV pg (.func (.func 42) #[] #[]) #[a1, v10] fun v222 =>
  Ext v222 0 fun v223 =>
  Ext v222 1 fun v224 =>
  FnV pg (.func (.func 28) #[] #[]) #[v217, v223] fun v227 =>
  Grd v227 true (BinI .eql v218 v224 fun v231 =>
  KR v231)
  (KR (.bool false)))
  (BinI .eql v103 (.int .i64 6) fun v234 =>
  Cnd v234 (BSlC 3 1 #[(.int .i64 0)] 0 #[] fun v237 =>
  AppC 3 1 8 #[(.int .i64 0)] v237 v10 fun v239 =>
  FnV pg (.func (.func 18) #[] #[]) #[a0, v239] fun v240 =>
  Ext v240 0 fun v241 =>
  Ext v240 1 fun v242 =>
  FnV pg (.func (.func 43) #[] #[]) #[a1, v10] fun v246 =>
  Ext v246 0 fun v247 =>
  Ext v246 1 fun v248 =>
  FnV pg (.func (.func 28) #[] #[]) #[v241, v247] fun v251 =>
  Grd v251 true (BinI .eql v242 v248 fun v255 =>
  KR v255)
  (KR (.bool false)))
  (BinI .eql v103 (.int .i64 7) fun v258 =>
  Cnd v258 (FA v5 5 fun v263 =>
  Ld1 v263 fun v264 =>
  FnV pg (.func (.func 22) #[] #[]) #[a0, v9, v101, v264] fun v265 =>
  Ext v265 0 fun v266 =>
  Ext v265 1 fun v267 =>
  FA v5 4 fun v271 =>
  Ld1 v271 fun v272 =>
  FA v5 5 fun v273 =>
  Ld1 v273 fun v274 =>
  FnV pg (.func (.func 44) #[] #[]) #[a1, v9, v272, v274] fun v275 =>
  Ext v275 0 fun v276 =>
  Ext v275 1 fun v277 =>
  BinI .eql v266 v276 fun v280 =>
  Grd v280 true (BinI .eql v267 v277 fun v284 =>
  KR v284)
  (KR (.bool false)))
  (BinI .eql v103 (.int .i64 8) fun v287 =>
  Cnd v287 (FA v5 5 fun v292 =>
  Ld1 v292 fun v293 =>
  FnV pg (.func (.func 24) #[] #[]) #[a0, v9, v101, v293] fun v294 =>
  Ext v294 0 fun v295 =>
  Ext v294 1 fun v296 =>
  Ext v294 2 fun v297 =>
  New 35 #[(.int .i64 0), (.int .i64 0), (.int .i64 0)] fun v43 =>
  St 3 v43 v296 fun _ =>
  FA v5 4 fun v301 =>
  Ld1 v301 fun v302 =>
  FA v5 5 fun v303 =>
  Ld1 v303 fun v304 =>
  FnV pg (.func (.func 45) #[] #[]) #[a1, v9, v302, v304] fun v305 =>
  Ext v305 0 fun v306 =>
  Ext v305 1 fun v307 =>
  Ext v305 2 fun v308 =>
  New 89 #[(.int .i64 0), (.int .i64 0), (.int .i64 0)] fun v46 =>
  St 3 v46 v307 fun _ =>
  Drw <| QtC fun I =>
  BinI .eql v295 v306 fun v311 =>
  QtC fun I =>
  Grd v311 true (QE I (fun KK => LdN 3 v43 fun v313 =>
  KK v313) fun v313_1 =>
  QE I (fun KK => LdN 3 v46 fun v315 =>
  KK v315) fun v315_1 =>
  FnV pg (.func (.func 39) #[] #[]) #[v313_1] fun v314 =>
  CH I <|
  EqS 3 false v314 v315_1 fun v316 =>
  QtC fun _ =>
  Grd v316 true (BinI .eql v297 v308 fun v321 =>
  KR v321)
  (KR (.bool false)))
  (CH I <|
  QtC fun _ =>
  KR (.bool false)))
  (BinI .eql v103 (.int .i64 9) fun v324 =>
  Cnd v324 (FnV pg (.func (.func 26) #[] #[]) #[a1] fun v327 =>
  Ext v327 0 fun _ =>
  Ext v327 1 fun v329 =>
  NilC a1 fun v332 =>
  FA v332 0 fun v333 =>
  St 1 v333 (.slice none 0 0) fun _ =>
  NilC a1 fun v334 =>
  FA v334 1 fun v335 =>
  St 1 v335 (.slice none 0 0) fun _ =>
  FnV pg (.func (.func 46) #[] #[]) #[a0] fun v337 =>
  FnV pg (.func (.func 28) #[] #[]) #[v337, v329] fun v339 =>
  KR v339)
  (KR (.bool true)))))))))))))
  fun vK_1 =>
  FA v5 2 fun v57 =>
  Ld1 v57 fun v58 =>
  BinI .geq v58 (.int .i64 0) fun v59 =>
  Grd v59 true (FA v5 2 fun v61 =>
  Ld1 v61 fun v62 =>
  LenS v53 fun v64 =>
  BinI .lss v62 v64 fun v65 =>
  Cnd v65 (FA v5 2 fun v68 =>
  Ld1 v68 fun v69 =>
  IA 1 v53 v69 fun v70 =>
  Ld1 v70 fun v71 =>
  vK_1 [v71])
  (vK_1 [v56]))
  (vK_1 [v56])
theorem V.jacinthlaw06_step_ok {a0 a1 a2 : Value} {K : Value → WP} {w : World} (h : V.jacinthlaw06_step a0 a1 a2 K w) : Cl pg 25 #[a0, a1, a2] K w :=
  cl_of pg_mixed Try.func25 (args := [a0, a1, a2]) (by kernel_rfl) (by rw [show WF pg Try.f25 [a0, a1, a2] K = V.jacinthlaw06_step a0 a1 a2 K from by kernel_rfl]; exact h)

def V.jacinthref06_Table_All (a0 : Value) (KR : Value → WP) : WP :=
  LoopC [(.slice none 0 0), (.slice none 0 0), (.int .i64 0)] fun vK vs => AllE <|
  UN vs fun v4 vs =>
  UN vs fun v5 vs =>
  UN vs fun v6 _ =>
  NilC a0 fun v9 =>
  FA v9 0 fun v10 =>
  Ld1 v10 fun v11 =>
  LenS v11 fun v12 =>
  BinI .lss v6 v12 fun v13 =>
  Cnd v13 (NilC a0 fun v17 =>
  FA v17 0 fun v18 =>
  Ld1 v18 fun v19 =>
  IA 1 v19 v6 fun v21 =>
  Ld1 v21 fun v22 =>
  BinI .neq v22 (.int .i64 0) fun v23 =>
  Cnd v23 (NilC a0 fun v26 =>
  FA v26 0 fun v27 =>
  Ld1 v27 fun v28 =>
  IA 1 v28 v6 fun v30 =>
  Ld1 v30 fun v31 =>
  BSlC 3 1 #[(.int .i64 0)] 1 #[(0, v31)] fun v32 =>
  AppC 3 1 8 #[(.int .i64 0)] v4 v32 fun v33 =>
  NilC a0 fun v36 =>
  FA v36 1 fun v37 =>
  Ld1 v37 fun v38 =>
  IA 3 v38 v6 fun v40 =>
  LdN 3 v40 fun v41 =>
  BSlC 89 3 #[(.int .i64 0), (.int .i64 0), (.int .i64 0)] 1 #[(0, v41)] fun v42 =>
  AppC 89 3 24 #[(.int .i64 0), (.int .i64 0), (.int .i64 0)] v5 v42 fun v43 =>
  BinI .add v6 (.int .i64 1) fun v15 =>
  vK [v33, v43, v15])
  (BinI .add v6 (.int .i64 1) fun v15_1 =>
  vK [v4, v5, v15_1]))
  (KR (.tuple #[v4, v5]))
theorem V.jacinthref06_Table_All_ok {a0 : Value} {K : Value → WP} {w : World} (h : V.jacinthref06_Table_All a0 K w) : Cl pg 26 #[a0] K w :=
  cl_of pg_mixed Try.func26 (args := [a0]) (by kernel_rfl) (by rw [show WF pg Try.f26 [a0] K = V.jacinthref06_Table_All a0 K from by kernel_rfl]; exact h)

def V.jacinthlaw06_ints (a0 a1 : Value) (KR : Value → WP) : WP :=
  LenS a0 fun v7 =>
  LenS a1 fun v9 =>
  BinI .neq v7 v9 fun v10 =>
  Cnd v10 (KR (.bool false))
  (LenS a0 fun v12 =>
  LoopC [(.bool false), (.int .i64 0)] fun vK vs => AllE <|
  UN vs fun v4 vs =>
  UN vs fun v13 _ =>
  BinI .lss v13 v12 fun v14 =>
  Cnd v14 (Drw <| QtC fun I =>
  QE I (fun KK => IA 1 a0 v13 fun v18 =>
  KK v18) fun v18_1 =>
  QE I (fun KK => Ld1 v18_1 fun v19 =>
  KK v19) fun v19_1 =>
  QE I (fun KK => IA 1 a1 v13 fun v22 =>
  KK v22) fun v22_1 =>
  QE I (fun KK => Ld1 v22_1 fun v23 =>
  KK v23) fun v23_1 =>
  BinI .neq v19_1 v23_1 fun v24 =>
  Cnd v24 (KR (.bool false))
  (BinI .add v13 (.int .i64 1) fun v25 =>
  vK [v4, v25]))
  (KR (.bool true)))
theorem V.jacinthlaw06_ints_ok {a0 a1 : Value} {K : Value → WP} {w : World} (h : V.jacinthlaw06_ints a0 a1 K w) : Cl pg 27 #[a0, a1] K w :=
  cl_of pg_mixed Try.func27 (args := [a0, a1]) (by kernel_rfl) (by rw [show WF pg Try.f27 [a0, a1] K = V.jacinthlaw06_ints a0 a1 K from by kernel_rfl]; exact h)

def V.jacinthlaw06_same (a0 a1 : Value) (KR : Value → WP) : WP :=
  LenS a0 fun v7 =>
  LenS a1 fun v9 =>
  BinI .neq v7 v9 fun v10 =>
  Cnd v10 (KR (.bool false))
  (LenS a0 fun v12 =>
  LoopC [(.bool false), (.int .i64 0)] fun vK vs => AllE <|
  UN vs fun v4 vs =>
  UN vs fun v13 _ =>
  BinI .lss v13 v12 fun v14 =>
  Cnd v14 (Drw <| QtC fun I =>
  QE I (fun KK => IA 3 a0 v13 fun v18 =>
  KK v18) fun v18_1 =>
  QE I (fun KK => LdN 3 v18_1 fun v19 =>
  KK v19) fun v19_1 =>
  QE I (fun KK => IA 3 a1 v13 fun v23 =>
  KK v23) fun v23_1 =>
  QE I (fun KK => LdN 3 v23_1 fun v24 =>
  KK v24) fun v24_1 =>
  FnV pg (.func (.func 39) #[] #[]) #[v19_1] fun v20 =>
  CH I <|
  EqS 3 true v20 v24_1 fun v25 =>
  Cnd v25 (KR (.bool false))
  (BinI .add v13 (.int .i64 1) fun v26 =>
  vK [v4, v26]))
  (KR (.bool true)))
theorem V.jacinthlaw06_same_ok {a0 a1 : Value} {K : Value → WP} {w : World} (h : V.jacinthlaw06_same a0 a1 K w) : Cl pg 28 #[a0, a1] K w :=
  cl_of pg_mixed Try.func28 (args := [a0, a1]) (by kernel_rfl) (by rw [show WF pg Try.f28 [a0, a1] K = V.jacinthlaw06_same a0 a1 K from by kernel_rfl]; exact h)

def V.handles_Table_Entries (a0 : Value) (KR : Value → WP) : WP :=
  New 44 #[(.slice none 0 0)] fun v3 =>
  FnV pg (.func (.func 36) #[] #[]) #[a0] fun v7 =>
  RF0 pg v7 (fun vl vs vK =>
  UN vs fun _ vs =>
  UN vs fun v9 vs =>
  UNe vs <|
  New 35 #[(.int .i64 0), (.int .i64 0), (.int .i64 0)] fun v5 =>
  St 3 v5 v9 fun _ =>
  RBeg vl <|
  Ld1 v3 fun v10 =>
  LdN 3 v5 fun v11 =>
  BSlC 35 3 #[(.int .i64 0), (.int .i64 0), (.int .i64 0)] 1 #[(0, v11)] fun v12 =>
  AppC 35 3 24 #[(.int .i64 0), (.int .i64 0), (.int .i64 0)] v10 v12 fun v13 =>
  St 1 v3 v13 fun _ =>
  REnd vl none vK)
  fun vm vj =>
  JumpC vj (Ld1 v3 fun v14 =>
  LvC (.tuple #[vm]) <| KR v14)
  (LvC (.tuple #[vm]) <| KR (.slice none 0 0))
  (fun _ => fun _ => False)
theorem V.handles_Table_Entries_ok {a0 : Value} {K : Value → WP} {w : World} (h : V.handles_Table_Entries a0 K w) : Cl pg 29 #[a0] K w :=
  cl_of pg_mixed Try.func29 (args := [a0]) (by kernel_rfl) (by rw [show WF pg Try.f29 [a0] K = V.handles_Table_Entries a0 K from by kernel_rfl]; exact h)

def V.handles_Table_Room (a0 : Value) (KR : Value → WP) : WP :=
  Drw <| QtC fun I =>
  QE I (fun KK => NilC a0 fun v4 =>
  KK v4) fun v4_1 =>
  QE I (fun KK => FA v4_1 1 fun v5 =>
  KK v5) fun v5_1 =>
  QE I (fun KK => Ld1 v5_1 fun v6 =>
  KK v6) fun v6_1 =>
  QE I (fun KK => NilC a0 fun v8 =>
  KK v8) fun v8_1 =>
  QE I (fun KK => FA v8_1 2 fun v9 =>
  KK v9) fun v9_1 =>
  QE I (fun KK => Ld1 v9_1 fun v10 =>
  KK v10) fun v10_1 =>
  BinI .sub v6_1 v10_1 fun v11 =>
  KR v11
theorem V.handles_Table_Room_ok {a0 : Value} {K : Value → WP} {w : World} (h : V.handles_Table_Room a0 K w) : Cl pg 30 #[a0] K w :=
  cl_of pg_mixed Try.func30 (args := [a0]) (by kernel_rfl) (by rw [show WF pg Try.f30 [a0] K = V.handles_Table_Room a0 K from by kernel_rfl]; exact h)

def V.slices_IndexFunc_slot_slot (a0 a1 : Value) (KR : Value → WP) : WP :=
  LenS a0 fun v7 =>
  LoopC [(.int .i64 0), (.int .i64 0)] fun vK vs => AllE <|
  UN vs fun v4 vs =>
  UN vs fun v8 _ =>
  BinI .lss v8 v7 fun v9 =>
  Cnd v9 (IA 4 a0 v8 fun v14 =>
  LdN 4 v14 fun v15 =>
  FnV pg a1 #[v15] fun v16 =>
  Cnd v16 (KR v8)
  (BinI .add v8 (.int .i64 1) fun v18 =>
  vK [v4, v18]))
  (KR (.int .i64 (-1)))
theorem V.slices_IndexFunc_slot_slot_ok {a0 a1 : Value} {K : Value → WP} {w : World} (h : V.slices_IndexFunc_slot_slot a0 a1 K w) : Cl pg 31 #[a0, a1] K w :=
  cl_of pg_mixed Try.func31 (args := [a0, a1]) (by kernel_rfl) (by rw [show WF pg Try.f31 [a0, a1] K = V.slices_IndexFunc_slot_slot a0 a1 K from by kernel_rfl]; exact h)

def V.handles_Table_Add_c1 (a0 : Value) (KR : Value → WP) : WP :=
  New 75 (Value.cells a0) fun v1 =>
  FA v1 0 fun v3 =>
  Ld1 v3 fun v4 =>
  BinI .eql v4 (.int .i64 0) fun v5 =>
  KR v5
theorem V.handles_Table_Add_c1_ok {a0 : Value} {K : Value → WP} {w : World} (h : V.handles_Table_Add_c1 a0 K w) : Cl pg 32 #[a0] K w :=
  cl_of pg_mixed Try.func32 (args := [a0]) (by kernel_rfl) (by rw [show WF pg Try.f32 [a0] K = V.handles_Table_Add_c1 a0 K from by kernel_rfl]; exact h)

def V.handles_Table_find (a0 a1 : Value) (KR : Value → WP) : WP :=
  FnV pg (.func (.func 11) #[] #[]) #[a1] fun v7 =>
  BinI .lss v7 (.int .i64 0) fun v9 =>
  Grd v9 false (NilC a0 fun v13 =>
  FA v13 0 fun v14 =>
  Ld1 v14 fun v15 =>
  LenS v15 fun v16 =>
  BinI .geq v7 v16 fun v17 =>
  Grd v17 false (NilC a0 fun v21 =>
  FA v21 0 fun v22 =>
  Ld1 v22 fun v23 =>
  IA 4 v23 v7 fun v25 =>
  FA v25 0 fun v26 =>
  Ld1 v26 fun v27 =>
  BinI .neq v27 a1 fun v29 =>
  Cnd v29 (KR (.pointer none))
  (NilC a0 fun v32 =>
  FA v32 0 fun v33 =>
  Ld1 v33 fun v34 =>
  IA 4 v34 v7 fun v36 =>
  KR v36))
  (KR (.pointer none)))
  (KR (.pointer none))
theorem V.handles_Table_find_ok {a0 a1 : Value} {K : Value → WP} {w : World} (h : V.handles_Table_find a0 a1 K w) : Cl pg 33 #[a0, a1] K w :=
  cl_of pg_mixed Try.func33 (args := [a0, a1]) (by kernel_rfl) (by rw [show WF pg Try.f33 [a0, a1] K = V.handles_Table_find a0 a1 K from by kernel_rfl]; exact h)

def V.rights_Rights_Need (a0 a1 : Value) (KR : Value → WP) : WP :=
  FnV pg (.func (.func 23) #[] #[]) #[a0, a1] fun v7 =>
  Un .not v7 fun v8 =>
  Cnd v8 (KR (.int .i64 (-30)))
  (KR (.int .i64 0))
theorem V.rights_Rights_Need_ok {a0 a1 : Value} {K : Value → WP} {w : World} (h : V.rights_Rights_Need a0 a1 K w) : Cl pg 34 #[a0, a1] K w :=
  cl_of pg_mixed Try.func34 (args := [a0, a1]) (by kernel_rfl) (by rw [show WF pg Try.f34 [a0, a1] K = V.rights_Rights_Need a0 a1 K from by kernel_rfl]; exact h)

def V.slices_Contains_int_int (a0 a1 : Value) (KR : Value → WP) : WP :=
  FnV pg (.func (.func 47) #[] #[]) #[a0, a1] fun v7 =>
  BinI .geq v7 (.int .i64 0) fun v8 =>
  KR v8
theorem V.slices_Contains_int_int_ok {a0 a1 : Value} {K : Value → WP} {w : World} (h : V.slices_Contains_int_int a0 a1 K w) : Cl pg 35 #[a0, a1] K w :=
  cl_of pg_mixed Try.func35 (args := [a0, a1]) (by kernel_rfl) (by rw [show WF pg Try.f35 [a0, a1] K = V.slices_Contains_int_int a0 a1 K from by kernel_rfl]; exact h)

def V.handles_Table_all (a0 : Value) (KR : Value → WP) : WP :=
  New 28 (Value.cells a0) fun v1 =>
  KR (.func (.func 48) #[] #[v1])
theorem V.handles_Table_all_ok {a0 : Value} {K : Value → WP} {w : World} (h : V.handles_Table_all a0 K w) : Cl pg 36 #[a0] K w :=
  cl_of pg_mixed Try.func36 (args := [a0]) (by kernel_rfl) (by rw [show WF pg Try.f36 [a0] K = V.handles_Table_all a0 K from by kernel_rfl]; exact h)

def V.rights_Rights_Reduce (a0 a1 : Value) (KR : Value → WP) : WP :=
  BinI .eql a1 (.int .i64 2147483648) fun v8 =>
  Cnd v8 (KR (.tuple #[a0, (.int .i64 0)]))
  (FnV pg (.func (.func 49) #[] #[]) #[a1] fun v12 =>
  Un .not v12 fun v13 =>
  Grd v13 false (FnV pg (.func (.func 23) #[] #[]) #[a0, a1] fun v17 =>
  Un .not v17 fun v18 =>
  Cnd v18 (KR (.tuple #[(.int .i64 0), (.int .i64 (-10))]))
  (KR (.tuple #[a1, (.int .i64 0)])))
  (KR (.tuple #[(.int .i64 0), (.int .i64 (-10))])))
theorem V.rights_Rights_Reduce_ok {a0 a1 : Value} {K : Value → WP} {w : World} (h : V.rights_Rights_Reduce a0 a1 K w) : Cl pg 37 #[a0, a1] K w :=
  cl_of pg_mixed Try.func37 (args := [a0, a1]) (by kernel_rfl) (by rw [show WF pg Try.f37 [a0, a1] K = V.rights_Rights_Reduce a0 a1 K from by kernel_rfl]; exact h)

def V.jacinthref06_Table_Add (a0 a1 a2 : Value) (KR : Value → WP) : WP :=
  New 89 (Value.cells a1) fun v4 =>
  Drw <| QtC fun I =>
  QE I (fun KK => NilC a0 fun v12 =>
  KK v12) fun v12_1 =>
  QE I (fun KK => FA v12_1 2 fun v13 =>
  KK v13) fun v13_1 =>
  QE I (fun KK => Ld1 v13_1 fun v14 =>
  KK v14) fun v14_1 =>
  FnV pg (.func (.func 50) #[] #[]) #[a0] fun v10 =>
  CH I <|
  BinI .geq v10 v14_1 fun v15 =>
  Cnd v15 (KR (.tuple #[(.int .i64 0), (.int .i64 (-4))]))
  (LoopC [(.int .i64 0)] fun vK vs => AllE <|
  UN vs fun v8 _ =>
  NilC a0 fun v18 =>
  FA v18 0 fun v19 =>
  Ld1 v19 fun v20 =>
  LenS v20 fun v21 =>
  BinI .lss v8 v21 fun v22 =>
  Grd v22 true (NilC a0 fun v25 =>
  FA v25 0 fun v26 =>
  Ld1 v26 fun v27 =>
  IA 1 v27 v8 fun v29 =>
  Ld1 v29 fun v30 =>
  BinI .neq v30 (.int .i64 0) fun v31 =>
  Cnd v31 (BinI .add v8 (.int .i64 1) fun v34 =>
  vK [v34])
  (JoinC (fun _ => AllE (Drw <| QtC fun I =>
  QE I (fun KK => NilC a0 fun v62 =>
  KK v62) fun v62_1 =>
  QE I (fun KK => FA v62_1 0 fun v63 =>
  KK v63) fun v63_1 =>
  QE I (fun KK => Ld1 v63_1 fun v64 =>
  KK v64) fun v64_1 =>
  QE I (fun KK => BinI .mul v8 (.int .i64 4) fun v70 =>
  KK v70) fun v70_1 =>
  FnV pg (.func (.func 10) #[] #[]) #[a2] fun v67 =>
  CH I <|
  BinI .mul v67 (.int .i64 1048576) fun v68 =>
  CH I <|
  BinI .add v68 v70_1 fun v71 =>
  CH I <|
  BinI .add v71 (.int .i64 3) fun v72 =>
  CH I <|
  IA 1 v64_1 v8 fun v73 =>
  St 1 v73 v72 fun _ =>
  Drw <| QtC fun I =>
  QE I (fun KK => NilC a0 fun v75 =>
  KK v75) fun v75_1 =>
  QE I (fun KK => FA v75_1 1 fun v76 =>
  KK v76) fun v76_1 =>
  QE I (fun KK => Ld1 v76_1 fun v77 =>
  KK v77) fun v77_1 =>
  QE I (fun KK => LdN 3 v4 fun v79 =>
  KK v79) fun v79_1 =>
  IA 3 v77_1 v8 fun v80 =>
  St 3 v80 v79_1 fun _ =>
  NilC a0 fun v82 =>
  FA v82 0 fun v83 =>
  Ld1 v83 fun v84 =>
  IA 1 v84 v8 fun v86 =>
  Ld1 v86 fun v87 =>
  KR (.tuple #[v87, (.int .i64 0)])))
  fun vK_1 =>
  NilC a0 fun v37 =>
  FA v37 0 fun v38 =>
  Ld1 v38 fun v39 =>
  LenS v39 fun v40 =>
  BinI .eql v8 v40 fun v41 =>
  Cnd v41 (NilC a0 fun v44 =>
  FA v44 0 fun v45 =>
  Ld1 v45 fun v46 =>
  BSlC 3 1 #[(.int .i64 0)] 1 #[(0, (.int .i64 0))] fun v47 =>
  AppC 3 1 8 #[(.int .i64 0)] v46 v47 fun v48 =>
  NilC a0 fun v49 =>
  FA v49 0 fun v50 =>
  St 1 v50 v48 fun _ =>
  NilC a0 fun v53 =>
  FA v53 1 fun v54 =>
  Ld1 v54 fun v55 =>
  Ex pg (bldS #[(.int .i64 0), (.int .i64 0), (.int .i64 0)] [(0, 1), (1, 1), (2, 1)] #[]) fun v56 =>
  BSlC 89 3 #[(.int .i64 0), (.int .i64 0), (.int .i64 0)] 1 #[(0, v56)] fun v57 =>
  AppC 89 3 24 #[(.int .i64 0), (.int .i64 0), (.int .i64 0)] v55 v57 fun v58 =>
  NilC a0 fun v59 =>
  FA v59 1 fun v60 =>
  St 1 v60 v58 fun _ =>
  vK_1 [])
  (vK_1 [])))
  (JoinC (fun _ => AllE (Drw <| QtC fun I =>
  QE I (fun KK => NilC a0 fun v62_2 =>
  KK v62_2) fun v62_3 =>
  QE I (fun KK => FA v62_3 0 fun v63_2 =>
  KK v63_2) fun v63_3 =>
  QE I (fun KK => Ld1 v63_3 fun v64_2 =>
  KK v64_2) fun v64_3 =>
  QE I (fun KK => BinI .mul v8 (.int .i64 4) fun v70_2 =>
  KK v70_2) fun v70_3 =>
  FnV pg (.func (.func 10) #[] #[]) #[a2] fun v67_1 =>
  CH I <|
  BinI .mul v67_1 (.int .i64 1048576) fun v68_1 =>
  CH I <|
  BinI .add v68_1 v70_3 fun v71_1 =>
  CH I <|
  BinI .add v71_1 (.int .i64 3) fun v72_1 =>
  CH I <|
  IA 1 v64_3 v8 fun v73_1 =>
  St 1 v73_1 v72_1 fun _ =>
  Drw <| QtC fun I =>
  QE I (fun KK => NilC a0 fun v75_2 =>
  KK v75_2) fun v75_3 =>
  QE I (fun KK => FA v75_3 1 fun v76_2 =>
  KK v76_2) fun v76_3 =>
  QE I (fun KK => Ld1 v76_3 fun v77_2 =>
  KK v77_2) fun v77_3 =>
  QE I (fun KK => LdN 3 v4 fun v79_2 =>
  KK v79_2) fun v79_3 =>
  IA 3 v77_3 v8 fun v80_1 =>
  St 3 v80_1 v79_3 fun _ =>
  NilC a0 fun v82_1 =>
  FA v82_1 0 fun v83_1 =>
  Ld1 v83_1 fun v84_1 =>
  IA 1 v84_1 v8 fun v86_1 =>
  Ld1 v86_1 fun v87_1 =>
  KR (.tuple #[v87_1, (.int .i64 0)])))
  fun vK_2 =>
  NilC a0 fun v37_1 =>
  FA v37_1 0 fun v38_1 =>
  Ld1 v38_1 fun v39_1 =>
  LenS v39_1 fun v40_1 =>
  BinI .eql v8 v40_1 fun v41_1 =>
  Cnd v41_1 (NilC a0 fun v44_1 =>
  FA v44_1 0 fun v45_1 =>
  Ld1 v45_1 fun v46_1 =>
  BSlC 3 1 #[(.int .i64 0)] 1 #[(0, (.int .i64 0))] fun v47_1 =>
  AppC 3 1 8 #[(.int .i64 0)] v46_1 v47_1 fun v48_1 =>
  NilC a0 fun v49_1 =>
  FA v49_1 0 fun v50_1 =>
  St 1 v50_1 v48_1 fun _ =>
  NilC a0 fun v53_1 =>
  FA v53_1 1 fun v54_1 =>
  Ld1 v54_1 fun v55_1 =>
  Ex pg (bldS #[(.int .i64 0), (.int .i64 0), (.int .i64 0)] [(0, 1), (1, 1), (2, 1)] #[]) fun v56_1 =>
  BSlC 89 3 #[(.int .i64 0), (.int .i64 0), (.int .i64 0)] 1 #[(0, v56_1)] fun v57_1 =>
  AppC 89 3 24 #[(.int .i64 0), (.int .i64 0), (.int .i64 0)] v55_1 v57_1 fun v58_1 =>
  NilC a0 fun v59_1 =>
  FA v59_1 1 fun v60_1 =>
  St 1 v60_1 v58_1 fun _ =>
  vK_2 [])
  (vK_2 [])))
theorem V.jacinthref06_Table_Add_ok {a0 a1 a2 : Value} {K : Value → WP} {w : World} (h : V.jacinthref06_Table_Add a0 a1 a2 K w) : Cl pg 38 #[a0, a1, a2] K w :=
  cl_of pg_mixed Try.func38 (args := [a0, a1, a2]) (by kernel_rfl) (by rw [show WF pg Try.f38 [a0, a1, a2] K = V.jacinthref06_Table_Add a0 a1 a2 K from by kernel_rfl]; exact h)

def V.jacinthlaw06_ref (a0 : Value) (KR : Value → WP) : WP :=
  New 35 (Value.cells a0) fun v1 =>
  New 89 #[(.int .i64 0), (.int .i64 0), (.int .i64 0)] fun v2 =>
  FA v1 0 fun v3 =>
  Ld1 v3 fun v4 =>
  FA v1 1 fun v5 =>
  Ld1 v5 fun v6 =>
  FA v1 2 fun v7 =>
  Ld1 v7 fun v8 =>
  Ex pg (bldS #[(.int .i64 0), (.int .i64 0), (.int .i64 0)] [(0, 1), (1, 1), (2, 1)] #[(0, v4), (1, v6), (2, v8)]) fun v9 =>
  St 3 v2 v9 fun _ =>
  LdN 3 v2 fun vr =>
  KR vr
theorem V.jacinthlaw06_ref_ok {a0 : Value} {K : Value → WP} {w : World} (h : V.jacinthlaw06_ref a0 K w) : Cl pg 39 #[a0] K w :=
  cl_of pg_mixed Try.func39 (args := [a0]) (by kernel_rfl) (by rw [show WF pg Try.f39 [a0] K = V.jacinthlaw06_ref a0 K from by kernel_rfl]; exact h)

def V.jacinthref06_Table_Look (a0 a1 a2 a3 : Value) (KR : Value → WP) : WP :=
  New 89 #[(.int .i64 0), (.int .i64 0), (.int .i64 0)] fun v8 =>
  FnV pg (.func (.func 51) #[] #[]) #[a0, a1] fun v14 =>
  BinI .lss v14 (.int .i64 0) fun v16 =>
  Cnd v16 (Ex pg (bldS #[(.int .i64 0), (.int .i64 0), (.int .i64 0)] [(0, 1), (1, 1), (2, 1)] #[]) fun v17 =>
  St 3 v8 v17 fun _ =>
  LdN 3 v8 fun vr =>
  KR (.tuple #[vr, (.int .i64 (-11))]))
  (NilC a0 fun v19 =>
  FA v19 1 fun v20 =>
  Ld1 v20 fun v21 =>
  IA 3 v21 v14 fun v23 =>
  LdN 3 v23 fun v24 =>
  New 89 #[(.int .i64 0), (.int .i64 0), (.int .i64 0)] fun v11 =>
  St 3 v11 v24 fun _ =>
  BinI .neq a2 (.int .i64 0) fun v26 =>
  Grd v26 true (FA v11 1 fun v29 =>
  Ld1 v29 fun v30 =>
  BinI .neq a2 v30 fun v31 =>
  Cnd v31 (Ex pg (bldS #[(.int .i64 0), (.int .i64 0), (.int .i64 0)] [(0, 1), (1, 1), (2, 1)] #[]) fun v33 =>
  St 3 v8 v33 fun _ =>
  LdN 3 v8 fun vr_1 =>
  KR (.tuple #[vr_1, (.int .i64 (-12))]))
  (FA v11 2 fun v34 =>
  Ld1 v34 fun v35 =>
  FnV pg (.func (.func 52) #[] #[]) #[v35, a3] fun v37 =>
  Un .not v37 fun v38 =>
  Cnd v38 (Ex pg (bldS #[(.int .i64 0), (.int .i64 0), (.int .i64 0)] [(0, 1), (1, 1), (2, 1)] #[]) fun v39 =>
  St 3 v8 v39 fun _ =>
  LdN 3 v8 fun vr_2 =>
  KR (.tuple #[vr_2, (.int .i64 (-30))]))
  (LdN 3 v11 fun v40 =>
  St 3 v8 v40 fun _ =>
  LdN 3 v8 fun vr_3 =>
  KR (.tuple #[vr_3, (.int .i64 0)]))))
  (FA v11 2 fun v34_1 =>
  Ld1 v34_1 fun v35_1 =>
  FnV pg (.func (.func 52) #[] #[]) #[v35_1, a3] fun v37_1 =>
  Un .not v37_1 fun v38_1 =>
  Cnd v38_1 (Ex pg (bldS #[(.int .i64 0), (.int .i64 0), (.int .i64 0)] [(0, 1), (1, 1), (2, 1)] #[]) fun v39_1 =>
  St 3 v8 v39_1 fun _ =>
  LdN 3 v8 fun vr_4 =>
  KR (.tuple #[vr_4, (.int .i64 (-30))]))
  (LdN 3 v11 fun v40_1 =>
  St 3 v8 v40_1 fun _ =>
  LdN 3 v8 fun vr_5 =>
  KR (.tuple #[vr_5, (.int .i64 0)]))))
theorem V.jacinthref06_Table_Look_ok {a0 a1 a2 a3 : Value} {K : Value → WP} {w : World} (h : V.jacinthref06_Table_Look a0 a1 a2 a3 K w) : Cl pg 40 #[a0, a1, a2, a3] K w :=
  cl_of pg_mixed Try.func40 (args := [a0, a1, a2, a3]) (by kernel_rfl) (by rw [show WF pg Try.f40 [a0, a1, a2, a3] K = V.jacinthref06_Table_Look a0 a1 a2 a3 K from by kernel_rfl]; exact h)

def V.jacinthref06_Table_Close (a0 a1 : Value) (KR : Value → WP) : WP :=
  New 89 #[(.int .i64 0), (.int .i64 0), (.int .i64 0)] fun v4 =>
  FnV pg (.func (.func 51) #[] #[]) #[a0, a1] fun v10 =>
  BinI .lss v10 (.int .i64 0) fun v12 =>
  Cnd v12 (Ex pg (bldS #[(.int .i64 0), (.int .i64 0), (.int .i64 0)] [(0, 1), (1, 1), (2, 1)] #[]) fun v13 =>
  St 3 v4 v13 fun _ =>
  LdN 3 v4 fun vr =>
  KR (.tuple #[vr, (.int .i64 (-11))]))
  (NilC a0 fun v15 =>
  FA v15 1 fun v16 =>
  Ld1 v16 fun v17 =>
  IA 3 v17 v10 fun v19 =>
  LdN 3 v19 fun v20 =>
  New 89 #[(.int .i64 0), (.int .i64 0), (.int .i64 0)] fun v7 =>
  St 3 v7 v20 fun _ =>
  NilC a0 fun v22 =>
  FA v22 0 fun v23 =>
  Ld1 v23 fun v24 =>
  IA 1 v24 v10 fun v26 =>
  St 1 v26 (.int .i64 0) fun _ =>
  NilC a0 fun v28 =>
  FA v28 1 fun v29 =>
  Ld1 v29 fun v30 =>
  Ex pg (bldS #[(.int .i64 0), (.int .i64 0), (.int .i64 0)] [(0, 1), (1, 1), (2, 1)] #[]) fun v32 =>
  IA 3 v30 v10 fun v33 =>
  St 3 v33 v32 fun _ =>
  LdN 3 v7 fun v34 =>
  St 3 v4 v34 fun _ =>
  LdN 3 v4 fun vr_1 =>
  KR (.tuple #[vr_1, (.int .i64 0)]))
theorem V.jacinthref06_Table_Close_ok {a0 a1 : Value} {K : Value → WP} {w : World} (h : V.jacinthref06_Table_Close a0 a1 K w) : Cl pg 41 #[a0, a1] K w :=
  cl_of pg_mixed Try.func41 (args := [a0, a1]) (by kernel_rfl) (by rw [show WF pg Try.f41 [a0, a1] K = V.jacinthref06_Table_Close a0 a1 K from by kernel_rfl]; exact h)

def V.jacinthref06_Table_CloseMany (a0 a1 : Value) (KR : Value → WP) : WP :=
  LoopC [(.int .i64 0), (.slice none 0 0), (.int .i64 0)] fun vK vs => AllE <|
  UN vs fun v7 vs =>
  UN vs fun v6 vs =>
  UN vs fun v8 _ =>
  LenS a1 fun v13 =>
  BinI .lss v8 v13 fun v14 =>
  Cnd v14 (IA 1 a1 v8 fun v19 =>
  Ld1 v19 fun v20 =>
  BinI .eql v20 (.int .i64 0) fun v21 =>
  Cnd v21 (BinI .add v8 (.int .i64 1) fun v16 =>
  vK [v7, v6, v16])
  (IA 1 a1 v8 fun v26 =>
  Ld1 v26 fun v27 =>
  FnV pg (.func (.func 41) #[] #[]) #[a0, v27] fun v28 =>
  Ext v28 0 fun v29 =>
  Ext v28 1 fun v30 =>
  New 89 #[(.int .i64 0), (.int .i64 0), (.int .i64 0)] fun v9 =>
  St 3 v9 v29 fun _ =>
  BinI .neq v30 (.int .i64 0) fun v32 =>
  Cnd v32 (BinI .add v8 (.int .i64 1) fun v16_1 =>
  vK [v30, v6, v16_1])
  (LdN 3 v9 fun v35 =>
  BSlC 89 3 #[(.int .i64 0), (.int .i64 0), (.int .i64 0)] 1 #[(0, v35)] fun v36 =>
  AppC 89 3 24 #[(.int .i64 0), (.int .i64 0), (.int .i64 0)] v6 v36 fun v37 =>
  BinI .add v8 (.int .i64 1) fun v16_2 =>
  vK [v7, v37, v16_2])))
  (KR (.tuple #[v6, v7]))
theorem V.jacinthref06_Table_CloseMany_ok {a0 a1 : Value} {K : Value → WP} {w : World} (h : V.jacinthref06_Table_CloseMany a0 a1 K w) : Cl pg 42 #[a0, a1] K w :=
  cl_of pg_mixed Try.func42 (args := [a0, a1]) (by kernel_rfl) (by rw [show WF pg Try.f42 [a0, a1] K = V.jacinthref06_Table_CloseMany a0 a1 K from by kernel_rfl]; exact h)

def V.jacinthref06_Table_Take (a0 a1 : Value) (KR : Value → WP) : WP :=
  LoopC [(.slice none 0 0), (.int .i64 0), (.int .i64 0)] fun vK vs => AllE <|
  UN vs fun v4 vs =>
  UN vs fun v5 vs =>
  UN vs fun v6 _ =>
  LenS a1 fun v14 =>
  BinI .lss v6 v14 fun v15 =>
  Cnd v15 (IA 1 a1 v6 fun v21 =>
  Ld1 v21 fun v22 =>
  FnV pg (.func (.func 51) #[] #[]) #[a0, v22] fun v23 =>
  BinI .lss v23 (.int .i64 0) fun v24 =>
  Cnd v24 (KR (.tuple #[(.slice none 0 0), (.int .i64 (-11))]))
  (LoopC [v4, v5, (.int .i64 0)] fun vK_1 vs => AllE <|
  UN vs fun v4_1 vs =>
  UN vs fun v5_1 vs =>
  UN vs fun v7 _ =>
  BinI .lss v7 v6 fun v27 =>
  Cnd v27 (Drw <| QtC fun I =>
  QE I (fun KK => IA 1 a1 v7 fun v32 =>
  KK v32) fun v32_1 =>
  QE I (fun KK => Ld1 v32_1 fun v33 =>
  KK v33) fun v33_1 =>
  QE I (fun KK => IA 1 a1 v6 fun v36 =>
  KK v36) fun v36_1 =>
  QE I (fun KK => Ld1 v36_1 fun v37 =>
  KK v37) fun v37_1 =>
  BinI .eql v33_1 v37_1 fun v38 =>
  Cnd v38 (KR (.tuple #[(.slice none 0 0), (.int .i64 (-11))]))
  (BinI .add v7 (.int .i64 1) fun v29 =>
  vK_1 [v4_1, v5_1, v29]))
  (BinI .add v6 (.int .i64 1) fun v17 =>
  vK [v4_1, v5_1, v17])))
  (LoopC [(.slice none 0 0), (.int .i64 0)] fun vK_2 vs => AllE <|
  UN vs fun v8 vs =>
  UN vs fun v9 _ =>
  LenS a1 fun v41 =>
  BinI .lss v9 v41 fun v42 =>
  Cnd v42 (IA 1 a1 v9 fun v49 =>
  Ld1 v49 fun v50 =>
  FnV pg (.func (.func 41) #[] #[]) #[a0, v50] fun v51 =>
  Ext v51 0 fun v52 =>
  Ext v51 1 fun _ =>
  New 89 #[(.int .i64 0), (.int .i64 0), (.int .i64 0)] fun v10 =>
  St 3 v10 v52 fun _ =>
  LdN 3 v10 fun v55 =>
  BSlC 89 3 #[(.int .i64 0), (.int .i64 0), (.int .i64 0)] 1 #[(0, v55)] fun v56 =>
  AppC 89 3 24 #[(.int .i64 0), (.int .i64 0), (.int .i64 0)] v8 v56 fun v57 =>
  BinI .add v9 (.int .i64 1) fun v44 =>
  vK_2 [v57, v44])
  (KR (.tuple #[v8, (.int .i64 0)])))
theorem V.jacinthref06_Table_Take_ok {a0 a1 : Value} {K : Value → WP} {w : World} (h : V.jacinthref06_Table_Take a0 a1 K w) : Cl pg 43 #[a0, a1] K w :=
  cl_of pg_mixed Try.func43 (args := [a0, a1]) (by kernel_rfl) (by rw [show WF pg Try.f43 [a0, a1] K = V.jacinthref06_Table_Take a0 a1 K from by kernel_rfl]; exact h)

def V.jacinthref06_Table_Duplicate (a0 a1 a2 a3 : Value) (KR : Value → WP) : WP :=
  FnV pg (.func (.func 40) #[] #[]) #[a0, a1, (.int .i64 0), (.int .i64 1)] fun v16 =>
  Ext v16 0 fun v17 =>
  Ext v16 1 fun v18 =>
  New 89 #[(.int .i64 0), (.int .i64 0), (.int .i64 0)] fun v10 =>
  St 3 v10 v17 fun _ =>
  BinI .neq v18 (.int .i64 0) fun v20 =>
  Cnd v20 (KR (.tuple #[(.int .i64 0), v18]))
  (FA v10 2 fun v23 =>
  Ld1 v23 fun v24 =>
  FnV pg (.func (.func 53) #[] #[]) #[v24, a2] fun v26 =>
  Ext v26 0 fun v27 =>
  Ext v26 1 fun v28 =>
  BinI .neq v28 (.int .i64 0) fun v30 =>
  Cnd v30 (KR (.tuple #[(.int .i64 0), v28]))
  (FA v10 2 fun v33 =>
  St 1 v33 v27 fun _ =>
  LdN 3 v10 fun v35 =>
  FnV pg (.func (.func 38) #[] #[]) #[a0, v35, a3] fun v37 =>
  Ext v37 0 fun v38 =>
  Ext v37 1 fun v39 =>
  KR (.tuple #[v38, v39])))
theorem V.jacinthref06_Table_Duplicate_ok {a0 a1 a2 a3 : Value} {K : Value → WP} {w : World} (h : V.jacinthref06_Table_Duplicate a0 a1 a2 a3 K w) : Cl pg 44 #[a0, a1, a2, a3] K w :=
  cl_of pg_mixed Try.func44 (args := [a0, a1, a2, a3]) (by kernel_rfl) (by rw [show WF pg Try.f44 [a0, a1, a2, a3] K = V.jacinthref06_Table_Duplicate a0 a1 a2 a3 K from by kernel_rfl]; exact h)

def V.jacinthref06_Table_Replace (a0 a1 a2 a3 : Value) (KR : Value → WP) : WP :=
  New 89 #[(.int .i64 0), (.int .i64 0), (.int .i64 0)] fun v9 =>
  FnV pg (.func (.func 41) #[] #[]) #[a0, a1] fun v18 =>
  Ext v18 0 fun v19 =>
  Ext v18 1 fun v20 =>
  New 89 #[(.int .i64 0), (.int .i64 0), (.int .i64 0)] fun v11 =>
  St 3 v11 v19 fun _ =>
  BinI .neq v20 (.int .i64 0) fun v22 =>
  Cnd v22 (Ex pg (bldS #[(.int .i64 0), (.int .i64 0), (.int .i64 0)] [(0, 1), (1, 1), (2, 1)] #[]) fun v23 =>
  St 3 v9 v23 fun _ =>
  LdN 3 v9 fun vr =>
  KR (.tuple #[(.int .i64 0), vr, v20]))
  (FA v11 2 fun v26 =>
  Ld1 v26 fun v27 =>
  FnV pg (.func (.func 53) #[] #[]) #[v27, a2] fun v29 =>
  Ext v29 0 fun v30 =>
  Ext v29 1 fun v31 =>
  BinI .neq v31 (.int .i64 0) fun v33 =>
  Cnd v33 (Drw <| QtC fun I =>
  QE I (fun KK => LdN 3 v11 fun v34 =>
  KK v34) fun v34_1 =>
  St 3 v9 v34_1 fun _ =>
  LdN 3 v9 fun vr_1 =>
  KR (.tuple #[(.int .i64 0), vr_1, v31]))
  (FA v11 2 fun v37 =>
  St 1 v37 v30 fun _ =>
  LdN 3 v11 fun v40 =>
  FnV pg (.func (.func 38) #[] #[]) #[a0, v40, a3] fun v42 =>
  Ext v42 0 fun v43 =>
  Ext v42 1 fun v44 =>
  Ex pg (bldS #[(.int .i64 0), (.int .i64 0), (.int .i64 0)] [(0, 1), (1, 1), (2, 1)] #[]) fun v46 =>
  St 3 v9 v46 fun _ =>
  LdN 3 v9 fun vr_2 =>
  KR (.tuple #[v43, vr_2, v44])))
theorem V.jacinthref06_Table_Replace_ok {a0 a1 a2 a3 : Value} {K : Value → WP} {w : World} (h : V.jacinthref06_Table_Replace a0 a1 a2 a3 K w) : Cl pg 45 #[a0, a1, a2, a3] K w :=
  cl_of pg_mixed Try.func45 (args := [a0, a1, a2, a3]) (by kernel_rfl) (by rw [show WF pg Try.f45 [a0, a1, a2, a3] K = V.jacinthref06_Table_Replace a0 a1 a2 a3 K from by kernel_rfl]; exact h)

def V.handles_Table_Clear (a0 : Value) (KR : Value → WP) : WP :=
  FnV pg (.func (.func 29) #[] #[]) #[a0] fun v5 =>
  NilC a0 fun v7 =>
  FA v7 0 fun v8 =>
  Ld1 v8 fun v9 =>
  Ex pg (clrS #[(.int .i64 0), (.int .i64 0), (.int .i64 0), (.int .i64 0)] v9) fun _ =>
  NilC a0 fun v13 =>
  FA v13 0 fun v14 =>
  Ld1 v14 fun v15 =>
  SlC 4 v15 none (some (.int .i64 0)) fun v16 =>
  NilC a0 fun v17 =>
  FA v17 0 fun v18 =>
  St 1 v18 v16 fun _ =>
  NilC a0 fun v19 =>
  FA v19 2 fun v20 =>
  St 1 v20 (.int .i64 0) fun _ =>
  KR v5
theorem V.handles_Table_Clear_ok {a0 : Value} {K : Value → WP} {w : World} (h : V.handles_Table_Clear a0 K w) : Cl pg 46 #[a0] K w :=
  cl_of pg_mixed Try.func46 (args := [a0]) (by kernel_rfl) (by rw [show WF pg Try.f46 [a0] K = V.handles_Table_Clear a0 K from by kernel_rfl]; exact h)

def V.slices_Index_int_int (a0 a1 : Value) (KR : Value → WP) : WP :=
  LenS a0 fun v7 =>
  LoopC [(.int .i64 0), (.int .i64 0)] fun vK vs => AllE <|
  UN vs fun v4 vs =>
  UN vs fun v8 _ =>
  BinI .lss v8 v7 fun v9 =>
  Cnd v9 (IA 1 a0 v8 fun v14 =>
  Ld1 v14 fun v15 =>
  BinI .eql a1 v15 fun v16 =>
  Cnd v16 (KR v8)
  (BinI .add v8 (.int .i64 1) fun v18 =>
  vK [v4, v18]))
  (KR (.int .i64 (-1)))
theorem V.slices_Index_int_int_ok {a0 a1 : Value} {K : Value → WP} {w : World} (h : V.slices_Index_int_int a0 a1 K w) : Cl pg 47 #[a0, a1] K w :=
  cl_of pg_mixed Try.func47 (args := [a0, a1]) (by kernel_rfl) (by rw [show WF pg Try.f47 [a0, a1] K = V.slices_Index_int_int a0 a1 K from by kernel_rfl]; exact h)

def V.handles_Table_all_c1 (a0 a1 : Value) (KR : Value → WP) : WP :=
  Ld1 a1 fun v5 =>
  NilC v5 fun v6 =>
  FA v6 0 fun v7 =>
  Ld1 v7 fun v8 =>
  LenS v8 fun v9 =>
  LoopC [(.int .i64 0)] fun vK vs => AllE <|
  UN vs fun v10 _ =>
  BinI .lss v10 v9 fun v11 =>
  Cnd v11 (IA 4 v8 v10 fun v12 =>
  LdN 4 v12 fun v13 =>
  New 75 #[(.int .i64 0), (.int .i64 0), (.int .i64 0), (.int .i64 0)] fun v4 =>
  St 4 v4 v13 fun _ =>
  FA v4 0 fun v14 =>
  Ld1 v14 fun v15 =>
  BinI .neq v15 (.int .i64 0) fun v16 =>
  Grd v16 true (FA v4 0 fun v19 =>
  Ld1 v19 fun v20 =>
  FA v4 1 fun v21 =>
  LdN 3 v21 fun v22 =>
  FnV pg a0 #[v20, v22] fun v23 =>
  Un .not v23 fun v24 =>
  Cnd v24 (KR (.tuple #[]))
  (BinI .add v10 (.int .i64 1) fun v26 =>
  vK [v26]))
  (BinI .add v10 (.int .i64 1) fun v26_1 =>
  vK [v26_1]))
  (KR (.tuple #[]))
theorem V.handles_Table_all_c1_ok {a0 a1 : Value} {K : Value → WP} {w : World} (h : V.handles_Table_all_c1 a0 a1 K w) : Cl pg 48 #[a0, a1] K w :=
  cl_of pg_mixed Try.func48 (args := [a0, a1]) (by kernel_rfl) (by rw [show WF pg Try.f48 [a0, a1] K = V.handles_Table_all_c1 a0 a1 K from by kernel_rfl]; exact h)

def V.rights_Rights_Right (a0 : Value) (KR : Value → WP) : WP :=
  BinI .andNot a0 (.int .i64 4095) fun v4 =>
  BinI .eql v4 (.int .i64 0) fun v5 =>
  KR v5
theorem V.rights_Rights_Right_ok {a0 : Value} {K : Value → WP} {w : World} (h : V.rights_Rights_Right a0 K w) : Cl pg 49 #[a0] K w :=
  cl_of pg_mixed Try.func49 (args := [a0]) (by kernel_rfl) (by rw [show WF pg Try.f49 [a0] K = V.rights_Rights_Right a0 K from by kernel_rfl]; exact h)

def V.jacinthref06_Table_Count (a0 : Value) (KR : Value → WP) : WP :=
  LoopC [(.int .i64 0), (.int .i64 0)] fun vK vs => AllE <|
  UN vs fun v3 vs =>
  UN vs fun v4 _ =>
  NilC a0 fun v7 =>
  FA v7 0 fun v8 =>
  Ld1 v8 fun v9 =>
  LenS v9 fun v10 =>
  BinI .lss v4 v10 fun v11 =>
  Cnd v11 (NilC a0 fun v15 =>
  FA v15 0 fun v16 =>
  Ld1 v16 fun v17 =>
  IA 1 v17 v4 fun v19 =>
  Ld1 v19 fun v20 =>
  BinI .neq v20 (.int .i64 0) fun v21 =>
  Cnd v21 (BinI .add v3 (.int .i64 1) fun v23 =>
  BinI .add v4 (.int .i64 1) fun v13 =>
  vK [v23, v13])
  (BinI .add v4 (.int .i64 1) fun v13_1 =>
  vK [v3, v13_1]))
  (KR v3)
theorem V.jacinthref06_Table_Count_ok {a0 : Value} {K : Value → WP} {w : World} (h : V.jacinthref06_Table_Count a0 K w) : Cl pg 50 #[a0] K w :=
  cl_of pg_mixed Try.func50 (args := [a0]) (by kernel_rfl) (by rw [show WF pg Try.f50 [a0] K = V.jacinthref06_Table_Count a0 K from by kernel_rfl]; exact h)

def V.jacinthref06_Table_Find (a0 a1 : Value) (KR : Value → WP) : WP :=
  LoopC [(.int .i64 0), (.int .i64 0)] fun vK vs => AllE <|
  UN vs fun v4 vs =>
  UN vs fun v5 _ =>
  NilC a0 fun v8 =>
  FA v8 0 fun v9 =>
  Ld1 v9 fun v10 =>
  LenS v10 fun v11 =>
  BinI .lss v5 v11 fun v12 =>
  Cnd v12 (BinI .neq a1 (.int .i64 0) fun v16 =>
  Grd v16 true (NilC a0 fun v19 =>
  FA v19 0 fun v20 =>
  Ld1 v20 fun v21 =>
  IA 1 v21 v5 fun v23 =>
  Ld1 v23 fun v24 =>
  BinI .eql v24 a1 fun v26 =>
  Cnd v26 (KR v5)
  (BinI .add v5 (.int .i64 1) fun v14 =>
  vK [v4, v14]))
  (BinI .add v5 (.int .i64 1) fun v14_1 =>
  vK [v4, v14_1]))
  (KR (.int .i64 (-1)))
theorem V.jacinthref06_Table_Find_ok {a0 a1 : Value} {K : Value → WP} {w : World} (h : V.jacinthref06_Table_Find a0 a1 K w) : Cl pg 51 #[a0, a1] K w :=
  cl_of pg_mixed Try.func51 (args := [a0, a1]) (by kernel_rfl) (by rw [show WF pg Try.f51 [a0, a1] K = V.jacinthref06_Table_Find a0 a1 K from by kernel_rfl]; exact h)

def V.jacinthref04_Sub (a0 a1 : Value) (KR : Value → WP) : WP :=
  LoopC [(.bool false), (.int .i64 0)] fun vK vs => AllE <|
  UN vs fun v4 vs =>
  UN vs fun v5 _ =>
  BinI .lss v5 (.int .i64 64) fun v7 =>
  Cnd v7 (FnV pg (.func (.func 54) #[] #[]) #[a1, v5] fun v12 =>
  Grd v12 true (FnV pg (.func (.func 54) #[] #[]) #[a0, v5] fun v16 =>
  Un .not v16 fun v17 =>
  Cnd v17 (KR (.bool false))
  (BinI .add v5 (.int .i64 1) fun v9 =>
  vK [v4, v9]))
  (BinI .add v5 (.int .i64 1) fun v9_1 =>
  vK [v4, v9_1]))
  (KR (.bool true))
theorem V.jacinthref04_Sub_ok {a0 a1 : Value} {K : Value → WP} {w : World} (h : V.jacinthref04_Sub a0 a1 K w) : Cl pg 52 #[a0, a1] K w :=
  cl_of pg_mixed Try.func52 (args := [a0, a1]) (by kernel_rfl) (by rw [show WF pg Try.f52 [a0, a1] K = V.jacinthref04_Sub a0 a1 K from by kernel_rfl]; exact h)

def V.jacinthref06_Reduce (a0 a1 : Value) (KR : Value → WP) : WP :=
  BinI .eql a1 (.int .i64 2147483648) fun v7 =>
  Cnd v7 (KR (.tuple #[a0, (.int .i64 0)]))
  (BinI .lss a1 (.int .i64 0) fun v10 =>
  Grd v10 false (BinI .gtr a1 (.int .i64 4095) fun v13 =>
  Grd v13 false (FnV pg (.func (.func 52) #[] #[]) #[a0, a1] fun v18 =>
  Un .not v18 fun v19 =>
  Cnd v19 (KR (.tuple #[(.int .i64 0), (.int .i64 (-10))]))
  (KR (.tuple #[a1, (.int .i64 0)])))
  (KR (.tuple #[(.int .i64 0), (.int .i64 (-10))])))
  (KR (.tuple #[(.int .i64 0), (.int .i64 (-10))])))
theorem V.jacinthref06_Reduce_ok {a0 a1 : Value} {K : Value → WP} {w : World} (h : V.jacinthref06_Reduce a0 a1 K w) : Cl pg 53 #[a0, a1] K w :=
  cl_of pg_mixed Try.func53 (args := [a0, a1]) (by kernel_rfl) (by rw [show WF pg Try.f53 [a0, a1] K = V.jacinthref06_Reduce a0 a1 K from by kernel_rfl]; exact h)

def V.jacinthref04_Has (a0 a1 : Value) (KR : Value → WP) : WP :=
  BinI .shr a0 a1 fun v7 =>
  BinI .and v7 (.int .i64 1) fun v8 =>
  BinI .eql v8 (.int .i64 1) fun v9 =>
  KR v9
theorem V.jacinthref04_Has_ok {a0 a1 : Value} {K : Value → WP} {w : World} (h : V.jacinthref04_Has a0 a1 K w) : Cl pg 54 #[a0, a1] K w :=
  cl_of pg_mixed Try.func54 (args := [a0, a1]) (by kernel_rfl) (by rw [show WF pg Try.f54 [a0, a1] K = V.jacinthref04_Has a0 a1 K from by kernel_rfl]; exact h)
end Go.Proofs.Ytgcnebacjkpfmaa
