/- What each function asks, printed by a program of this session's own; each is checked against the code. -/
import Derived.Test.YthpkkbmiockloaaBj
import Derived.Test.YthpkkbmiockloaaProg
set_option maxRecDepth 100000
namespace Go.Proofs.Ythpkkbmiockloaa
open Go Go.Jac
noncomputable abbrev pg : Program := Try.prog
theorem pg_mixed : pg.follows .mixedOrders = true := by kernel_rfl
def V.gosem_cut_init (KR : Value → WP) : WP :=
  FnV pg (.func (.func 1) #[] #[]) #[] fun _ =>
  KR (.tuple #[])
theorem V.gosem_cut_init_ok {K : Value → WP} {w : World} (h : V.gosem_cut_init  K w) : Cl pg 2 #[] K w :=
  cl_of pg_mixed Try.func2 (args := []) (by kernel_rfl) (by rw [show WF pg Try.f2 [] K = V.gosem_cut_init  K from by kernel_rfl]; exact h)

def V.jacinthlaw14_TimerOnce (a0 a1 : Value) (KR : Value → WP) : WP :=
  FnV pg (.func (.func 8) #[] #[]) #[(.int .i64 200)] fun v22 =>
  EqP false v22 (.pointer none) fun v24 =>
  Grd v24 false (LenS a0 fun v27 =>
  BinI .gtr v27 (.int .i64 60) fun v28 =>
  Grd v28 false (LenS a1 fun v32 =>
  BinI .gtr v32 (.int .i64 60) fun v33 =>
  Cnd v33 (EqP true v22 (.pointer none) fun v36 =>
  Grd v36 true (FnV pg (.func (.func 9) #[] #[]) #[] fun v38 =>
  KR v38)
  (KR (.bool false)))
  (LenS a0 fun v41 =>
  MkSC 3 1 8 #[(.int .i64 0)] v41 v41 fun v42 =>
  LenS a0 fun v44 =>
  LoopC [(.bool false), (.int .i64 0)] fun vK vs => AllE <|
  UN vs fun v4 vs =>
  UN vs fun v45 _ =>
  BinI .lss v45 v44 fun v46 =>
  Cnd v46 (IA 1 a0 v45 fun v48 =>
  Ld1 v48 fun v49 =>
  FnV pg (.func (.func 10) #[] #[]) #[v22, v45, v49] fun v54 =>
  Ext v54 0 fun v55 =>
  Ext v54 1 fun v56 =>
  IA 1 v42 v45 fun v59 =>
  St 1 v59 (.int .i64 (-1)) fun _ =>
  BinI .eql v56 (.int .i64 0) fun v61 =>
  Grd v61 true (Un .not v55 fun v64 =>
  Cnd v64 (IA 1 v42 v45 fun v69 =>
  St 1 v69 v49 fun _ =>
  BinI .leq v49 (.int .i64 0) fun v72 =>
  EqB true v55 v72 fun v73 =>
  Cnd v73 (KR (.bool false))
  (BinI .add v45 (.int .i64 1) fun v74 =>
  vK [v4, v74]))
  (BinI .leq v49 (.int .i64 0) fun v72_1 =>
  EqB true v55 v72_1 fun v73_1 =>
  Cnd v73_1 (KR (.bool false))
  (BinI .add v45 (.int .i64 1) fun v74_1 =>
  vK [v4, v74_1])))
  (BinI .leq v49 (.int .i64 0) fun v72_2 =>
  EqB true v55 v72_2 fun v73_2 =>
  Cnd v73_2 (KR (.bool false))
  (BinI .add v45 (.int .i64 1) fun v74_2 =>
  vK [v4, v74_2])))
  (LenS a1 fun v76 =>
  LoopC [v4, (.int .i64 0)] fun vK_1 vs => AllE <|
  UN vs fun v4_1 vs =>
  UN vs fun v77 _ =>
  BinI .lss v77 v76 fun v78 =>
  Cnd v78 (IA 1 a1 v77 fun v79 =>
  Ld1 v79 fun v80 =>
  FnV pg (.func (.func 11) #[] #[]) #[v22] fun v82 =>
  FnV pg (.func (.func 12) #[] #[]) #[v22, v80] fun v86 =>
  Ext v86 0 fun v87 =>
  Ext v86 1 fun v88 =>
  BinI .neq v88 (.int .i64 0) fun v90 =>
  Cnd v90 (LenS v87 fun v92 =>
  BinI .neq v92 (.int .i64 0) fun v93 =>
  Grd v93 false (FnV pg (.func (.func 11) #[] #[]) #[v22] fun v96 =>
  BinI .neq v96 v82 fun v98 =>
  Cnd v98 (KR (.bool false))
  (BinI .add v77 (.int .i64 1) fun v147 =>
  vK_1 [v4_1, v147]))
  (KR (.bool false)))
  (LenS v87 fun v101 =>
  LoopC [v4_1, (.int .i64 (-1)), (.int .i64 0)] fun vK_2 vs => AllE <|
  UN vs fun v4_2 vs =>
  UN vs fun v16 vs =>
  UN vs fun v102 _ =>
  BinI .lss v102 v101 fun v103 =>
  Cnd v103 (IA 1 v87 v102 fun v104 =>
  Ld1 v104 fun v105 =>
  Drw <| BinI .lss v105 (.int .i64 0) fun v107 =>
  QtC fun I =>
  Grd v107 false (QE I (fun KK => LenS v42 fun v111 =>
  KK v111) fun v111_1 =>
  BinI .geq v105 v111_1 fun v112 =>
  QtC fun I =>
  Grd v112 false (QE I (fun KK => IA 1 v42 v105 fun v117 =>
  KK v117) fun v117_1 =>
  QE I (fun KK => Ld1 v117_1 fun v118 =>
  KK v118) fun v118_1 =>
  BinI .leq v118_1 v82 fun v120 =>
  QtC fun I =>
  Grd v120 false (QE I (fun KK => IA 1 v42 v105 fun v125 =>
  KK v125) fun v125_1 =>
  QE I (fun KK => Ld1 v125_1 fun v126 =>
  KK v126) fun v126_1 =>
  FnV pg (.func (.func 11) #[] #[]) #[v22] fun v128 =>
  CH I <|
  BinI .gtr v126_1 v128 fun v129 =>
  QtC fun I =>
  Grd v129 false (QE I (fun KK => IA 1 v42 v105 fun v134 =>
  KK v134) fun v134_1 =>
  QE I (fun KK => Ld1 v134_1 fun v135 =>
  KK v135) fun v135_1 =>
  BinI .lss v135_1 v16 fun v137 =>
  Cnd v137 (KR (.bool false))
  (IA 1 v42 v105 fun v141 =>
  Ld1 v141 fun v142 =>
  IA 1 v42 v105 fun v145 =>
  St 1 v145 (.int .i64 (-1)) fun _ =>
  BinI .add v102 (.int .i64 1) fun v146 =>
  vK_2 [v4_2, v142, v146]))
  (KR (.bool false)))
  (CH I <|
  QtC fun _ =>
  KR (.bool false)))
  (QtC fun I =>
  CH I <|
  QtC fun _ =>
  KR (.bool false)))
  (QtC fun I =>
  QtC fun I =>
  CH I <|
  QtC fun _ =>
  KR (.bool false)))
  (BinI .add v77 (.int .i64 1) fun v147_1 =>
  vK_1 [v4_2, v147_1])))
  (LenS v42 fun v149 =>
  LoopC [(.int .i64 0), v4_1, (.int .i64 0)] fun vK_3 vs => AllE <|
  UN vs fun v19 vs =>
  UN vs fun v4_3 vs =>
  UN vs fun v150 _ =>
  BinI .lss v150 v149 fun v151 =>
  Cnd v151 (IA 1 v42 v150 fun v152 =>
  Ld1 v152 fun v153 =>
  BinI .geq v153 (.int .i64 0) fun v155 =>
  Cnd v155 (BinI .add v19 (.int .i64 1) fun v157 =>
  FnV pg (.func (.func 11) #[] #[]) #[v22] fun v160 =>
  BinI .leq v153 v160 fun v161 =>
  Cnd v161 (KR (.bool false))
  (BinI .add v150 (.int .i64 1) fun v162 =>
  vK_3 [v157, v4_3, v162]))
  (BinI .add v150 (.int .i64 1) fun v162_1 =>
  vK_3 [v19, v4_3, v162_1]))
  (FnV pg (.func (.func 13) #[] #[]) #[v22] fun v164 =>
  BinI .eql v164 v19 fun v166 =>
  Grd v166 true (FnV pg (.func (.func 9) #[] #[]) #[] fun v168 =>
  KR v168)
  (KR (.bool false)))))))
  (EqP true v22 (.pointer none) fun v36_1 =>
  Grd v36_1 true (FnV pg (.func (.func 9) #[] #[]) #[] fun v38_1 =>
  KR v38_1)
  (KR (.bool false))))
  (EqP true v22 (.pointer none) fun v36_2 =>
  Grd v36_2 true (FnV pg (.func (.func 9) #[] #[]) #[] fun v38_2 =>
  KR v38_2)
  (KR (.bool false)))
theorem V.jacinthlaw14_TimerOnce_ok {a0 a1 : Value} {K : Value → WP} {w : World} (h : V.jacinthlaw14_TimerOnce a0 a1 K w) : Cl pg 3 #[a0, a1] K w :=
  cl_of pg_mixed Try.func3 (args := [a0, a1]) (by kernel_rfl) (by rw [show WF pg Try.f3 [a0, a1] K = V.jacinthlaw14_TimerOnce a0 a1 K from by kernel_rfl]; exact h)

def V.jacinthlaw14_TimerRoom (a0 a1 : Value) (KR : Value → WP) : WP :=
  FnV pg (.func (.func 8) #[] #[]) #[a0] fun v12 =>
  EqP false v12 (.pointer none) fun v14 =>
  Grd v14 false (LenS a1 fun v17 =>
  BinI .gtr v17 (.int .i64 60) fun v18 =>
  Cnd v18 (EqP true v12 (.pointer none) fun v21 =>
  Grd v21 false (BinI .lss a0 (.int .i64 0) fun v24 =>
  Grd v24 false (BinI .gtr a0 (.int .i64 65536) fun v28 =>
  Grd v28 true (FnV pg (.func (.func 9) #[] #[]) #[] fun v31 =>
  KR v31)
  (KR (.bool false)))
  (FnV pg (.func (.func 9) #[] #[]) #[] fun v31_1 =>
  KR v31_1))
  (FnV pg (.func (.func 9) #[] #[]) #[] fun v31_2 =>
  KR v31_2))
  (Ex pg (Instr.makeMap 33 none) fun v33 =>
  LenS a1 fun v35 =>
  LoopC [(.bool false), (.int .i64 0)] fun vK vs => AllE <|
  UN vs fun v4 vs =>
  UN vs fun v36 _ =>
  BinI .lss v36 v35 fun v37 =>
  Cnd v37 (IA 1 a1 v36 fun v39 =>
  Ld1 v39 fun v40 =>
  BinI .add v36 (.int .i64 1) fun v45 =>
  FnV pg (.func (.func 10) #[] #[]) #[v12, v40, v45] fun v46 =>
  Ext v46 0 fun v47 =>
  Ext v46 1 fun v48 =>
  Grd v47 false (BinI .eql v48 (.int .i64 0) fun v52 =>
  Ex pg (Instr.lookup 33 v33 v40 false) fun v55 =>
  Grd v55 false (Ex pg (Builtin.len_ #[33] 3 #[v33]) fun v58 =>
  BinI .lss v58 a0 fun v60 =>
  EqB true v52 v60 fun v62 =>
  Grd v62 false (BinI .neq v48 (.int .i64 0) fun v66 =>
  Grd v66 true (BinI .neq v48 (.int .i64 (-4)) fun v69 =>
  Cnd v69 (KR (.bool false))
  (JoinC (fun _ => AllE (BinI .add (.int .i64 1099511627776) v36 fun v79 =>
  FnV pg (.func (.func 10) #[] #[]) #[v12, v79, (.int .i64 0)] fun v80 =>
  Ext v80 0 fun v81 =>
  Ext v80 1 fun v82 =>
  Un .not v81 fun v84 =>
  Grd v84 false (BinI .neq v82 (.int .i64 0) fun v87 =>
  Cnd v87 (KR (.bool false))
  (BinI .add (.int .i64 1099511627776) v36 fun v91 =>
  Ex pg (Builtin.delete_ #[33, 3] 0 #[v33, v91]) fun _ =>
  FnV pg (.func (.func 13) #[] #[]) #[v12] fun v93 =>
  Ex pg (Builtin.len_ #[33] 3 #[v33]) fun v95 =>
  BinI .neq v93 v95 fun v96 =>
  Cnd v96 (KR (.bool false))
  (BinI .add v36 (.int .i64 1) fun v97 =>
  vK [v4, v97])))
  (KR (.bool false))))
  fun vK_1 =>
  BinI .eql v48 (.int .i64 0) fun v73 =>
  Cnd v73 (Ex pg (do Instr.mapUpdate 33 v33 v40 (.bool true); pure undef) fun _ =>
  vK_1 [])
  (vK_1 [])))
  (JoinC (fun _ => AllE (BinI .add (.int .i64 1099511627776) v36 fun v79_1 =>
  FnV pg (.func (.func 10) #[] #[]) #[v12, v79_1, (.int .i64 0)] fun v80_1 =>
  Ext v80_1 0 fun v81_1 =>
  Ext v80_1 1 fun v82_1 =>
  Un .not v81_1 fun v84_1 =>
  Grd v84_1 false (BinI .neq v82_1 (.int .i64 0) fun v87_1 =>
  Cnd v87_1 (KR (.bool false))
  (BinI .add (.int .i64 1099511627776) v36 fun v91_1 =>
  Ex pg (Builtin.delete_ #[33, 3] 0 #[v33, v91_1]) fun _ =>
  FnV pg (.func (.func 13) #[] #[]) #[v12] fun v93_1 =>
  Ex pg (Builtin.len_ #[33] 3 #[v33]) fun v95_1 =>
  BinI .neq v93_1 v95_1 fun v96_1 =>
  Cnd v96_1 (KR (.bool false))
  (BinI .add v36 (.int .i64 1) fun v97_1 =>
  vK [v4, v97_1])))
  (KR (.bool false))))
  fun vK_2 =>
  BinI .eql v48 (.int .i64 0) fun v73_1 =>
  Cnd v73_1 (Ex pg (do Instr.mapUpdate 33 v33 v40 (.bool true); pure undef) fun _ =>
  vK_2 [])
  (vK_2 [])))
  (KR (.bool false)))
  (EqB true v52 (.bool true) fun v62_1 =>
  Grd v62_1 false (BinI .neq v48 (.int .i64 0) fun v66_1 =>
  Grd v66_1 true (BinI .neq v48 (.int .i64 (-4)) fun v69_1 =>
  Cnd v69_1 (KR (.bool false))
  (JoinC (fun _ => AllE (BinI .add (.int .i64 1099511627776) v36 fun v79_2 =>
  FnV pg (.func (.func 10) #[] #[]) #[v12, v79_2, (.int .i64 0)] fun v80_2 =>
  Ext v80_2 0 fun v81_2 =>
  Ext v80_2 1 fun v82_2 =>
  Un .not v81_2 fun v84_2 =>
  Grd v84_2 false (BinI .neq v82_2 (.int .i64 0) fun v87_2 =>
  Cnd v87_2 (KR (.bool false))
  (BinI .add (.int .i64 1099511627776) v36 fun v91_2 =>
  Ex pg (Builtin.delete_ #[33, 3] 0 #[v33, v91_2]) fun _ =>
  FnV pg (.func (.func 13) #[] #[]) #[v12] fun v93_2 =>
  Ex pg (Builtin.len_ #[33] 3 #[v33]) fun v95_2 =>
  BinI .neq v93_2 v95_2 fun v96_2 =>
  Cnd v96_2 (KR (.bool false))
  (BinI .add v36 (.int .i64 1) fun v97_2 =>
  vK [v4, v97_2])))
  (KR (.bool false))))
  fun vK_3 =>
  BinI .eql v48 (.int .i64 0) fun v73_2 =>
  Cnd v73_2 (Ex pg (do Instr.mapUpdate 33 v33 v40 (.bool true); pure undef) fun _ =>
  vK_3 [])
  (vK_3 [])))
  (JoinC (fun _ => AllE (BinI .add (.int .i64 1099511627776) v36 fun v79_3 =>
  FnV pg (.func (.func 10) #[] #[]) #[v12, v79_3, (.int .i64 0)] fun v80_3 =>
  Ext v80_3 0 fun v81_3 =>
  Ext v80_3 1 fun v82_3 =>
  Un .not v81_3 fun v84_3 =>
  Grd v84_3 false (BinI .neq v82_3 (.int .i64 0) fun v87_3 =>
  Cnd v87_3 (KR (.bool false))
  (BinI .add (.int .i64 1099511627776) v36 fun v91_3 =>
  Ex pg (Builtin.delete_ #[33, 3] 0 #[v33, v91_3]) fun _ =>
  FnV pg (.func (.func 13) #[] #[]) #[v12] fun v93_3 =>
  Ex pg (Builtin.len_ #[33] 3 #[v33]) fun v95_3 =>
  BinI .neq v93_3 v95_3 fun v96_3 =>
  Cnd v96_3 (KR (.bool false))
  (BinI .add v36 (.int .i64 1) fun v97_3 =>
  vK [v4, v97_3])))
  (KR (.bool false))))
  fun vK_4 =>
  BinI .eql v48 (.int .i64 0) fun v73_3 =>
  Cnd v73_3 (Ex pg (do Instr.mapUpdate 33 v33 v40 (.bool true); pure undef) fun _ =>
  vK_4 [])
  (vK_4 [])))
  (KR (.bool false))))
  (KR (.bool false)))
  (FnV pg (.func (.func 9) #[] #[]) #[] fun v98 =>
  KR v98)))
  (EqP true v12 (.pointer none) fun v21_1 =>
  Grd v21_1 false (BinI .lss a0 (.int .i64 0) fun v24_1 =>
  Grd v24_1 false (BinI .gtr a0 (.int .i64 65536) fun v28_1 =>
  Grd v28_1 true (FnV pg (.func (.func 9) #[] #[]) #[] fun v31_3 =>
  KR v31_3)
  (KR (.bool false)))
  (FnV pg (.func (.func 9) #[] #[]) #[] fun v31_4 =>
  KR v31_4))
  (FnV pg (.func (.func 9) #[] #[]) #[] fun v31_5 =>
  KR v31_5))
theorem V.jacinthlaw14_TimerRoom_ok {a0 a1 : Value} {K : Value → WP} {w : World} (h : V.jacinthlaw14_TimerRoom a0 a1 K w) : Cl pg 4 #[a0, a1] K w :=
  cl_of pg_mixed Try.func4 (args := [a0, a1]) (by kernel_rfl) (by rw [show WF pg Try.f4 [a0, a1] K = V.jacinthlaw14_TimerRoom a0 a1 K from by kernel_rfl]; exact h)

def V.jacinthlaw14_TimerOne (a0 a1 : Value) (KR : Value → WP) : WP :=
  FnV pg (.func (.func 8) #[] #[]) #[(.int .i64 3)] fun v14 =>
  EqP false v14 (.pointer none) fun v16 =>
  Grd v16 false (LenS a1 fun v19 =>
  BinI .gtr v19 (.int .i64 60) fun v20 =>
  Cnd v20 (EqP true v14 (.pointer none) fun v23 =>
  Grd v23 true (FnV pg (.func (.func 9) #[] #[]) #[] fun v25 =>
  KR v25)
  (KR (.bool false)))
  (LenS a1 fun v28 =>
  LoopC [(.int .i64 0), (.bool false), (.bool false), (.int .i64 0)] fun vK vs => AllE <|
  UN vs fun v6 vs =>
  UN vs fun v7 vs =>
  UN vs fun v4 vs =>
  UN vs fun v29 _ =>
  BinI .lss v29 v28 fun v30 =>
  Cnd v30 (IA 1 a1 v29 fun v31 =>
  Ld1 v31 fun v32 =>
  FnV pg (.func (.func 10) #[] #[]) #[v14, a0, v32] fun v37 =>
  Ext v37 0 fun v38 =>
  Ext v37 1 fun v39 =>
  JoinC (fun vs => AllE (UN vs fun v4_1 vs =>
  UN vs fun v6_1 vs =>
  UN vs fun v7_1 _ =>
  FnV pg (.func (.func 14) #[] #[]) #[v14, a0] fun v66 =>
  Ext v66 0 fun v67 =>
  Ext v66 1 fun v68 =>
  BinI .neq v67 v6_1 fun v71 =>
  Grd v71 false (EqB true v68 v7_1 fun v75 =>
  Grd v75 false (FnV pg (.func (.func 13) #[] #[]) #[v14] fun v79 =>
  BinI .gtr v79 (.int .i64 1) fun v80 =>
  Cnd v80 (KR (.bool false))
  (BinI .add v29 (.int .i64 1) fun v82 =>
  vK [v6_1, v7_1, v4_1, v82]))
  (KR (.bool false)))
  (KR (.bool false))))
  fun vK_1 =>
  BinI .leq v32 (.int .i64 0) fun v48 =>
  Cnd v48 (Un .not v38 fun v50 =>
  Grd v50 false (BinI .neq v39 (.int .i64 0) fun v53 =>
  Cnd v53 (KR (.bool false))
  (vK_1 [v4, (.int .i64 0), (.bool false)]))
  (KR (.bool false)))
  (BinI .gtr v32 (.int .i64 1099511627776) fun v57 =>
  Cnd v57 (Grd v38 false (BinI .neq v39 (.int .i64 (-10)) fun v61 =>
  Cnd v61 (KR (.bool false))
  (vK_1 [v4, v6, v7]))
  (KR (.bool false)))
  (Grd v38 false (BinI .neq v39 (.int .i64 0) fun v43 =>
  Cnd v43 (KR (.bool false))
  (vK_1 [v4, v32, (.bool true)]))
  (KR (.bool false)))))
  (FnV pg (.func (.func 15) #[] #[]) #[v14, a0] fun v85 =>
  BinI .eql v85 (.int .i64 0) fun v86 =>
  EqB false v86 v7 fun v88 =>
  Grd v88 true (FnV pg (.func (.func 15) #[] #[]) #[v14, a0] fun v92 =>
  BinI .eql v92 (.int .i64 (-25)) fun v93 =>
  Grd v93 true (FnV pg (.func (.func 13) #[] #[]) #[v14] fun v97 =>
  BinI .eql v97 (.int .i64 0) fun v98 =>
  Grd v98 true (FnV pg (.func (.func 9) #[] #[]) #[] fun v101 =>
  KR v101)
  (KR (.bool false)))
  (KR (.bool false)))
  (KR (.bool false)))))
  (EqP true v14 (.pointer none) fun v23_1 =>
  Grd v23_1 true (FnV pg (.func (.func 9) #[] #[]) #[] fun v25_1 =>
  KR v25_1)
  (KR (.bool false)))
theorem V.jacinthlaw14_TimerOne_ok {a0 a1 : Value} {K : Value → WP} {w : World} (h : V.jacinthlaw14_TimerOne a0 a1 K w) : Cl pg 5 #[a0, a1] K w :=
  cl_of pg_mixed Try.func5 (args := [a0, a1]) (by kernel_rfl) (by rw [show WF pg Try.f5 [a0, a1] K = V.jacinthlaw14_TimerOne a0 a1 K from by kernel_rfl]; exact h)

def V.jacinthlaw14_TimerParts (a0 a1 : Value) (KR : Value → WP) : WP :=
  FnV pg (.func (.func 8) #[] #[]) #[(.int .i64 100)] fun v17 =>
  FnV pg (.func (.func 8) #[] #[]) #[(.int .i64 100)] fun v18 =>
  EqP false v17 (.pointer none) fun v20 =>
  Grd v20 false (EqP false v18 (.pointer none) fun v23 =>
  Grd v23 false (LenS a0 fun v27 =>
  BinI .gtr v27 (.int .i64 60) fun v28 =>
  Grd v28 false (LenS a1 fun v32 =>
  BinI .gtr v32 (.int .i64 40) fun v33 =>
  Cnd v33 (EqP true v17 (.pointer none) fun v36 =>
  Grd v36 true (EqP true v18 (.pointer none) fun v39 =>
  Grd v39 true (FnV pg (.func (.func 9) #[] #[]) #[] fun v42 =>
  KR v42)
  (KR (.bool false)))
  (KR (.bool false)))
  (LenS a0 fun v45 =>
  LoopC [(.int .i64 0)] fun vK vs => AllE <|
  UN vs fun v46 _ =>
  BinI .lss v46 v45 fun v47 =>
  Cnd v47 (IA 1 a0 v46 fun v49 =>
  Ld1 v49 fun v50 =>
  Un .neg v46 fun v53 =>
  FnV pg (.func (.func 10) #[] #[]) #[v17, v53, v50] fun _ =>
  Un .neg v46 fun v58 =>
  FnV pg (.func (.func 10) #[] #[]) #[v18, v58, v50] fun _ =>
  BinI .add v46 (.int .i64 1) fun v61 =>
  vK [v61])
  (LenS a1 fun v63 =>
  LoopC [(.int .i64 0), (.bool false), (.slice none 0 0), (.int .i64 0)] fun vK_1 vs => AllE <|
  UN vs fun v9 vs =>
  UN vs fun v4 vs =>
  UN vs fun v10 vs =>
  UN vs fun v64 _ =>
  BinI .lss v64 v63 fun v65 =>
  Cnd v65 (IA 1 a1 v64 fun v66 =>
  Ld1 v66 fun v67 =>
  BinI .lss v67 (.int .i64 0) fun v69 =>
  Grd v69 false (BinI .gtr v67 (.int .i64 1073741824) fun v72 =>
  Cnd v72 (FnV pg (.func (.func 9) #[] #[]) #[] fun v74 =>
  KR v74)
  (BinI .add v9 v67 fun v77 =>
  FnV pg (.func (.func 12) #[] #[]) #[v17, v67] fun v81 =>
  Ext v81 0 fun v82 =>
  Ext v81 1 fun v83 =>
  BinI .neq v83 (.int .i64 0) fun v85 =>
  Cnd v85 (KR (.bool false))
  (AppC 3 1 8 #[(.int .i64 0)] v10 v82 fun v88 =>
  BinI .add v64 (.int .i64 1) fun v89 =>
  vK_1 [v77, v4, v88, v89])))
  (FnV pg (.func (.func 9) #[] #[]) #[] fun v74_1 =>
  KR v74_1))
  (FnV pg (.func (.func 12) #[] #[]) #[v18, v9] fun v93 =>
  Ext v93 0 fun v94 =>
  Ext v93 1 fun v95 =>
  BinI .eql v95 (.int .i64 0) fun v97 =>
  Grd v97 true (FnV pg (.func (.func 16) #[] #[]) #[v94, v10] fun v101 =>
  Grd v101 true (FnV pg (.func (.func 17) #[] #[]) #[v17] fun v105 =>
  FnV pg (.func (.func 17) #[] #[]) #[v18] fun v107 =>
  FnV pg (.func (.func 16) #[] #[]) #[v105, v107] fun v108 =>
  Grd v108 true (FnV pg (.func (.func 11) #[] #[]) #[v17] fun v112 =>
  BinI .eql v112 v9 fun v114 =>
  Grd v114 true (FnV pg (.func (.func 9) #[] #[]) #[] fun v117 =>
  KR v117)
  (KR (.bool false)))
  (KR (.bool false)))
  (KR (.bool false)))
  (KR (.bool false))))))
  (EqP true v17 (.pointer none) fun v36_1 =>
  Grd v36_1 true (EqP true v18 (.pointer none) fun v39_1 =>
  Grd v39_1 true (FnV pg (.func (.func 9) #[] #[]) #[] fun v42_1 =>
  KR v42_1)
  (KR (.bool false)))
  (KR (.bool false))))
  (EqP true v17 (.pointer none) fun v36_2 =>
  Grd v36_2 true (EqP true v18 (.pointer none) fun v39_2 =>
  Grd v39_2 true (FnV pg (.func (.func 9) #[] #[]) #[] fun v42_2 =>
  KR v42_2)
  (KR (.bool false)))
  (KR (.bool false))))
  (EqP true v17 (.pointer none) fun v36_3 =>
  Grd v36_3 true (EqP true v18 (.pointer none) fun v39_3 =>
  Grd v39_3 true (FnV pg (.func (.func 9) #[] #[]) #[] fun v42_3 =>
  KR v42_3)
  (KR (.bool false)))
  (KR (.bool false)))
theorem V.jacinthlaw14_TimerParts_ok {a0 a1 : Value} {K : Value → WP} {w : World} (h : V.jacinthlaw14_TimerParts a0 a1 K w) : Cl pg 6 #[a0, a1] K w :=
  cl_of pg_mixed Try.func6 (args := [a0, a1]) (by kernel_rfl) (by rw [show WF pg Try.f6 [a0, a1] K = V.jacinthlaw14_TimerParts a0 a1 K from by kernel_rfl]; exact h)

def V.jacinthlaw14_TimerPlays (a0 a1 : Value) (KR : Value → WP) : WP :=
  FnV pg (.func (.func 8) #[] #[]) #[a0] fun v29 =>
  BinI .lss a0 (.int .i64 0) fun v31 =>
  Grd v31 false (BinI .gtr a0 (.int .i64 65536) fun v34 =>
  Cnd v34 (EqP false v29 (.pointer none) fun v37 =>
  Grd v37 true (FnV pg (.func (.func 9) #[] #[]) #[] fun v39 =>
  KR v39)
  (KR (.bool false)))
  (EqP false v29 (.pointer none) fun v42 =>
  Grd v42 false (LenS a1 fun v45 =>
  BinI .gtr v45 (.int .i64 150) fun v46 =>
  Cnd v46 (EqP true v29 (.pointer none) fun v49 =>
  Grd v49 true (FnV pg (.func (.func 9) #[] #[]) #[] fun v51 =>
  KR v51)
  (KR (.bool false)))
  (Ex pg (bldS #[(.slice none 0 0), (.int .i64 0), (.int .i64 0)] [(0, 1), (1, 1), (2, 1)] #[(1, a0)]) fun v54 =>
  New 43 (Value.cells v54) fun v55 =>
  LenS a1 fun v57 =>
  LoopC [(.bool false), (.int .i64 0)] fun vK vs => AllE <|
  UN vs fun v4 vs =>
  UN vs fun v58 _ =>
  BinI .lss v58 v57 fun v59 =>
  Cnd v59 (IA 3 a1 v58 fun v60 =>
  LdN 3 v60 fun v61 =>
  New 45 #[(.int .i64 0), (.int .i64 0), (.int .i64 0)] fun v8 =>
  St 3 v8 v61 fun _ =>
  JoinC (fun vs => AllE (UN vs fun v4_1 _ =>
  NilC v55 fun v144 =>
  FA v144 0 fun v145 =>
  Ld1 v145 fun v146 =>
  LenS v146 fun v147 =>
  LoopC [(.slice none 0 0), (.int .i64 0)] fun vK_1 vs => AllE <|
  UN vs fun v19 vs =>
  UN vs fun v148 _ =>
  BinI .lss v148 v147 fun v149 =>
  Cnd v149 (IA 2 v146 v148 fun v150 =>
  LdN 2 v150 fun v151 =>
  New 53 #[(.int .i64 0), (.int .i64 0)] fun v21 =>
  St 2 v21 v151 fun _ =>
  FA v21 1 fun v153 =>
  Ld1 v153 fun v154 =>
  BSlC 3 1 #[(.int .i64 0)] 1 #[(0, v154)] fun v155 =>
  AppC 3 1 8 #[(.int .i64 0)] v19 v155 fun v156 =>
  BinI .add v148 (.int .i64 1) fun v157 =>
  vK_1 [v156, v157])
  (FA v8 1 fun v159 =>
  Ld1 v159 fun v160 =>
  FnV pg (.func (.func 19) #[] #[]) #[v55, v160] fun v161 =>
  FA v8 1 fun v164 =>
  Ld1 v164 fun v165 =>
  FnV pg (.func (.func 14) #[] #[]) #[v29, v165] fun v166 =>
  Ext v166 0 fun v167 =>
  Ext v166 1 fun v168 =>
  FnV pg (.func (.func 22) #[] #[]) #[v29] fun v171 =>
  Ext v171 0 fun v172 =>
  Ext v171 1 fun v173 =>
  Ext v171 2 fun v174 =>
  Drw <| QtC fun I =>
  FnV pg (.func (.func 17) #[] #[]) #[v29] fun v176 =>
  FnV pg (.func (.func 16) #[] #[]) #[v176, v19] fun v178 =>
  Un .not v178 fun v179 =>
  QtC fun I =>
  Grd v179 false (QE I (fun KK => LenS v19 fun v184 =>
  KK v184) fun v184_1 =>
  FnV pg (.func (.func 13) #[] #[]) #[v29] fun v182 =>
  CH I <|
  BinI .neq v182 v184_1 fun v185 =>
  QtC fun I =>
  Grd v185 false (QE I (fun KK => NilC v55 fun v191 =>
  KK v191) fun v191_1 =>
  QE I (fun KK => FA v191_1 2 fun v192 =>
  KK v192) fun v192_1 =>
  QE I (fun KK => Ld1 v192_1 fun v193 =>
  KK v193) fun v193_1 =>
  FnV pg (.func (.func 11) #[] #[]) #[v29] fun v189 =>
  CH I <|
  BinI .neq v189 v193_1 fun v194 =>
  QtC fun I =>
  Grd v194 false (QE I (fun KK => BinI .geq v161 (.int .i64 0) fun v199 =>
  KK v199) fun v199_1 =>
  EqB true v168 v199_1 fun v200 =>
  Grd v200 false (QtC fun I =>
  Grd v168 true (QE I (fun KK => NilC v55 fun v207 =>
  KK v207) fun v207_1 =>
  QE I (fun KK => FA v207_1 0 fun v208 =>
  KK v208) fun v208_1 =>
  QE I (fun KK => Ld1 v208_1 fun v209 =>
  KK v209) fun v209_1 =>
  QE I (fun KK => IA 2 v209_1 v161 fun v211 =>
  KK v211) fun v211_1 =>
  QE I (fun KK => FA v211_1 0 fun v212 =>
  KK v212) fun v212_1 =>
  QE I (fun KK => Ld1 v212_1 fun v213 =>
  KK v213) fun v213_1 =>
  BinI .neq v167 v213_1 fun v214 =>
  Grd v214 false (Un .not v168 fun v219 =>
  Grd v219 true (BinI .neq v167 (.int .i64 0) fun v222 =>
  QtC fun I =>
  Grd v222 false (QE I (fun KK => LenS v19 fun v228 =>
  KK v228) fun v228_1 =>
  QE I (fun KK => BinI .gtr v228_1 (.int .i64 0) fun v229 =>
  KK v229) fun v229_1 =>
  EqB true v174 v229_1 fun v230 =>
  Cnd v230 (KR (.bool false))
  (Grd v174 true (NilC v55 fun v236 =>
  FA v236 0 fun v237 =>
  Ld1 v237 fun v238 =>
  IA 2 v238 (.int .i64 0) fun v239 =>
  FA v239 1 fun v240 =>
  Ld1 v240 fun v241 =>
  BinI .neq v172 v241 fun v242 =>
  Grd v242 false (NilC v55 fun v246 =>
  FA v246 0 fun v247 =>
  Ld1 v247 fun v248 =>
  IA 2 v248 (.int .i64 0) fun v249 =>
  FA v249 0 fun v250 =>
  Ld1 v250 fun v251 =>
  BinI .neq v173 v251 fun v252 =>
  Grd v252 false (Un .not v174 fun v257 =>
  Grd v257 true (BinI .neq v172 (.int .i64 0) fun v260 =>
  Grd v260 false (BinI .neq v173 (.int .i64 0) fun v263 =>
  Cnd v263 (KR (.bool false))
  (BinI .add v58 (.int .i64 1) fun v267 =>
  vK [v4_1, v267]))
  (KR (.bool false)))
  (BinI .add v58 (.int .i64 1) fun v267_1 =>
  vK [v4_1, v267_1]))
  (KR (.bool false)))
  (KR (.bool false)))
  (Un .not v174 fun v257_1 =>
  Grd v257_1 true (BinI .neq v172 (.int .i64 0) fun v260_1 =>
  Grd v260_1 false (BinI .neq v173 (.int .i64 0) fun v263_1 =>
  Cnd v263_1 (KR (.bool false))
  (BinI .add v58 (.int .i64 1) fun v267_2 =>
  vK [v4_1, v267_2]))
  (KR (.bool false)))
  (BinI .add v58 (.int .i64 1) fun v267_3 =>
  vK [v4_1, v267_3]))))
  (KR (.bool false)))
  (QtC fun I =>
  QE I (fun KK => LenS v19 fun v228_2 =>
  KK v228_2) fun v228_3 =>
  QE I (fun KK => BinI .gtr v228_3 (.int .i64 0) fun v229_2 =>
  KK v229_2) fun v229_3 =>
  EqB true v174 v229_3 fun v230_1 =>
  Cnd v230_1 (KR (.bool false))
  (Grd v174 true (NilC v55 fun v236_1 =>
  FA v236_1 0 fun v237_1 =>
  Ld1 v237_1 fun v238_1 =>
  IA 2 v238_1 (.int .i64 0) fun v239_1 =>
  FA v239_1 1 fun v240_1 =>
  Ld1 v240_1 fun v241_1 =>
  BinI .neq v172 v241_1 fun v242_1 =>
  Grd v242_1 false (NilC v55 fun v246_1 =>
  FA v246_1 0 fun v247_1 =>
  Ld1 v247_1 fun v248_1 =>
  IA 2 v248_1 (.int .i64 0) fun v249_1 =>
  FA v249_1 0 fun v250_1 =>
  Ld1 v250_1 fun v251_1 =>
  BinI .neq v173 v251_1 fun v252_1 =>
  Grd v252_1 false (Un .not v174 fun v257_2 =>
  Grd v257_2 true (BinI .neq v172 (.int .i64 0) fun v260_2 =>
  Grd v260_2 false (BinI .neq v173 (.int .i64 0) fun v263_2 =>
  Cnd v263_2 (KR (.bool false))
  (BinI .add v58 (.int .i64 1) fun v267_4 =>
  vK [v4_1, v267_4]))
  (KR (.bool false)))
  (BinI .add v58 (.int .i64 1) fun v267_5 =>
  vK [v4_1, v267_5]))
  (KR (.bool false)))
  (KR (.bool false)))
  (Un .not v174 fun v257_3 =>
  Grd v257_3 true (BinI .neq v172 (.int .i64 0) fun v260_3 =>
  Grd v260_3 false (BinI .neq v173 (.int .i64 0) fun v263_3 =>
  Cnd v263_3 (KR (.bool false))
  (BinI .add v58 (.int .i64 1) fun v267_6 =>
  vK [v4_1, v267_6]))
  (KR (.bool false)))
  (BinI .add v58 (.int .i64 1) fun v267_7 =>
  vK [v4_1, v267_7])))))
  (QtC fun _ =>
  KR (.bool false)))
  (Un .not v168 fun v219_1 =>
  Grd v219_1 true (BinI .neq v167 (.int .i64 0) fun v222_1 =>
  QtC fun I =>
  Grd v222_1 false (QE I (fun KK => LenS v19 fun v228_4 =>
  KK v228_4) fun v228_5 =>
  QE I (fun KK => BinI .gtr v228_5 (.int .i64 0) fun v229_4 =>
  KK v229_4) fun v229_5 =>
  EqB true v174 v229_5 fun v230_2 =>
  Cnd v230_2 (KR (.bool false))
  (Grd v174 true (NilC v55 fun v236_2 =>
  FA v236_2 0 fun v237_2 =>
  Ld1 v237_2 fun v238_2 =>
  IA 2 v238_2 (.int .i64 0) fun v239_2 =>
  FA v239_2 1 fun v240_2 =>
  Ld1 v240_2 fun v241_2 =>
  BinI .neq v172 v241_2 fun v242_2 =>
  Grd v242_2 false (NilC v55 fun v246_2 =>
  FA v246_2 0 fun v247_2 =>
  Ld1 v247_2 fun v248_2 =>
  IA 2 v248_2 (.int .i64 0) fun v249_2 =>
  FA v249_2 0 fun v250_2 =>
  Ld1 v250_2 fun v251_2 =>
  BinI .neq v173 v251_2 fun v252_2 =>
  Grd v252_2 false (Un .not v174 fun v257_4 =>
  Grd v257_4 true (BinI .neq v172 (.int .i64 0) fun v260_4 =>
  Grd v260_4 false (BinI .neq v173 (.int .i64 0) fun v263_4 =>
  Cnd v263_4 (KR (.bool false))
  (BinI .add v58 (.int .i64 1) fun v267_8 =>
  vK [v4_1, v267_8]))
  (KR (.bool false)))
  (BinI .add v58 (.int .i64 1) fun v267_9 =>
  vK [v4_1, v267_9]))
  (KR (.bool false)))
  (KR (.bool false)))
  (Un .not v174 fun v257_5 =>
  Grd v257_5 true (BinI .neq v172 (.int .i64 0) fun v260_5 =>
  Grd v260_5 false (BinI .neq v173 (.int .i64 0) fun v263_5 =>
  Cnd v263_5 (KR (.bool false))
  (BinI .add v58 (.int .i64 1) fun v267_10 =>
  vK [v4_1, v267_10]))
  (KR (.bool false)))
  (BinI .add v58 (.int .i64 1) fun v267_11 =>
  vK [v4_1, v267_11]))))
  (KR (.bool false)))
  (QtC fun I =>
  QE I (fun KK => LenS v19 fun v228_6 =>
  KK v228_6) fun v228_7 =>
  QE I (fun KK => BinI .gtr v228_7 (.int .i64 0) fun v229_6 =>
  KK v229_6) fun v229_7 =>
  EqB true v174 v229_7 fun v230_3 =>
  Cnd v230_3 (KR (.bool false))
  (Grd v174 true (NilC v55 fun v236_3 =>
  FA v236_3 0 fun v237_3 =>
  Ld1 v237_3 fun v238_3 =>
  IA 2 v238_3 (.int .i64 0) fun v239_3 =>
  FA v239_3 1 fun v240_3 =>
  Ld1 v240_3 fun v241_3 =>
  BinI .neq v172 v241_3 fun v242_3 =>
  Grd v242_3 false (NilC v55 fun v246_3 =>
  FA v246_3 0 fun v247_3 =>
  Ld1 v247_3 fun v248_3 =>
  IA 2 v248_3 (.int .i64 0) fun v249_3 =>
  FA v249_3 0 fun v250_3 =>
  Ld1 v250_3 fun v251_3 =>
  BinI .neq v173 v251_3 fun v252_3 =>
  Grd v252_3 false (Un .not v174 fun v257_6 =>
  Grd v257_6 true (BinI .neq v172 (.int .i64 0) fun v260_6 =>
  Grd v260_6 false (BinI .neq v173 (.int .i64 0) fun v263_6 =>
  Cnd v263_6 (KR (.bool false))
  (BinI .add v58 (.int .i64 1) fun v267_12 =>
  vK [v4_1, v267_12]))
  (KR (.bool false)))
  (BinI .add v58 (.int .i64 1) fun v267_13 =>
  vK [v4_1, v267_13]))
  (KR (.bool false)))
  (KR (.bool false)))
  (Un .not v174 fun v257_7 =>
  Grd v257_7 true (BinI .neq v172 (.int .i64 0) fun v260_7 =>
  Grd v260_7 false (BinI .neq v173 (.int .i64 0) fun v263_7 =>
  Cnd v263_7 (KR (.bool false))
  (BinI .add v58 (.int .i64 1) fun v267_14 =>
  vK [v4_1, v267_14]))
  (KR (.bool false)))
  (BinI .add v58 (.int .i64 1) fun v267_15 =>
  vK [v4_1, v267_15]))))))
  (QtC fun _ =>
  QtC fun _ =>
  KR (.bool false)))
  (QtC fun _ =>
  QtC fun _ =>
  KR (.bool false)))
  (CH I <|
  QtC fun _ =>
  QtC fun _ =>
  QtC fun _ =>
  KR (.bool false)))
  (CH I <|
  QtC fun I =>
  CH I <|
  QtC fun _ =>
  QtC fun _ =>
  QtC fun _ =>
  KR (.bool false)))))
  fun vK_2 =>
  FA v8 0 fun v62 =>
  Ld1 v62 fun v63 =>
  BinI .eql v63 (.int .i64 1) fun v65 =>
  Cnd v65 (FA v8 1 fun v68 =>
  Ld1 v68 fun v69 =>
  FA v8 2 fun v70 =>
  Ld1 v70 fun v71 =>
  FnV pg (.func (.func 10) #[] #[]) #[v29, v69, v71] fun v72 =>
  Ext v72 0 fun v73 =>
  Ext v72 1 fun v74 =>
  FA v8 1 fun v77 =>
  Ld1 v77 fun v78 =>
  FA v8 2 fun v79 =>
  Ld1 v79 fun v80 =>
  FnV pg (.func (.func 18) #[] #[]) #[v55, v78, v80] fun v81 =>
  Ext v81 0 fun v82 =>
  Ext v81 1 fun v83 =>
  EqB true v73 v82 fun v86 =>
  Grd v86 false (BinI .neq v74 v83 fun v90 =>
  Cnd v90 (KR (.bool false))
  (vK_2 [v4]))
  (KR (.bool false)))
  (BinI .eql v63 (.int .i64 2) fun v93 =>
  Cnd v93 (FA v8 1 fun v95 =>
  Ld1 v95 fun v96 =>
  FnV pg (.func (.func 15) #[] #[]) #[v29, v96] fun v97 =>
  FA v8 1 fun v99 =>
  Ld1 v99 fun v100 =>
  FnV pg (.func (.func 19) #[] #[]) #[v55, v100] fun v101 =>
  BinI .geq v101 (.int .i64 0) fun v103 =>
  BinI .eql v97 (.int .i64 0) fun v105 =>
  EqB true v103 v105 fun v106 =>
  Grd v106 false (BinI .lss v101 (.int .i64 0) fun v109 =>
  Grd v109 true (BinI .neq v97 (.int .i64 (-25)) fun v112 =>
  Cnd v112 (KR (.bool false))
  (FnV pg (.func (.func 20) #[] #[]) #[v55, v101] fun _ =>
  vK_2 [v4]))
  (FnV pg (.func (.func 20) #[] #[]) #[v55, v101] fun _ =>
  vK_2 [v4]))
  (KR (.bool false)))
  (BinI .eql v63 (.int .i64 3) fun v119 =>
  Cnd v119 (FA v8 2 fun v122 =>
  Ld1 v122 fun v123 =>
  FnV pg (.func (.func 12) #[] #[]) #[v29, v123] fun v124 =>
  Ext v124 0 fun v125 =>
  Ext v124 1 fun v126 =>
  FA v8 2 fun v129 =>
  Ld1 v129 fun v130 =>
  FnV pg (.func (.func 21) #[] #[]) #[v55, v130] fun v131 =>
  Ext v131 0 fun v132 =>
  Ext v131 1 fun v133 =>
  FnV pg (.func (.func 16) #[] #[]) #[v125, v132] fun v136 =>
  Un .not v136 fun v137 =>
  Grd v137 false (BinI .neq v126 v133 fun v141 =>
  Cnd v141 (KR (.bool false))
  (vK_2 [v4]))
  (KR (.bool false)))
  (vK_2 [v4]))))
  (FnV pg (.func (.func 9) #[] #[]) #[] fun v268 =>
  KR v268)))
  (EqP true v29 (.pointer none) fun v49_1 =>
  Grd v49_1 true (FnV pg (.func (.func 9) #[] #[]) #[] fun v51_1 =>
  KR v51_1)
  (KR (.bool false)))))
  (EqP false v29 (.pointer none) fun v37_1 =>
  Grd v37_1 true (FnV pg (.func (.func 9) #[] #[]) #[] fun v39_1 =>
  KR v39_1)
  (KR (.bool false)))
theorem V.jacinthlaw14_TimerPlays_ok {a0 a1 : Value} {K : Value → WP} {w : World} (h : V.jacinthlaw14_TimerPlays a0 a1 K w) : Cl pg 7 #[a0, a1] K w :=
  cl_of pg_mixed Try.func7 (args := [a0, a1]) (by kernel_rfl) (by rw [show WF pg Try.f7 [a0, a1] K = V.jacinthlaw14_TimerPlays a0 a1 K from by kernel_rfl]; exact h)

def V.timer_New (a0 : Value) (KR : Value → WP) : WP :=
  BinI .lss a0 (.int .i64 0) fun v4 =>
  Grd v4 false (BinI .gtr a0 (.int .i64 65536) fun v7 =>
  Cnd v7 (KR (.pointer none))
  (Ex pg (Instr.makeMap 57 none) fun v9 =>
  Ex pg (bldS #[(.slice none 0 0), (.map none), (.int .i64 0), (.int .i64 0)] [(0, 1), (1, 1), (2, 1), (3, 1)] #[(1, v9), (2, a0)]) fun v11 =>
  New 60 (Value.cells v11) fun v12 =>
  KR v12))
  (KR (.pointer none))
theorem V.timer_New_ok {a0 : Value} {K : Value → WP} {w : World} (h : V.timer_New a0 K w) : Cl pg 8 #[a0] K w :=
  cl_of pg_mixed Try.func8 (args := [a0]) (by kernel_rfl) (by rw [show WF pg Try.f8 [a0] K = V.timer_New a0 K from by kernel_rfl]; exact h)

def V.jacinthlaw14_awake (KR : Value → WP) : WP :=
  FnV pg (.func (.func 8) #[] #[]) #[(.int .i64 4)] fun v6 =>
  EqP false v6 (.pointer none) fun v8 =>
  Cnd v8 (KR (.bool false))
  (FnV pg (.func (.func 10) #[] #[]) #[v6, (.int .i64 5), (.int .i64 10)] fun v11 =>
  Ext v11 0 fun v12 =>
  Ext v11 1 fun v13 =>
  FnV pg (.func (.func 10) #[] #[]) #[v6, (.int .i64 2), (.int .i64 10)] fun _ =>
  FnV pg (.func (.func 12) #[] #[]) #[v6, (.int .i64 10)] fun v18 =>
  Ext v18 0 fun v19 =>
  Ext v18 1 fun v20 =>
  Un .not v12 fun v22 =>
  Grd v22 true (BinI .eql v13 (.int .i64 0) fun v25 =>
  Grd v25 true (BinI .eql v20 (.int .i64 0) fun v29 =>
  Grd v29 true (LenS v19 fun v33 =>
  BinI .eql v33 (.int .i64 2) fun v34 =>
  Grd v34 true (IA 1 v19 (.int .i64 0) fun v38 =>
  Ld1 v38 fun v39 =>
  BinI .eql v39 (.int .i64 2) fun v40 =>
  Grd v40 true (FnV pg (.func (.func 11) #[] #[]) #[v6] fun v44 =>
  BinI .eql v44 (.int .i64 10) fun v45 =>
  KR v45)
  (KR (.bool false)))
  (KR (.bool false)))
  (KR (.bool false)))
  (KR (.bool false)))
  (KR (.bool false)))
theorem V.jacinthlaw14_awake_ok {K : Value → WP} {w : World} (h : V.jacinthlaw14_awake  K w) : Cl pg 9 #[] K w :=
  cl_of pg_mixed Try.func9 (args := []) (by kernel_rfl) (by rw [show WF pg Try.f9 [] K = V.jacinthlaw14_awake  K from by kernel_rfl]; exact h)

def V.timer_Timers_Set (a0 a1 a2 : Value) (KR : Value → WP) : WP :=
  NilC a0 fun v12 =>
  FA v12 1 fun v13 =>
  Ld1 v13 fun v14 =>
  Ex pg (Instr.lookup 57 v14 a1 true) fun v16 =>
  Ext v16 0 fun v17 =>
  Ext v16 1 fun v18 =>
  JoinC (fun vs => AllE (UN vs fun _ vs =>
  UN vs fun _ _ =>
  NilC a0 fun v55 =>
  FA v55 0 fun v56 =>
  Ld1 v56 fun v57 =>
  Ex pg (bldS #[(.int .i64 0), (.int .i64 0)] [(0, 1), (1, 1)] #[]) fun v58 =>
  BSlC 62 2 #[(.int .i64 0), (.int .i64 0)] 1 #[(0, v58)] fun v59 =>
  AppC 62 2 16 #[(.int .i64 0), (.int .i64 0)] v57 v59 fun v60 =>
  NilC a0 fun v61 =>
  FA v61 0 fun v62 =>
  St 1 v62 v60 fun _ =>
  NilC a0 fun v65 =>
  FA v65 0 fun v66 =>
  Ld1 v66 fun v67 =>
  LenS v67 fun v68 =>
  BinI .sub v68 (.int .i64 1) fun v69 =>
  Ex pg (bldS #[(.int .i64 0), (.int .i64 0)] [(0, 1), (1, 1)] #[(0, a2), (1, a1)]) fun v72 =>
  FnV pg (.func (.func 24) #[] #[]) #[a0, v69, v72] fun _ =>
  NilC a0 fun v76 =>
  FA v76 0 fun v77 =>
  Ld1 v77 fun v78 =>
  LenS v78 fun v79 =>
  BinI .sub v79 (.int .i64 1) fun v80 =>
  FnV pg (.func (.func 25) #[] #[]) #[a0, v80] fun _ =>
  KR (.tuple #[(.bool false), (.int .i64 0)])))
  fun vK =>
  NilC a0 fun v22 =>
  FA v22 3 fun v23 =>
  Ld1 v23 fun v24 =>
  BinI .leq a2 v24 fun v25 =>
  Cnd v25 (Cnd v18 (FnV pg (.func (.func 23) #[] #[]) #[a0, v17] fun _ =>
  KR (.tuple #[(.bool true), (.int .i64 0)]))
  (KR (.tuple #[(.bool true), (.int .i64 0)])))
  (BinI .gtr a2 (.int .i64 1099511627776) fun v32 =>
  Cnd v32 (KR (.tuple #[(.bool false), (.int .i64 (-10))]))
  (Drw <| Un .not v18 fun v35 =>
  QtC fun I =>
  Grd v35 true (QE I (fun KK => NilC a0 fun v38 =>
  KK v38) fun v38_1 =>
  QE I (fun KK => FA v38_1 0 fun v39 =>
  KK v39) fun v39_1 =>
  QE I (fun KK => Ld1 v39_1 fun v40 =>
  KK v40) fun v40_1 =>
  QE I (fun KK => LenS v40_1 fun v41 =>
  KK v41) fun v41_1 =>
  QE I (fun KK => NilC a0 fun v43 =>
  KK v43) fun v43_1 =>
  QE I (fun KK => FA v43_1 2 fun v44 =>
  KK v44) fun v44_1 =>
  QE I (fun KK => Ld1 v44_1 fun v45 =>
  KK v45) fun v45_1 =>
  BinI .geq v41_1 v45_1 fun v46 =>
  Cnd v46 (KR (.tuple #[(.bool false), (.int .i64 (-4))]))
  (Cnd v18 (FnV pg (.func (.func 23) #[] #[]) #[a0, v17] fun _ =>
  vK [(.bool false), (.int .i64 0)])
  (vK [(.bool false), (.int .i64 0)])))
  (Cnd v18 (FnV pg (.func (.func 23) #[] #[]) #[a0, v17] fun _ =>
  vK [(.bool false), (.int .i64 0)])
  (vK [(.bool false), (.int .i64 0)]))))
theorem V.timer_Timers_Set_ok {a0 a1 a2 : Value} {K : Value → WP} {w : World} (h : V.timer_Timers_Set a0 a1 a2 K w) : Cl pg 10 #[a0, a1, a2] K w :=
  cl_of pg_mixed Try.func10 (args := [a0, a1, a2]) (by kernel_rfl) (by rw [show WF pg Try.f10 [a0, a1, a2] K = V.timer_Timers_Set a0 a1 a2 K from by kernel_rfl]; exact h)

def V.timer_Timers_Now (a0 : Value) (KR : Value → WP) : WP :=
  NilC a0 fun v4 =>
  FA v4 3 fun v5 =>
  Ld1 v5 fun v6 =>
  KR v6
theorem V.timer_Timers_Now_ok {a0 : Value} {K : Value → WP} {w : World} (h : V.timer_Timers_Now a0 K w) : Cl pg 11 #[a0] K w :=
  cl_of pg_mixed Try.func11 (args := [a0]) (by kernel_rfl) (by rw [show WF pg Try.f11 [a0] K = V.timer_Timers_Now a0 K from by kernel_rfl]; exact h)

def V.timer_Timers_Advance (a0 a1 : Value) (KR : Value → WP) : WP :=
  BinI .lss a1 (.int .i64 0) fun v7 =>
  Grd v7 false (NilC a0 fun v11 =>
  FA v11 3 fun v12 =>
  Ld1 v12 fun v13 =>
  BinI .sub (.int .i64 1099511627776) v13 fun v14 =>
  BinI .gtr a1 v14 fun v15 =>
  Cnd v15 (KR (.tuple #[(.slice none 0 0), (.int .i64 (-10))]))
  (NilC a0 fun v18 =>
  FA v18 3 fun v19 =>
  Ld1 v19 fun v20 =>
  BinI .add v20 a1 fun v22 =>
  NilC a0 fun v23 =>
  FA v23 3 fun v24 =>
  St 1 v24 v22 fun _ =>
  LoopC [(.slice none 0 0)] fun vK vs => AllE <|
  UN vs fun v4 _ =>
  Drw <| NilC a0 fun v26 =>
  FA v26 0 fun v27 =>
  Ld1 v27 fun v28 =>
  LenS v28 fun v29 =>
  BinI .gtr v29 (.int .i64 0) fun v30 =>
  QtC fun I =>
  Grd v30 true (QE I (fun KK => NilC a0 fun v33 =>
  KK v33) fun v33_1 =>
  QE I (fun KK => FA v33_1 0 fun v34 =>
  KK v34) fun v34_1 =>
  QE I (fun KK => Ld1 v34_1 fun v35 =>
  KK v35) fun v35_1 =>
  QE I (fun KK => IA 2 v35_1 (.int .i64 0) fun v36 =>
  KK v36) fun v36_1 =>
  QE I (fun KK => FA v36_1 0 fun v37 =>
  KK v37) fun v37_1 =>
  QE I (fun KK => Ld1 v37_1 fun v38 =>
  KK v38) fun v38_1 =>
  QE I (fun KK => NilC a0 fun v40 =>
  KK v40) fun v40_1 =>
  QE I (fun KK => FA v40_1 3 fun v41 =>
  KK v41) fun v41_1 =>
  QE I (fun KK => Ld1 v41_1 fun v42 =>
  KK v42) fun v42_1 =>
  BinI .leq v38_1 v42_1 fun v43 =>
  Cnd v43 (NilC a0 fun v47 =>
  FA v47 0 fun v48 =>
  Ld1 v48 fun v49 =>
  IA 2 v49 (.int .i64 0) fun v50 =>
  FA v50 1 fun v51 =>
  Ld1 v51 fun v52 =>
  BSlC 3 1 #[(.int .i64 0)] 1 #[(0, v52)] fun v53 =>
  AppC 3 1 8 #[(.int .i64 0)] v4 v53 fun v54 =>
  FnV pg (.func (.func 23) #[] #[]) #[a0, (.int .i64 0)] fun _ =>
  vK [v54])
  (KR (.tuple #[v4, (.int .i64 0)])))
  (KR (.tuple #[v4, (.int .i64 0)]))))
  (KR (.tuple #[(.slice none 0 0), (.int .i64 (-10))]))
theorem V.timer_Timers_Advance_ok {a0 a1 : Value} {K : Value → WP} {w : World} (h : V.timer_Timers_Advance a0 a1 K w) : Cl pg 12 #[a0, a1] K w :=
  cl_of pg_mixed Try.func12 (args := [a0, a1]) (by kernel_rfl) (by rw [show WF pg Try.f12 [a0, a1] K = V.timer_Timers_Advance a0 a1 K from by kernel_rfl]; exact h)

def V.timer_Timers_Count (a0 : Value) (KR : Value → WP) : WP :=
  NilC a0 fun v4 =>
  FA v4 0 fun v5 =>
  Ld1 v5 fun v6 =>
  LenS v6 fun v7 =>
  KR v7
theorem V.timer_Timers_Count_ok {a0 : Value} {K : Value → WP} {w : World} (h : V.timer_Timers_Count a0 K w) : Cl pg 13 #[a0] K w :=
  cl_of pg_mixed Try.func13 (args := [a0]) (by kernel_rfl) (by rw [show WF pg Try.f13 [a0] K = V.timer_Timers_Count a0 K from by kernel_rfl]; exact h)

def V.timer_Timers_Deadline (a0 a1 : Value) (KR : Value → WP) : WP :=
  NilC a0 fun v10 =>
  FA v10 1 fun v11 =>
  Ld1 v11 fun v12 =>
  Ex pg (Instr.lookup 57 v12 a1 true) fun v14 =>
  Ext v14 0 fun v15 =>
  Ext v14 1 fun v16 =>
  Un .not v16 fun v18 =>
  Cnd v18 (KR (.tuple #[(.int .i64 0), (.bool false)]))
  (NilC a0 fun v20 =>
  FA v20 0 fun v21 =>
  Ld1 v21 fun v22 =>
  IA 2 v22 v15 fun v24 =>
  FA v24 0 fun v25 =>
  Ld1 v25 fun v26 =>
  KR (.tuple #[v26, (.bool true)]))
theorem V.timer_Timers_Deadline_ok {a0 a1 : Value} {K : Value → WP} {w : World} (h : V.timer_Timers_Deadline a0 a1 K w) : Cl pg 14 #[a0, a1] K w :=
  cl_of pg_mixed Try.func14 (args := [a0, a1]) (by kernel_rfl) (by rw [show WF pg Try.f14 [a0, a1] K = V.timer_Timers_Deadline a0 a1 K from by kernel_rfl]; exact h)

def V.timer_Timers_Cancel (a0 a1 : Value) (KR : Value → WP) : WP :=
  NilC a0 fun v9 =>
  FA v9 1 fun v10 =>
  Ld1 v10 fun v11 =>
  Ex pg (Instr.lookup 57 v11 a1 true) fun v13 =>
  Ext v13 0 fun v14 =>
  Ext v13 1 fun v15 =>
  Un .not v15 fun v17 =>
  Cnd v17 (KR (.int .i64 (-25)))
  (FnV pg (.func (.func 23) #[] #[]) #[a0, v14] fun _ =>
  KR (.int .i64 0))
theorem V.timer_Timers_Cancel_ok {a0 a1 : Value} {K : Value → WP} {w : World} (h : V.timer_Timers_Cancel a0 a1 K w) : Cl pg 15 #[a0, a1] K w :=
  cl_of pg_mixed Try.func15 (args := [a0, a1]) (by kernel_rfl) (by rw [show WF pg Try.f15 [a0, a1] K = V.timer_Timers_Cancel a0 a1 K from by kernel_rfl]; exact h)

def V.jacinthlaw14_ints (a0 a1 : Value) (KR : Value → WP) : WP :=
  LenS a0 fun v7 =>
  LenS a1 fun v9 =>
  BinI .neq v7 v9 fun v10 =>
  Cnd v10 (KR (.bool false))
  (LenS a0 fun v12 =>
  LoopC [(.bool false), (.int .i64 0)] fun vK vs => AllE <|
  UN vs fun v4 vs =>
  UN vs fun v13 _ =>
  BinI .lss v13 v12 fun v14 =>
  Cnd v14 (Drw <| QtC fun I =>
  QE I (fun KK => IA 1 a0 v13 fun v18 =>
  KK v18) fun v18_1 =>
  QE I (fun KK => Ld1 v18_1 fun v19 =>
  KK v19) fun v19_1 =>
  QE I (fun KK => IA 1 a1 v13 fun v22 =>
  KK v22) fun v22_1 =>
  QE I (fun KK => Ld1 v22_1 fun v23 =>
  KK v23) fun v23_1 =>
  BinI .neq v19_1 v23_1 fun v24 =>
  Cnd v24 (KR (.bool false))
  (BinI .add v13 (.int .i64 1) fun v25 =>
  vK [v4, v25]))
  (KR (.bool true)))
theorem V.jacinthlaw14_ints_ok {a0 a1 : Value} {K : Value → WP} {w : World} (h : V.jacinthlaw14_ints a0 a1 K w) : Cl pg 16 #[a0, a1] K w :=
  cl_of pg_mixed Try.func16 (args := [a0, a1]) (by kernel_rfl) (by rw [show WF pg Try.f16 [a0, a1] K = V.jacinthlaw14_ints a0 a1 K from by kernel_rfl]; exact h)

def V.timer_Timers_Keys (a0 : Value) (KR : Value → WP) : WP :=
  NilC a0 fun v7 =>
  FA v7 0 fun v8 =>
  Ld1 v8 fun v9 =>
  FnV pg (.func (.func 27) #[] #[]) #[v9] fun v10 =>
  FnV pg (.func (.func 26) #[] #[]) #[v10, (.func (.func 28) #[] #[])] fun v11 =>
  LenS v11 fun v12 =>
  LoopC [(.slice none 0 0), (.int .i64 0)] fun vK vs => AllE <|
  UN vs fun v3 vs =>
  UN vs fun v13 _ =>
  BinI .lss v13 v12 fun v14 =>
  Cnd v14 (IA 2 v11 v13 fun v15 =>
  LdN 2 v15 fun v16 =>
  New 62 #[(.int .i64 0), (.int .i64 0)] fun v5 =>
  St 2 v5 v16 fun _ =>
  FA v5 1 fun v18 =>
  Ld1 v18 fun v19 =>
  BSlC 3 1 #[(.int .i64 0)] 1 #[(0, v19)] fun v20 =>
  AppC 3 1 8 #[(.int .i64 0)] v3 v20 fun v21 =>
  BinI .add v13 (.int .i64 1) fun v22 =>
  vK [v21, v22])
  (KR v3)
theorem V.timer_Timers_Keys_ok {a0 : Value} {K : Value → WP} {w : World} (h : V.timer_Timers_Keys a0 K w) : Cl pg 17 #[a0] K w :=
  cl_of pg_mixed Try.func17 (args := [a0]) (by kernel_rfl) (by rw [show WF pg Try.f17 [a0] K = V.timer_Timers_Keys a0 K from by kernel_rfl]; exact h)

def V.jacinthref14_Timers_Set (a0 a1 a2 : Value) (KR : Value → WP) : WP :=
  FnV pg (.func (.func 19) #[] #[]) #[a0, a1] fun v15 =>
  NilC a0 fun v18 =>
  FA v18 2 fun v19 =>
  Ld1 v19 fun v20 =>
  BinI .leq a2 v20 fun v21 =>
  Cnd v21 (FnV pg (.func (.func 20) #[] #[]) #[a0, v15] fun _ =>
  KR (.tuple #[(.bool true), (.int .i64 0)]))
  (BinI .gtr a2 (.int .i64 1099511627776) fun v26 =>
  Cnd v26 (KR (.tuple #[(.bool false), (.int .i64 (-10))]))
  (Drw <| BinI .lss v15 (.int .i64 0) fun v28 =>
  QtC fun I =>
  Grd v28 true (QE I (fun KK => NilC a0 fun v31 =>
  KK v31) fun v31_1 =>
  QE I (fun KK => FA v31_1 0 fun v32 =>
  KK v32) fun v32_1 =>
  QE I (fun KK => Ld1 v32_1 fun v33 =>
  KK v33) fun v33_1 =>
  QE I (fun KK => LenS v33_1 fun v34 =>
  KK v34) fun v34_1 =>
  QE I (fun KK => NilC a0 fun v36 =>
  KK v36) fun v36_1 =>
  QE I (fun KK => FA v36_1 1 fun v37 =>
  KK v37) fun v37_1 =>
  QE I (fun KK => Ld1 v37_1 fun v38 =>
  KK v38) fun v38_1 =>
  BinI .geq v34_1 v38_1 fun v39 =>
  Cnd v39 (KR (.tuple #[(.bool false), (.int .i64 (-4))]))
  (FnV pg (.func (.func 20) #[] #[]) #[a0, v15] fun _ =>
  LoopC [(.bool false), (.slice none 0 0), (.int .i64 0)] fun vK vs => AllE <|
  UN vs fun v10 vs =>
  UN vs fun v9 vs =>
  UN vs fun v11 _ =>
  NilC a0 fun v46 =>
  FA v46 0 fun v47 =>
  Ld1 v47 fun v48 =>
  LenS v48 fun v49 =>
  BinI .lss v11 v49 fun v50 =>
  Cnd v50 (NilC a0 fun v54 =>
  FA v54 0 fun v55 =>
  Ld1 v55 fun v56 =>
  IA 2 v56 v11 fun v58 =>
  LdN 2 v58 fun v59 =>
  New 53 #[(.int .i64 0), (.int .i64 0)] fun v12 =>
  St 2 v12 v59 fun _ =>
  Un .not v10 fun v61 =>
  Grd v61 true (FA v12 0 fun v64 =>
  Ld1 v64 fun v65 =>
  BinI .lss a2 v65 fun v66 =>
  Grd v66 false (FA v12 0 fun v69 =>
  Ld1 v69 fun v70 =>
  BinI .eql a2 v70 fun v71 =>
  Grd v71 true (FA v12 1 fun v74 =>
  Ld1 v74 fun v75 =>
  BinI .lss a1 v75 fun v76 =>
  Cnd v76 (Ex pg (bldS #[(.int .i64 0), (.int .i64 0)] [(0, 1), (1, 1)] #[(0, a2), (1, a1)]) fun v83 =>
  BSlC 53 2 #[(.int .i64 0), (.int .i64 0)] 1 #[(0, v83)] fun v84 =>
  AppC 53 2 16 #[(.int .i64 0), (.int .i64 0)] v9 v84 fun v85 =>
  LdN 2 v12 fun v87 =>
  BSlC 53 2 #[(.int .i64 0), (.int .i64 0)] 1 #[(0, v87)] fun v88 =>
  AppC 53 2 16 #[(.int .i64 0), (.int .i64 0)] v85 v88 fun v89 =>
  BinI .add v11 (.int .i64 1) fun v52 =>
  vK [(.bool true), v89, v52])
  (LdN 2 v12 fun v87_1 =>
  BSlC 53 2 #[(.int .i64 0), (.int .i64 0)] 1 #[(0, v87_1)] fun v88_1 =>
  AppC 53 2 16 #[(.int .i64 0), (.int .i64 0)] v9 v88_1 fun v89_1 =>
  BinI .add v11 (.int .i64 1) fun v52_1 =>
  vK [v10, v89_1, v52_1]))
  (LdN 2 v12 fun v87_2 =>
  BSlC 53 2 #[(.int .i64 0), (.int .i64 0)] 1 #[(0, v87_2)] fun v88_2 =>
  AppC 53 2 16 #[(.int .i64 0), (.int .i64 0)] v9 v88_2 fun v89_2 =>
  BinI .add v11 (.int .i64 1) fun v52_2 =>
  vK [v10, v89_2, v52_2]))
  (Ex pg (bldS #[(.int .i64 0), (.int .i64 0)] [(0, 1), (1, 1)] #[(0, a2), (1, a1)]) fun v83_1 =>
  BSlC 53 2 #[(.int .i64 0), (.int .i64 0)] 1 #[(0, v83_1)] fun v84_1 =>
  AppC 53 2 16 #[(.int .i64 0), (.int .i64 0)] v9 v84_1 fun v85_1 =>
  LdN 2 v12 fun v87_3 =>
  BSlC 53 2 #[(.int .i64 0), (.int .i64 0)] 1 #[(0, v87_3)] fun v88_3 =>
  AppC 53 2 16 #[(.int .i64 0), (.int .i64 0)] v85_1 v88_3 fun v89_3 =>
  BinI .add v11 (.int .i64 1) fun v52_3 =>
  vK [(.bool true), v89_3, v52_3]))
  (LdN 2 v12 fun v87_4 =>
  BSlC 53 2 #[(.int .i64 0), (.int .i64 0)] 1 #[(0, v87_4)] fun v88_4 =>
  AppC 53 2 16 #[(.int .i64 0), (.int .i64 0)] v9 v88_4 fun v89_4 =>
  BinI .add v11 (.int .i64 1) fun v52_4 =>
  vK [v10, v89_4, v52_4]))
  (Un .not v10 fun v91 =>
  Cnd v91 (Ex pg (bldS #[(.int .i64 0), (.int .i64 0)] [(0, 1), (1, 1)] #[(0, a2), (1, a1)]) fun v95 =>
  BSlC 53 2 #[(.int .i64 0), (.int .i64 0)] 1 #[(0, v95)] fun v96 =>
  AppC 53 2 16 #[(.int .i64 0), (.int .i64 0)] v9 v96 fun v97 =>
  NilC a0 fun v100 =>
  FA v100 0 fun v101 =>
  St 1 v101 v97 fun _ =>
  KR (.tuple #[(.bool false), (.int .i64 0)]))
  (NilC a0 fun v100_1 =>
  FA v100_1 0 fun v101_1 =>
  St 1 v101_1 v9 fun _ =>
  KR (.tuple #[(.bool false), (.int .i64 0)])))))
  (FnV pg (.func (.func 20) #[] #[]) #[a0, v15] fun _ =>
  LoopC [(.bool false), (.slice none 0 0), (.int .i64 0)] fun vK_1 vs => AllE <|
  UN vs fun v10_1 vs =>
  UN vs fun v9_1 vs =>
  UN vs fun v11_1 _ =>
  NilC a0 fun v46_1 =>
  FA v46_1 0 fun v47_1 =>
  Ld1 v47_1 fun v48_1 =>
  LenS v48_1 fun v49_1 =>
  BinI .lss v11_1 v49_1 fun v50_1 =>
  Cnd v50_1 (NilC a0 fun v54_1 =>
  FA v54_1 0 fun v55_1 =>
  Ld1 v55_1 fun v56_1 =>
  IA 2 v56_1 v11_1 fun v58_1 =>
  LdN 2 v58_1 fun v59_1 =>
  New 53 #[(.int .i64 0), (.int .i64 0)] fun v12_1 =>
  St 2 v12_1 v59_1 fun _ =>
  Un .not v10_1 fun v61_1 =>
  Grd v61_1 true (FA v12_1 0 fun v64_1 =>
  Ld1 v64_1 fun v65_1 =>
  BinI .lss a2 v65_1 fun v66_1 =>
  Grd v66_1 false (FA v12_1 0 fun v69_1 =>
  Ld1 v69_1 fun v70_1 =>
  BinI .eql a2 v70_1 fun v71_1 =>
  Grd v71_1 true (FA v12_1 1 fun v74_1 =>
  Ld1 v74_1 fun v75_1 =>
  BinI .lss a1 v75_1 fun v76_1 =>
  Cnd v76_1 (Ex pg (bldS #[(.int .i64 0), (.int .i64 0)] [(0, 1), (1, 1)] #[(0, a2), (1, a1)]) fun v83_2 =>
  BSlC 53 2 #[(.int .i64 0), (.int .i64 0)] 1 #[(0, v83_2)] fun v84_2 =>
  AppC 53 2 16 #[(.int .i64 0), (.int .i64 0)] v9_1 v84_2 fun v85_2 =>
  LdN 2 v12_1 fun v87_5 =>
  BSlC 53 2 #[(.int .i64 0), (.int .i64 0)] 1 #[(0, v87_5)] fun v88_5 =>
  AppC 53 2 16 #[(.int .i64 0), (.int .i64 0)] v85_2 v88_5 fun v89_5 =>
  BinI .add v11_1 (.int .i64 1) fun v52_5 =>
  vK_1 [(.bool true), v89_5, v52_5])
  (LdN 2 v12_1 fun v87_6 =>
  BSlC 53 2 #[(.int .i64 0), (.int .i64 0)] 1 #[(0, v87_6)] fun v88_6 =>
  AppC 53 2 16 #[(.int .i64 0), (.int .i64 0)] v9_1 v88_6 fun v89_6 =>
  BinI .add v11_1 (.int .i64 1) fun v52_6 =>
  vK_1 [v10_1, v89_6, v52_6]))
  (LdN 2 v12_1 fun v87_7 =>
  BSlC 53 2 #[(.int .i64 0), (.int .i64 0)] 1 #[(0, v87_7)] fun v88_7 =>
  AppC 53 2 16 #[(.int .i64 0), (.int .i64 0)] v9_1 v88_7 fun v89_7 =>
  BinI .add v11_1 (.int .i64 1) fun v52_7 =>
  vK_1 [v10_1, v89_7, v52_7]))
  (Ex pg (bldS #[(.int .i64 0), (.int .i64 0)] [(0, 1), (1, 1)] #[(0, a2), (1, a1)]) fun v83_3 =>
  BSlC 53 2 #[(.int .i64 0), (.int .i64 0)] 1 #[(0, v83_3)] fun v84_3 =>
  AppC 53 2 16 #[(.int .i64 0), (.int .i64 0)] v9_1 v84_3 fun v85_3 =>
  LdN 2 v12_1 fun v87_8 =>
  BSlC 53 2 #[(.int .i64 0), (.int .i64 0)] 1 #[(0, v87_8)] fun v88_8 =>
  AppC 53 2 16 #[(.int .i64 0), (.int .i64 0)] v85_3 v88_8 fun v89_8 =>
  BinI .add v11_1 (.int .i64 1) fun v52_8 =>
  vK_1 [(.bool true), v89_8, v52_8]))
  (LdN 2 v12_1 fun v87_9 =>
  BSlC 53 2 #[(.int .i64 0), (.int .i64 0)] 1 #[(0, v87_9)] fun v88_9 =>
  AppC 53 2 16 #[(.int .i64 0), (.int .i64 0)] v9_1 v88_9 fun v89_9 =>
  BinI .add v11_1 (.int .i64 1) fun v52_9 =>
  vK_1 [v10_1, v89_9, v52_9]))
  (Un .not v10_1 fun v91_1 =>
  Cnd v91_1 (Ex pg (bldS #[(.int .i64 0), (.int .i64 0)] [(0, 1), (1, 1)] #[(0, a2), (1, a1)]) fun v95_1 =>
  BSlC 53 2 #[(.int .i64 0), (.int .i64 0)] 1 #[(0, v95_1)] fun v96_1 =>
  AppC 53 2 16 #[(.int .i64 0), (.int .i64 0)] v9_1 v96_1 fun v97_1 =>
  NilC a0 fun v100_2 =>
  FA v100_2 0 fun v101_2 =>
  St 1 v101_2 v97_1 fun _ =>
  KR (.tuple #[(.bool false), (.int .i64 0)]))
  (NilC a0 fun v100_3 =>
  FA v100_3 0 fun v101_3 =>
  St 1 v101_3 v9_1 fun _ =>
  KR (.tuple #[(.bool false), (.int .i64 0)]))))))
theorem V.jacinthref14_Timers_Set_ok {a0 a1 a2 : Value} {K : Value → WP} {w : World} (h : V.jacinthref14_Timers_Set a0 a1 a2 K w) : Cl pg 18 #[a0, a1, a2] K w :=
  cl_of pg_mixed Try.func18 (args := [a0, a1, a2]) (by kernel_rfl) (by rw [show WF pg Try.f18 [a0, a1, a2] K = V.jacinthref14_Timers_Set a0 a1 a2 K from by kernel_rfl]; exact h)

def V.jacinthref14_Timers_Find (a0 a1 : Value) (KR : Value → WP) : WP :=
  LoopC [(.int .i64 0), (.int .i64 0)] fun vK vs => AllE <|
  UN vs fun v4 vs =>
  UN vs fun v5 _ =>
  NilC a0 fun v8 =>
  FA v8 0 fun v9 =>
  Ld1 v9 fun v10 =>
  LenS v10 fun v11 =>
  BinI .lss v5 v11 fun v12 =>
  Cnd v12 (NilC a0 fun v16 =>
  FA v16 0 fun v17 =>
  Ld1 v17 fun v18 =>
  IA 2 v18 v5 fun v20 =>
  FA v20 1 fun v21 =>
  Ld1 v21 fun v22 =>
  BinI .eql v22 a1 fun v24 =>
  Cnd v24 (KR v5)
  (BinI .add v5 (.int .i64 1) fun v14 =>
  vK [v4, v14]))
  (KR (.int .i64 (-1)))
theorem V.jacinthref14_Timers_Find_ok {a0 a1 : Value} {K : Value → WP} {w : World} (h : V.jacinthref14_Timers_Find a0 a1 K w) : Cl pg 19 #[a0, a1] K w :=
  cl_of pg_mixed Try.func19 (args := [a0, a1]) (by kernel_rfl) (by rw [show WF pg Try.f19 [a0, a1] K = V.jacinthref14_Timers_Find a0 a1 K from by kernel_rfl]; exact h)

def V.jacinthref14_Timers_Drop (a0 a1 : Value) (KR : Value → WP) : WP :=
  LoopC [(.slice none 0 0), (.int .i64 0)] fun vK vs => AllE <|
  UN vs fun v4 vs =>
  UN vs fun v5 _ =>
  NilC a0 fun v8 =>
  FA v8 0 fun v9 =>
  Ld1 v9 fun v10 =>
  LenS v10 fun v11 =>
  BinI .lss v5 v11 fun v12 =>
  Cnd v12 (BinI .neq v5 a1 fun v17 =>
  Cnd v17 (NilC a0 fun v20 =>
  FA v20 0 fun v21 =>
  Ld1 v21 fun v22 =>
  IA 2 v22 v5 fun v24 =>
  LdN 2 v24 fun v25 =>
  BSlC 53 2 #[(.int .i64 0), (.int .i64 0)] 1 #[(0, v25)] fun v26 =>
  AppC 53 2 16 #[(.int .i64 0), (.int .i64 0)] v4 v26 fun v27 =>
  BinI .add v5 (.int .i64 1) fun v14 =>
  vK [v27, v14])
  (BinI .add v5 (.int .i64 1) fun v14_1 =>
  vK [v4, v14_1]))
  (NilC a0 fun v30 =>
  FA v30 0 fun v31 =>
  St 1 v31 v4 fun _ =>
  KR (.tuple #[]))
theorem V.jacinthref14_Timers_Drop_ok {a0 a1 : Value} {K : Value → WP} {w : World} (h : V.jacinthref14_Timers_Drop a0 a1 K w) : Cl pg 20 #[a0, a1] K w :=
  cl_of pg_mixed Try.func20 (args := [a0, a1]) (by kernel_rfl) (by rw [show WF pg Try.f20 [a0, a1] K = V.jacinthref14_Timers_Drop a0 a1 K from by kernel_rfl]; exact h)

def V.jacinthref14_Timers_Advance (a0 a1 : Value) (KR : Value → WP) : WP :=
  BinI .lss a1 (.int .i64 0) fun v8 =>
  Grd v8 false (NilC a0 fun v12 =>
  FA v12 2 fun v13 =>
  Ld1 v13 fun v14 =>
  BinI .sub (.int .i64 1099511627776) v14 fun v15 =>
  BinI .gtr a1 v15 fun v16 =>
  Cnd v16 (KR (.tuple #[(.slice none 0 0), (.int .i64 (-10))]))
  (NilC a0 fun v19 =>
  FA v19 2 fun v20 =>
  Ld1 v20 fun v21 =>
  BinI .add v21 a1 fun v23 =>
  NilC a0 fun v24 =>
  FA v24 2 fun v25 =>
  St 1 v25 v23 fun _ =>
  LoopC [(.slice none 0 0)] fun vK vs => AllE <|
  UN vs fun v6 _ =>
  Drw <| NilC a0 fun v27 =>
  FA v27 0 fun v28 =>
  Ld1 v28 fun v29 =>
  LenS v29 fun v30 =>
  BinI .gtr v30 (.int .i64 0) fun v31 =>
  QtC fun I =>
  Grd v31 true (QE I (fun KK => NilC a0 fun v34 =>
  KK v34) fun v34_1 =>
  QE I (fun KK => FA v34_1 0 fun v35 =>
  KK v35) fun v35_1 =>
  QE I (fun KK => Ld1 v35_1 fun v36 =>
  KK v36) fun v36_1 =>
  QE I (fun KK => IA 2 v36_1 (.int .i64 0) fun v37 =>
  KK v37) fun v37_1 =>
  QE I (fun KK => FA v37_1 0 fun v38 =>
  KK v38) fun v38_1 =>
  QE I (fun KK => Ld1 v38_1 fun v39 =>
  KK v39) fun v39_1 =>
  QE I (fun KK => NilC a0 fun v41 =>
  KK v41) fun v41_1 =>
  QE I (fun KK => FA v41_1 2 fun v42 =>
  KK v42) fun v42_1 =>
  QE I (fun KK => Ld1 v42_1 fun v43 =>
  KK v43) fun v43_1 =>
  BinI .leq v39_1 v43_1 fun v44 =>
  Cnd v44 (NilC a0 fun v48 =>
  FA v48 0 fun v49 =>
  Ld1 v49 fun v50 =>
  IA 2 v50 (.int .i64 0) fun v51 =>
  FA v51 1 fun v52 =>
  Ld1 v52 fun v53 =>
  BSlC 3 1 #[(.int .i64 0)] 1 #[(0, v53)] fun v54 =>
  AppC 3 1 8 #[(.int .i64 0)] v6 v54 fun v55 =>
  NilC a0 fun v58 =>
  FA v58 0 fun v59 =>
  Ld1 v59 fun v60 =>
  SlC 2 v60 (some (.int .i64 1)) none fun v61 =>
  NilC a0 fun v62 =>
  FA v62 0 fun v63 =>
  St 1 v63 v61 fun _ =>
  vK [v55])
  (KR (.tuple #[v6, (.int .i64 0)])))
  (KR (.tuple #[v6, (.int .i64 0)]))))
  (KR (.tuple #[(.slice none 0 0), (.int .i64 (-10))]))
theorem V.jacinthref14_Timers_Advance_ok {a0 a1 : Value} {K : Value → WP} {w : World} (h : V.jacinthref14_Timers_Advance a0 a1 K w) : Cl pg 21 #[a0, a1] K w :=
  cl_of pg_mixed Try.func21 (args := [a0, a1]) (by kernel_rfl) (by rw [show WF pg Try.f21 [a0, a1] K = V.jacinthref14_Timers_Advance a0 a1 K from by kernel_rfl]; exact h)

def V.timer_Timers_Next (a0 : Value) (KR : Value → WP) : WP :=
  NilC a0 fun v6 =>
  FA v6 0 fun v7 =>
  Ld1 v7 fun v8 =>
  LenS v8 fun v9 =>
  BinI .eql v9 (.int .i64 0) fun v10 =>
  Cnd v10 (KR (.tuple #[(.int .i64 0), (.int .i64 0), (.bool false)]))
  (Drw <| QtC fun I =>
  QE I (fun KK => NilC a0 fun v12 =>
  KK v12) fun v12_1 =>
  QE I (fun KK => FA v12_1 0 fun v13 =>
  KK v13) fun v13_1 =>
  QE I (fun KK => Ld1 v13_1 fun v14 =>
  KK v14) fun v14_1 =>
  QE I (fun KK => IA 2 v14_1 (.int .i64 0) fun v15 =>
  KK v15) fun v15_1 =>
  QE I (fun KK => FA v15_1 1 fun v16 =>
  KK v16) fun v16_1 =>
  QE I (fun KK => Ld1 v16_1 fun v17 =>
  KK v17) fun v17_1 =>
  QE I (fun KK => NilC a0 fun v19 =>
  KK v19) fun v19_1 =>
  QE I (fun KK => FA v19_1 0 fun v20 =>
  KK v20) fun v20_1 =>
  QE I (fun KK => Ld1 v20_1 fun v21 =>
  KK v21) fun v21_1 =>
  QE I (fun KK => IA 2 v21_1 (.int .i64 0) fun v22 =>
  KK v22) fun v22_1 =>
  QE I (fun KK => FA v22_1 0 fun v23 =>
  KK v23) fun v23_1 =>
  QE I (fun KK => Ld1 v23_1 fun v24 =>
  KK v24) fun v24_1 =>
  KR (.tuple #[v17_1, v24_1, (.bool true)]))
theorem V.timer_Timers_Next_ok {a0 : Value} {K : Value → WP} {w : World} (h : V.timer_Timers_Next a0 K w) : Cl pg 22 #[a0] K w :=
  cl_of pg_mixed Try.func22 (args := [a0]) (by kernel_rfl) (by rw [show WF pg Try.f22 [a0] K = V.timer_Timers_Next a0 K from by kernel_rfl]; exact h)

def V.timer_Timers_drop (a0 a1 : Value) (KR : Value → WP) : WP :=
  NilC a0 fun v7 =>
  FA v7 0 fun v8 =>
  Ld1 v8 fun v9 =>
  LenS v9 fun v10 =>
  BinI .sub v10 (.int .i64 1) fun v11 =>
  Drw <| QtC fun I =>
  QE I (fun KK => NilC a0 fun v13 =>
  KK v13) fun v13_1 =>
  QE I (fun KK => FA v13_1 1 fun v14 =>
  KK v14) fun v14_1 =>
  QE I (fun KK => Ld1 v14_1 fun v15 =>
  KK v15) fun v15_1 =>
  QE I (fun KK => NilC a0 fun v17 =>
  KK v17) fun v17_1 =>
  QE I (fun KK => FA v17_1 0 fun v18 =>
  KK v18) fun v18_1 =>
  QE I (fun KK => Ld1 v18_1 fun v19 =>
  KK v19) fun v19_1 =>
  QE I (fun KK => IA 2 v19_1 a1 fun v21 =>
  KK v21) fun v21_1 =>
  QE I (fun KK => FA v21_1 1 fun v22 =>
  KK v22) fun v22_1 =>
  QE I (fun KK => Ld1 v22_1 fun v23 =>
  KK v23) fun v23_1 =>
  Ex pg (Builtin.delete_ #[57, 3] 0 #[v15_1, v23_1]) fun _ =>
  NilC a0 fun v25 =>
  FA v25 0 fun v26 =>
  Ld1 v26 fun v27 =>
  IA 2 v27 v11 fun v29 =>
  LdN 2 v29 fun v30 =>
  New 62 #[(.int .i64 0), (.int .i64 0)] fun v5 =>
  St 2 v5 v30 fun _ =>
  NilC a0 fun v33 =>
  FA v33 0 fun v34 =>
  Ld1 v34 fun v35 =>
  SlC 2 v35 none (some v11) fun v37 =>
  NilC a0 fun v38 =>
  FA v38 0 fun v39 =>
  St 1 v39 v37 fun _ =>
  BinI .lss a1 v11 fun v42 =>
  Cnd v42 (LdN 2 v5 fun v45 =>
  FnV pg (.func (.func 24) #[] #[]) #[a0, a1, v45] fun _ =>
  FnV pg (.func (.func 25) #[] #[]) #[a0, a1] fun _ =>
  Drw <| QtC fun I =>
  QE I (fun KK => NilC a0 fun v52 =>
  KK v52) fun v52_1 =>
  QE I (fun KK => FA v52_1 1 fun v53 =>
  KK v53) fun v53_1 =>
  QE I (fun KK => Ld1 v53_1 fun v54 =>
  KK v54) fun v54_1 =>
  QE I (fun KK => FA v5 1 fun v55 =>
  KK v55) fun v55_1 =>
  QE I (fun KK => Ld1 v55_1 fun v56 =>
  KK v56) fun v56_1 =>
  QE I (fun KK => Ex pg (Instr.lookup 57 v54_1 v56_1 false) fun v57 =>
  KK v57) fun v57_1 =>
  FnV pg (.func (.func 29) #[] #[]) #[a0, v57_1] fun _ =>
  KR (.tuple #[]))
  (KR (.tuple #[]))
theorem V.timer_Timers_drop_ok {a0 a1 : Value} {K : Value → WP} {w : World} (h : V.timer_Timers_drop a0 a1 K w) : Cl pg 23 #[a0, a1] K w :=
  cl_of pg_mixed Try.func23 (args := [a0, a1]) (by kernel_rfl) (by rw [show WF pg Try.f23 [a0, a1] K = V.timer_Timers_drop a0 a1 K from by kernel_rfl]; exact h)

def V.timer_Timers_put (a0 a1 a2 : Value) (KR : Value → WP) : WP :=
  New 62 (Value.cells a2) fun v5 =>
  Drw <| QtC fun I =>
  QE I (fun KK => NilC a0 fun v7 =>
  KK v7) fun v7_1 =>
  QE I (fun KK => FA v7_1 0 fun v8 =>
  KK v8) fun v8_1 =>
  QE I (fun KK => Ld1 v8_1 fun v9 =>
  KK v9) fun v9_1 =>
  QE I (fun KK => LdN 2 v5 fun v11 =>
  KK v11) fun v11_1 =>
  IA 2 v9_1 a1 fun v12 =>
  St 2 v12 v11_1 fun _ =>
  Drw <| QtC fun I =>
  QE I (fun KK => NilC a0 fun v14 =>
  KK v14) fun v14_1 =>
  QE I (fun KK => FA v14_1 1 fun v15 =>
  KK v15) fun v15_1 =>
  QE I (fun KK => Ld1 v15_1 fun v16 =>
  KK v16) fun v16_1 =>
  QE I (fun KK => FA v5 1 fun v17 =>
  KK v17) fun v17_1 =>
  QE I (fun KK => Ld1 v17_1 fun v18 =>
  KK v18) fun v18_1 =>
  Ex pg (do Instr.mapUpdate 57 v16_1 v18_1 a1; pure undef) fun _ =>
  KR (.tuple #[])
theorem V.timer_Timers_put_ok {a0 a1 a2 : Value} {K : Value → WP} {w : World} (h : V.timer_Timers_put a0 a1 a2 K w) : Cl pg 24 #[a0, a1, a2] K w :=
  cl_of pg_mixed Try.func24 (args := [a0, a1, a2]) (by kernel_rfl) (by rw [show WF pg Try.f24 [a0, a1, a2] K = V.timer_Timers_put a0 a1 a2 K from by kernel_rfl]; exact h)

def V.timer_Timers_up (a0 a1 : Value) (KR : Value → WP) : WP :=
  NilC a0 fun v7 =>
  FA v7 0 fun v8 =>
  Ld1 v8 fun v9 =>
  IA 2 v9 a1 fun v11 =>
  LdN 2 v11 fun v12 =>
  New 62 #[(.int .i64 0), (.int .i64 0)] fun v4 =>
  St 2 v4 v12 fun _ =>
  LoopC [a1, v4] fun vK vs => AllE <|
  UN vs fun v1 vs =>
  UN vs fun v4_1 _ =>
  BinI .gtr v1 (.int .i64 0) fun v14 =>
  Cnd v14 (BinI .sub v1 (.int .i64 1) fun v16 =>
  BinI .quo v16 (.int .i64 2) fun v17 =>
  Drw <| QtC fun I =>
  QE I (fun KK => NilC a0 fun v19 =>
  KK v19) fun v19_1 =>
  QE I (fun KK => FA v19_1 0 fun v20 =>
  KK v20) fun v20_1 =>
  QE I (fun KK => Ld1 v20_1 fun v21 =>
  KK v21) fun v21_1 =>
  QE I (fun KK => IA 2 v21_1 v17 fun v23 =>
  KK v23) fun v23_1 =>
  QE I (fun KK => LdN 2 v23_1 fun v24 =>
  KK v24) fun v24_1 =>
  QE I (fun KK => LdN 2 v4_1 fun v25 =>
  KK v25) fun v25_1 =>
  FnV pg (.func (.func 28) #[] #[]) #[v24_1, v25_1] fun v26 =>
  BinI .leq v26 (.int .i64 0) fun v27 =>
  Cnd v27 (KR (.tuple #[]))
  (NilC a0 fun v31 =>
  FA v31 0 fun v32 =>
  Ld1 v32 fun v33 =>
  IA 2 v33 v17 fun v35 =>
  LdN 2 v35 fun v36 =>
  FnV pg (.func (.func 24) #[] #[]) #[a0, v1, v36] fun _ =>
  LdN 2 v4_1 fun v41 =>
  FnV pg (.func (.func 24) #[] #[]) #[a0, v17, v41] fun _ =>
  LdN 2 v4_1 fun v43 =>
  New 62 #[(.int .i64 0), (.int .i64 0)] fun v4_2 =>
  St 2 v4_2 v43 fun _ =>
  vK [v17, v4_2]))
  (KR (.tuple #[]))
theorem V.timer_Timers_up_ok {a0 a1 : Value} {K : Value → WP} {w : World} (h : V.timer_Timers_up a0 a1 K w) : Cl pg 25 #[a0, a1] K w :=
  cl_of pg_mixed Try.func25 (args := [a0, a1]) (by kernel_rfl) (by rw [show WF pg Try.f25 [a0, a1] K = V.timer_Timers_up a0 a1 K from by kernel_rfl]; exact h)

def V.slices_SortedFunc_entry (a0 a1 : Value) (KR : Value → WP) : WP :=
  FnV pg (.func (.func 30) #[] #[]) #[a0] fun v7 =>
  FnV pg (.func (.func 31) #[] #[]) #[v7, a1] fun _ =>
  KR v7
theorem V.slices_SortedFunc_entry_ok {a0 a1 : Value} {K : Value → WP} {w : World} (h : V.slices_SortedFunc_entry a0 a1 K w) : Cl pg 26 #[a0, a1] K w :=
  cl_of pg_mixed Try.func26 (args := [a0, a1]) (by kernel_rfl) (by rw [show WF pg Try.f26 [a0, a1] K = V.slices_SortedFunc_entry a0 a1 K from by kernel_rfl]; exact h)

def V.slices_Values_entry_entry (a0 : Value) (KR : Value → WP) : WP :=
  New 58 (Value.cells a0) fun v1 =>
  KR (.func (.func 32) #[] #[v1])
theorem V.slices_Values_entry_entry_ok {a0 : Value} {K : Value → WP} {w : World} (h : V.slices_Values_entry_entry a0 K w) : Cl pg 27 #[a0] K w :=
  cl_of pg_mixed Try.func27 (args := [a0]) (by kernel_rfl) (by rw [show WF pg Try.f27 [a0] K = V.slices_Values_entry_entry a0 K from by kernel_rfl]; exact h)

def V.timer_entry_order (a0 a1 : Value) (KR : Value → WP) : WP :=
  New 62 (Value.cells a0) fun v2 =>
  New 62 (Value.cells a1) fun v3 =>
  Drw <| QtC fun I =>
  QE I (fun KK => FA v2 0 fun v5 =>
  KK v5) fun v5_1 =>
  QE I (fun KK => Ld1 v5_1 fun v6 =>
  KK v6) fun v6_1 =>
  QE I (fun KK => FA v3 0 fun v7 =>
  KK v7) fun v7_1 =>
  QE I (fun KK => Ld1 v7_1 fun v8 =>
  KK v8) fun v8_1 =>
  QE I (fun KK => FA v2 1 fun v10 =>
  KK v10) fun v10_1 =>
  QE I (fun KK => Ld1 v10_1 fun v11 =>
  KK v11) fun v11_1 =>
  QE I (fun KK => FA v3 1 fun v12 =>
  KK v12) fun v12_1 =>
  QE I (fun KK => Ld1 v12_1 fun v13 =>
  KK v13) fun v13_1 =>
  FnV pg (.func (.func 34) #[] #[]) #[v6_1, v8_1] fun v9 =>
  CH I <|
  FnV pg (.func (.func 34) #[] #[]) #[v11_1, v13_1] fun v14 =>
  BSlC 3 1 #[(.int .i64 0)] 2 #[(0, v9), (1, v14)] fun v15 =>
  FnV pg (.func (.func 33) #[] #[]) #[v15] fun v16 =>
  KR v16
theorem V.timer_entry_order_ok {a0 a1 : Value} {K : Value → WP} {w : World} (h : V.timer_entry_order a0 a1 K w) : Cl pg 28 #[a0, a1] K w :=
  cl_of pg_mixed Try.func28 (args := [a0, a1]) (by kernel_rfl) (by rw [show WF pg Try.f28 [a0, a1] K = V.timer_entry_order a0 a1 K from by kernel_rfl]; exact h)

def V.timer_Timers_down (a0 a1 : Value) (KR : Value → WP) : WP :=
  LoopC [a1] fun vK vs => AllE <|
  UN vs fun v1 _ =>
  JoinC (fun vs => AllE (UN vs fun v4 _ =>
  BinI .eql v4 v1 fun v45 =>
  Cnd v45 (KR (.tuple #[]))
  (Drw <| JoinC (fun vs => AllE (UN vs fun v59 vs =>
  UN vs fun v6 vs =>
  UN vs fun v7 _ =>
  St 2 v7 v59 fun _ =>
  LdN 2 v7 fun v62 =>
  FnV pg (.func (.func 24) #[] #[]) #[a0, v1, v62] fun _ =>
  LdN 2 v6 fun v66 =>
  FnV pg (.func (.func 24) #[] #[]) #[a0, v4, v66] fun _ =>
  vK [v4]))
  fun vK_1 =>
  QtC fun I =>
  QE I (fun KK => NilC a0 fun v47 =>
  KK v47) fun v47_1 =>
  QE I (fun KK => FA v47_1 0 fun v48 =>
  KK v48) fun v48_1 =>
  QE I (fun KK => Ld1 v48_1 fun v49 =>
  KK v49) fun v49_1 =>
  QE I (fun KK => IA 2 v49_1 v1 fun v51 =>
  KK v51) fun v51_1 =>
  QE I (fun KK => LdN 2 v51_1 fun v52 =>
  KK v52) fun v52_1 =>
  QE I (fun KK => NilC a0 fun v54 =>
  KK v54) fun v54_1 =>
  QE I (fun KK => FA v54_1 0 fun v55 =>
  KK v55) fun v55_1 =>
  QE I (fun KK => Ld1 v55_1 fun v56 =>
  KK v56) fun v56_1 =>
  QE I (fun KK => IA 2 v56_1 v4 fun v58 =>
  KK v58) fun v58_1 =>
  QE I (fun KK => LdN 2 v58_1 fun v59_1 =>
  KK v59_1) fun v59_2 =>
  And2 (New 62 #[(.int .i64 0), (.int .i64 0)] fun v6_1 =>
  CH I <|
  New 62 #[(.int .i64 0), (.int .i64 0)] fun v7_1 =>
  CH I <|
  St 2 v6_1 v52_1 fun _ =>
  CH I <|
  vK_1 [v59_2, v6_1, v7_1])
  (New 62 #[(.int .i64 0), (.int .i64 0)] fun v7_2 =>
  CH I <|
  New 62 #[(.int .i64 0), (.int .i64 0)] fun v6_2 =>
  CH I <|
  St 2 v6_2 v52_1 fun _ =>
  CH I <|
  vK_1 [v59_2, v6_2, v7_2]))))
  fun vK_2 =>
  BinI .mul (.int .i64 2) v1 fun v10 =>
  BinI .add v10 (.int .i64 1) fun v11 =>
  LoopC [v1, v11] fun vK_3 vs => AllE <|
  UN vs fun v4_1 vs =>
  UN vs fun v5 _ =>
  BinI .mul (.int .i64 2) v1 fun v14 =>
  BinI .add v14 (.int .i64 2) fun v15 =>
  BinI .leq v5 v15 fun v16 =>
  Cnd v16 (NilC a0 fun v21 =>
  FA v21 0 fun v22 =>
  Ld1 v22 fun v23 =>
  LenS v23 fun v24 =>
  BinI .geq v5 v24 fun v25 =>
  Cnd v25 (vK_2 [v4_1])
  (Drw <| QtC fun I =>
  QE I (fun KK => NilC a0 fun v27 =>
  KK v27) fun v27_1 =>
  QE I (fun KK => FA v27_1 0 fun v28 =>
  KK v28) fun v28_1 =>
  QE I (fun KK => Ld1 v28_1 fun v29 =>
  KK v29) fun v29_1 =>
  QE I (fun KK => IA 2 v29_1 v5 fun v31 =>
  KK v31) fun v31_1 =>
  QE I (fun KK => LdN 2 v31_1 fun v32 =>
  KK v32) fun v32_1 =>
  QE I (fun KK => NilC a0 fun v34 =>
  KK v34) fun v34_1 =>
  QE I (fun KK => FA v34_1 0 fun v35 =>
  KK v35) fun v35_1 =>
  QE I (fun KK => Ld1 v35_1 fun v36 =>
  KK v36) fun v36_1 =>
  QE I (fun KK => IA 2 v36_1 v4_1 fun v38 =>
  KK v38) fun v38_1 =>
  QE I (fun KK => LdN 2 v38_1 fun v39 =>
  KK v39) fun v39_1 =>
  FnV pg (.func (.func 28) #[] #[]) #[v32_1, v39_1] fun v40 =>
  BinI .lss v40 (.int .i64 0) fun v41 =>
  Cnd v41 (BinI .add v5 (.int .i64 1) fun v18 =>
  vK_3 [v5, v18])
  (BinI .add v5 (.int .i64 1) fun v18_1 =>
  vK_3 [v4_1, v18_1])))
  (vK_2 [v4_1])
theorem V.timer_Timers_down_ok {a0 a1 : Value} {K : Value → WP} {w : World} (h : V.timer_Timers_down a0 a1 K w) : Cl pg 29 #[a0, a1] K w :=
  cl_of pg_mixed Try.func29 (args := [a0, a1]) (by kernel_rfl) (by rw [show WF pg Try.f29 [a0, a1] K = V.timer_Timers_down a0 a1 K from by kernel_rfl]; exact h)

def V.slices_Collect_entry (a0 : Value) (KR : Value → WP) : WP :=
  FnV pg (.func (.func 35) #[] #[]) #[(.slice none 0 0), a0] fun v4 =>
  KR v4
theorem V.slices_Collect_entry_ok {a0 : Value} {K : Value → WP} {w : World} (h : V.slices_Collect_entry a0 K w) : Cl pg 30 #[a0] K w :=
  cl_of pg_mixed Try.func30 (args := [a0]) (by kernel_rfl) (by rw [show WF pg Try.f30 [a0] K = V.slices_Collect_entry a0 K from by kernel_rfl]; exact h)

def V.slices_SortFunc_entry_entry (a0 a1 : Value) (KR : Value → WP) : WP :=
  LenS a0 fun v6 =>
  ConvI .u64 v6 fun v10 =>
  FnV pg (.func (.func 37) #[] #[]) #[v10] fun v11 =>
  FnV pg (.func (.func 36) #[] #[]) #[a0, (.int .i64 0), v6, v11, a1] fun _ =>
  KR (.tuple #[])
theorem V.slices_SortFunc_entry_entry_ok {a0 a1 : Value} {K : Value → WP} {w : World} (h : V.slices_SortFunc_entry_entry a0 a1 K w) : Cl pg 31 #[a0, a1] K w :=
  cl_of pg_mixed Try.func31 (args := [a0, a1]) (by kernel_rfl) (by rw [show WF pg Try.f31 [a0, a1] K = V.slices_SortFunc_entry_entry a0 a1 K from by kernel_rfl]; exact h)

def V.slices_Values_c1_entry_entry (a0 a1 : Value) (KR : Value → WP) : WP :=
  Ld1 a1 fun v5 =>
  LenS v5 fun v6 =>
  LoopC [(.int .i64 0)] fun vK vs => AllE <|
  UN vs fun v7 _ =>
  BinI .lss v7 v6 fun v8 =>
  Cnd v8 (IA 2 v5 v7 fun v9 =>
  LdN 2 v9 fun v10 =>
  New 62 #[(.int .i64 0), (.int .i64 0)] fun v4 =>
  St 2 v4 v10 fun _ =>
  LdN 2 v4 fun v12 =>
  FnV pg a0 #[v12] fun v13 =>
  Un .not v13 fun v14 =>
  Cnd v14 (KR (.tuple #[]))
  (BinI .add v7 (.int .i64 1) fun v15 =>
  vK [v15]))
  (KR (.tuple #[]))
theorem V.slices_Values_c1_entry_entry_ok {a0 a1 : Value} {K : Value → WP} {w : World} (h : V.slices_Values_c1_entry_entry a0 a1 K w) : Cl pg 32 #[a0, a1] K w :=
  cl_of pg_mixed Try.func32 (args := [a0, a1]) (by kernel_rfl) (by rw [show WF pg Try.f32 [a0, a1] K = V.slices_Values_c1_entry_entry a0 a1 K from by kernel_rfl]; exact h)

def V.cmp_Or_int (a0 : Value) (KR : Value → WP) : WP :=
  LenS a0 fun v7 =>
  LoopC [(.int .i64 0), (.int .i64 0)] fun vK vs => AllE <|
  UN vs fun v2 vs =>
  UN vs fun v8 _ =>
  BinI .lss v8 v7 fun v9 =>
  Cnd v9 (IA 1 a0 v8 fun v10 =>
  Ld1 v10 fun v11 =>
  BinI .neq v11 (.int .i64 0) fun v14 =>
  Cnd v14 (KR v11)
  (BinI .add v8 (.int .i64 1) fun v16 =>
  vK [v2, v16]))
  (KR (.int .i64 0))
theorem V.cmp_Or_int_ok {a0 : Value} {K : Value → WP} {w : World} (h : V.cmp_Or_int a0 K w) : Cl pg 33 #[a0] K w :=
  cl_of pg_mixed Try.func33 (args := [a0]) (by kernel_rfl) (by rw [show WF pg Try.f33 [a0] K = V.cmp_Or_int a0 K from by kernel_rfl]; exact h)

def V.cmp_Compare_int (a0 a1 : Value) (KR : Value → WP) : WP :=
  FnV pg (.func (.func 38) #[] #[]) #[a0] fun v8 =>
  FnV pg (.func (.func 38) #[] #[]) #[a1] fun v10 =>
  Cnd v8 (Cnd v10 (KR (.int .i64 0))
  (KR (.int .i64 (-1))))
  (Cnd v10 (KR (.int .i64 1))
  (BinI .lss a0 a1 fun v16 =>
  Cnd v16 (KR (.int .i64 (-1)))
  (BinI .gtr a0 a1 fun v19 =>
  Cnd v19 (KR (.int .i64 1))
  (KR (.int .i64 0)))))
theorem V.cmp_Compare_int_ok {a0 a1 : Value} {K : Value → WP} {w : World} (h : V.cmp_Compare_int a0 a1 K w) : Cl pg 34 #[a0, a1] K w :=
  cl_of pg_mixed Try.func34 (args := [a0, a1]) (by kernel_rfl) (by rw [show WF pg Try.f34 [a0, a1] K = V.cmp_Compare_int a0 a1 K from by kernel_rfl]; exact h)

def V.slices_AppendSeq_entry_entry (a0 a1 : Value) (KR : Value → WP) : WP :=
  New 58 (Value.cells a0) fun v2 =>
  RF0 pg a1 (fun vl vs vK =>
  UN vs fun v7 vs =>
  UNe vs <|
  New 62 #[(.int .i64 0), (.int .i64 0)] fun v5 =>
  St 2 v5 v7 fun _ =>
  RBeg vl <|
  Ld1 v2 fun v8 =>
  LdN 2 v5 fun v9 =>
  BSlC 62 2 #[(.int .i64 0), (.int .i64 0)] 1 #[(0, v9)] fun v10 =>
  AppC 62 2 16 #[(.int .i64 0), (.int .i64 0)] v8 v10 fun v11 =>
  St 1 v2 v11 fun _ =>
  REnd vl none vK)
  fun vm vj =>
  JumpC vj (Ld1 v2 fun v12 =>
  LvC (.tuple #[vm]) <| KR v12)
  (LvC (.tuple #[vm]) <| KR (.slice none 0 0))
  (fun _ => fun _ => False)
theorem V.slices_AppendSeq_entry_entry_ok {a0 a1 : Value} {K : Value → WP} {w : World} (h : V.slices_AppendSeq_entry_entry a0 a1 K w) : Cl pg 35 #[a0, a1] K w :=
  cl_of pg_mixed Try.func35 (args := [a0, a1]) (by kernel_rfl) (by rw [show WF pg Try.f35 [a0, a1] K = V.slices_AppendSeq_entry_entry a0 a1 K from by kernel_rfl]; exact h)

def V.cmp_isNaN_int (a0 : Value) (KR : Value → WP) : WP :=
  BinI .neq a0 a0 fun v5 =>
  KR v5
theorem V.cmp_isNaN_int_ok {a0 : Value} {K : Value → WP} {w : World} (h : V.cmp_isNaN_int a0 K w) : Cl pg 38 #[a0] K w :=
  cl_of pg_mixed Try.func38 (args := [a0]) (by kernel_rfl) (by rw [show WF pg Try.f38 [a0] K = V.cmp_isNaN_int a0 K from by kernel_rfl]; exact h)
end Go.Proofs.Ythpkkbmiockloaa
