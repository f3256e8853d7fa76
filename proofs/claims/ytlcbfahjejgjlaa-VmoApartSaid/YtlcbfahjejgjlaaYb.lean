/- Several texts of this session's own, joined: V. -/
import Derived.Test.YtlcbfahjejgjlaaYa
import Derived.Test.YtlcbfahjejgjlaaProg
set_option maxRecDepth 100000
namespace Go.Proofs.Ytlcbfahjejgjlaa
open Go Go.Jac
noncomputable abbrev pg : Program := Try.prog
theorem pg_mixed : pg.follows .mixedOrders = true := by kernel_rfl
def V.gosem_cut_init (KR : Value → WP) : WP :=
  FnV pg (.func (.func 1) #[] #[]) #[] fun _ =>
  KR (.tuple #[])
theorem V.gosem_cut_init_ok {K : Value → WP} {w : World} (h : V.gosem_cut_init  K w) : Cl pg 2 #[] K w :=
  cl_of pg_mixed Try.func2 (args := []) (by kernel_rfl) (by rw [show WF pg Try.f2 [] K = V.gosem_cut_init  K from by kernel_rfl]; exact h)

def V.jacinthlaw08_VmoApart (a0 : Value) (KR : Value → WP) : WP :=
  New 24 (Value.cells a0) fun v1 =>
  Drw <| QtC fun I =>
  QE I (fun KK => FA v1 0 fun v25 =>
  KK v25) fun v25_1 =>
  QE I (fun KK => Ld1 v25_1 fun v26 =>
  KK v26) fun v26_1 =>
  QE I (fun KK => FA v1 1 fun v27 =>
  KK v27) fun v27_1 =>
  QE I (fun KK => Ld1 v27_1 fun v28 =>
  KK v28) fun v28_1 =>
  QE I (fun KK => FA v1 2 fun v29 =>
  KK v29) fun v29_1 =>
  QE I (fun KK => Ld1 v29_1 fun v30 =>
  KK v30) fun v30_1 =>
  QE I (fun KK => FA v1 3 fun v31 =>
  KK v31) fun v31_1 =>
  QE I (fun KK => Ld1 v31_1 fun v32 =>
  KK v32) fun v32_1 =>
  FnV pg (.func (.func 8) #[] #[]) #[(.int .i64 64), (.int .i64 8)] fun v33 =>
  EqP false v33 (.pointer none) fun v35 =>
  Grd v35 false (LenS v26_1 fun v38 =>
  BinI .gtr v38 (.int .i64 256) fun v39 =>
  Grd v39 false (LenS v28_1 fun v43 =>
  BinI .gtr v43 (.int .i64 100) fun v44 =>
  Grd v44 false (LenS v30_1 fun v48 =>
  BinI .gtr v48 (.int .i64 100) fun v49 =>
  Grd v49 false (BinI .lss v32_1 (.int .i64 0) fun v53 =>
  Grd v53 false (BinI .gtr v32_1 (.int .i64 150) fun v57 =>
  Cnd v57 (EqP true v33 (.pointer none) fun v60 =>
  Grd v60 true (FnV pg (.func (.func 9) #[] #[]) #[] fun v62 =>
  KR v62)
  (KR (.bool false)))
  (FnV pg (.func (.func 10) #[] #[]) #[v33, (.int .i64 256)] fun v66 =>
  Ext v66 0 fun v67 =>
  Ext v66 1 fun v68 =>
  BinI .neq v68 (.int .i64 0) fun v70 =>
  Grd v70 false (FnV pg (.func (.func 11) #[] #[]) #[v33, v67, (.int .i64 0), v26_1] fun v75 =>
  BinI .neq v75 (.int .i64 0) fun v76 =>
  Cnd v76 (KR (.bool false))
  (FnV pg (.func (.func 12) #[] #[]) #[v33, v67, (.int .i64 0), (.int .i64 256)] fun v81 =>
  Ext v81 0 fun v82 =>
  Ext v81 1 fun _ =>
  FnV pg (.func (.func 13) #[] #[]) #[v33, v67, (.int .i64 0), (.int .i64 256)] fun v87 =>
  Ext v87 0 fun v88 =>
  Ext v87 1 fun v89 =>
  FnV pg (.func (.func 14) #[] #[]) #[v33, v67, (.int .i64 64), (.int .i64 192)] fun v93 =>
  Ext v93 0 fun v94 =>
  Ext v93 1 fun v95 =>
  BinI .neq v89 (.int .i64 0) fun v97 =>
  Grd v97 false (BinI .neq v95 (.int .i64 0) fun v100 =>
  Grd v100 false (FnV pg (.func (.func 11) #[] #[]) #[v33, v67, v32_1, v28_1] fun v107 =>
  BinI .neq v107 (.int .i64 0) fun v108 =>
  Cnd v108 (KR (.bool false))
  (FnV pg (.func (.func 12) #[] #[]) #[v33, v88, (.int .i64 0), (.int .i64 256)] fun v113 =>
  Ext v113 0 fun v114 =>
  Ext v113 1 fun _ =>
  FnV pg (.func (.func 15) #[] #[]) #[v114, v82] fun v118 =>
  Un .not v118 fun v119 =>
  Grd v119 false (FnV pg (.func (.func 11) #[] #[]) #[v33, v88, v32_1, v30_1] fun v125 =>
  BinI .neq v125 (.int .i64 0) fun v126 =>
  Cnd v126 (KR (.bool false))
  (FnV pg (.func (.func 16) #[] #[]) #[v82] fun v129 =>
  SlC 1 v129 (some v32_1) none fun v132 =>
  Ex pg (Builtin.copy_ #[22, 22] 3 #[v132, v28_1]) fun _ =>
  FnV pg (.func (.func 12) #[] #[]) #[v33, v67, (.int .i64 0), (.int .i64 256)] fun v138 =>
  Ext v138 0 fun v139 =>
  Ext v138 1 fun _ =>
  FnV pg (.func (.func 12) #[] #[]) #[v33, v94, (.int .i64 0), (.int .i64 192)] fun v144 =>
  Ext v144 0 fun v145 =>
  Ext v144 1 fun _ =>
  FnV pg (.func (.func 15) #[] #[]) #[v139, v129] fun v149 =>
  Un .not v149 fun v150 =>
  Grd v150 false (SlC 1 v129 (some (.int .i64 64)) none fun v154 =>
  FnV pg (.func (.func 15) #[] #[]) #[v145, v154] fun v155 =>
  Un .not v155 fun v156 =>
  Cnd v156 (KR (.bool false))
  (FnV pg (.func (.func 16) #[] #[]) #[v82] fun v159 =>
  SlC 1 v159 (some v32_1) none fun v162 =>
  Ex pg (Builtin.copy_ #[22, 22] 3 #[v162, v30_1]) fun _ =>
  FnV pg (.func (.func 12) #[] #[]) #[v33, v88, (.int .i64 0), (.int .i64 256)] fun v168 =>
  Ext v168 0 fun v169 =>
  Ext v168 1 fun _ =>
  FnV pg (.func (.func 15) #[] #[]) #[v169, v159] fun v173 =>
  Un .not v173 fun v174 =>
  Grd v174 false (FnV pg (.func (.func 11) #[] #[]) #[v33, v94, (.int .i64 3), v30_1] fun v179 =>
  BinI .neq v179 (.int .i64 0) fun v180 =>
  Cnd v180 (KR (.bool false))
  (LenS v30_1 fun v186 =>
  FnV pg (.func (.func 12) #[] #[]) #[v33, v67, (.int .i64 67), v186] fun v187 =>
  Ext v187 0 fun v188 =>
  Ext v187 1 fun _ =>
  FnV pg (.func (.func 15) #[] #[]) #[v188, v30_1] fun v192 =>
  Grd v192 true (FnV pg (.func (.func 9) #[] #[]) #[] fun v194 =>
  KR v194)
  (KR (.bool false))))
  (KR (.bool false))))
  (KR (.bool false))))
  (KR (.bool false))))
  (KR (.bool false)))
  (KR (.bool false))))
  (KR (.bool false))))
  (EqP true v33 (.pointer none) fun v60_1 =>
  Grd v60_1 true (FnV pg (.func (.func 9) #[] #[]) #[] fun v62_1 =>
  KR v62_1)
  (KR (.bool false))))
  (EqP true v33 (.pointer none) fun v60_2 =>
  Grd v60_2 true (FnV pg (.func (.func 9) #[] #[]) #[] fun v62_2 =>
  KR v62_2)
  (KR (.bool false))))
  (EqP true v33 (.pointer none) fun v60_3 =>
  Grd v60_3 true (FnV pg (.func (.func 9) #[] #[]) #[] fun v62_3 =>
  KR v62_3)
  (KR (.bool false))))
  (EqP true v33 (.pointer none) fun v60_4 =>
  Grd v60_4 true (FnV pg (.func (.func 9) #[] #[]) #[] fun v62_4 =>
  KR v62_4)
  (KR (.bool false))))
  (EqP true v33 (.pointer none) fun v60_5 =>
  Grd v60_5 true (FnV pg (.func (.func 9) #[] #[]) #[] fun v62_5 =>
  KR v62_5)
  (KR (.bool false)))
theorem V.jacinthlaw08_VmoApart_ok {a0 : Value} {K : Value → WP} {w : World} (h : V.jacinthlaw08_VmoApart a0 K w) : Cl pg 3 #[a0] K w :=
  cl_of pg_mixed Try.func3 (args := [a0]) (by kernel_rfl) (by rw [show WF pg Try.f3 [a0] K = V.jacinthlaw08_VmoApart a0 K from by kernel_rfl]; exact h)

def V.jacinthlaw08_VmoDeep (a0 a1 : Value) (KR : Value → WP) : WP :=
  FnV pg (.func (.func 8) #[] #[]) #[(.int .i64 40), (.int .i64 40)] fun v18 =>
  EqP false v18 (.pointer none) fun v20 =>
  Grd v20 false (BinI .lss a0 (.int .i64 1) fun v23 =>
  Grd v23 false (BinI .gtr a0 (.int .i64 20) fun v27 =>
  Grd v27 false (LenS a1 fun v31 =>
  BinI .gtr v31 (.int .i64 64) fun v32 =>
  Cnd v32 (EqP true v18 (.pointer none) fun v35 =>
  Grd v35 true (FnV pg (.func (.func 9) #[] #[]) #[] fun v37 =>
  KR v37)
  (KR (.bool false)))
  (FnV pg (.func (.func 10) #[] #[]) #[v18, (.int .i64 1920)] fun v41 =>
  Ext v41 0 fun v42 =>
  Ext v41 1 fun v43 =>
  BinI .neq v43 (.int .i64 0) fun v45 =>
  Cnd v45 (KR (.bool false))
  (JoinC (fun vs => AllE (UN vs fun _ vs =>
  UN vs fun v9 vs =>
  UN vs fun v8 _ =>
  FnV pg (.func (.func 11) #[] #[]) #[v18, v8, (.int .i64 0), a1] fun v78 =>
  BinI .neq v78 (.int .i64 0) fun v79 =>
  Cnd v79 (KR (.bool false))
  (BinI .mul (.int .i64 64) v9 fun v84 =>
  LenS a1 fun v86 =>
  FnV pg (.func (.func 12) #[] #[]) #[v18, v42, v84, v86] fun v87 =>
  Ext v87 0 fun v88 =>
  Ext v87 1 fun v89 =>
  FnV pg (.func (.func 13) #[] #[]) #[v18, v8, (.int .i64 0), (.int .i64 64)] fun v93 =>
  Ext v93 0 fun _ =>
  Ext v93 1 fun v95 =>
  BinI .eql v89 (.int .i64 0) fun v97 =>
  Grd v97 true (FnV pg (.func (.func 15) #[] #[]) #[v88, a1] fun v101 =>
  Grd v101 true (BinI .eql v95 (.int .i64 (-2)) fun v105 =>
  Grd v105 true (FnV pg (.func (.func 9) #[] #[]) #[] fun v108 =>
  KR v108)
  (KR (.bool false)))
  (KR (.bool false)))
  (KR (.bool false)))))
  fun vK =>
  LoopC [(.bool false), (.int .i64 0), v42, (.int .i64 0)] fun vK_1 vs => AllE <|
  UN vs fun v4_1 vs =>
  UN vs fun v9_1 vs =>
  UN vs fun v8_1 vs =>
  UN vs fun v48 _ =>
  BinI .lss v48 a0 fun v49 =>
  Cnd v49 (FnV pg (.func (.func 17) #[] #[]) #[v18, v8_1] fun v53 =>
  Ext v53 0 fun v54 =>
  Ext v53 1 fun _ =>
  New 39 #[(.int .i64 0), (.int .i64 0), (.int .i64 0), (.int .i64 0), (.bool false), (.bool false)] fun v10 =>
  St 6 v10 v54 fun _ =>
  FA v10 0 fun v59 =>
  Ld1 v59 fun v60 =>
  BinI .sub v60 (.int .i64 64) fun v61 =>
  FnV pg (.func (.func 14) #[] #[]) #[v18, v8_1, (.int .i64 64), v61] fun v62 =>
  Ext v62 0 fun v63 =>
  Ext v62 1 fun v64 =>
  BinI .eql v9_1 (.int .i64 16) fun v66 =>
  Cnd v66 (BinI .neq v64 (.int .i64 (-2)) fun v68 =>
  Cnd v68 (KR (.bool false))
  (vK [v4_1, v9_1, v8_1]))
  (BinI .neq v64 (.int .i64 0) fun v70 =>
  Cnd v70 (KR (.bool false))
  (BinI .add v9_1 (.int .i64 1) fun v72 =>
  BinI .add v48 (.int .i64 1) fun v74 =>
  vK_1 [v4_1, v72, v63, v74])))
  (vK [v4_1, v9_1, v8_1]))))
  (EqP true v18 (.pointer none) fun v35_1 =>
  Grd v35_1 true (FnV pg (.func (.func 9) #[] #[]) #[] fun v37_1 =>
  KR v37_1)
  (KR (.bool false))))
  (EqP true v18 (.pointer none) fun v35_2 =>
  Grd v35_2 true (FnV pg (.func (.func 9) #[] #[]) #[] fun v37_2 =>
  KR v37_2)
  (KR (.bool false))))
  (EqP true v18 (.pointer none) fun v35_3 =>
  Grd v35_3 true (FnV pg (.func (.func 9) #[] #[]) #[] fun v37_3 =>
  KR v37_3)
  (KR (.bool false)))
theorem V.jacinthlaw08_VmoDeep_ok {a0 a1 : Value} {K : Value → WP} {w : World} (h : V.jacinthlaw08_VmoDeep a0 a1 K w) : Cl pg 4 #[a0, a1] K w :=
  cl_of pg_mixed Try.func4 (args := [a0, a1]) (by kernel_rfl) (by rw [show WF pg Try.f4 [a0, a1] K = V.jacinthlaw08_VmoDeep a0 a1 K from by kernel_rfl]; exact h)

def V.jacinthlaw08_VmoRoom (a0 a1 a2 : Value) (KR : Value → WP) : WP :=
  FnV pg (.func (.func 8) #[] #[]) #[a0, (.int .i64 3)] fun v18 =>
  EqP false v18 (.pointer none) fun v20 =>
  Grd v20 false (BinI .gtr a0 (.int .i64 30) fun v23 =>
  Grd v23 false (BinI .lss a1 (.int .i64 0) fun v27 =>
  Grd v27 false (BinI .gtr a1 (.int .i64 40) fun v31 =>
  Grd v31 false (BinI .lss a2 (.int .i64 0) fun v35 =>
  Grd v35 false (BinI .gtr a2 (.int .i64 40) fun v39 =>
  Cnd v39 (EqP true v18 (.pointer none) fun v42 =>
  Grd v42 false (BinI .lss a0 (.int .i64 0) fun v45 =>
  Grd v45 false (BinI .gtr a0 (.int .i64 65536) fun v49 =>
  Grd v49 true (FnV pg (.func (.func 9) #[] #[]) #[] fun v52 =>
  KR v52)
  (KR (.bool false)))
  (FnV pg (.func (.func 9) #[] #[]) #[] fun v52_1 =>
  KR v52_1))
  (FnV pg (.func (.func 9) #[] #[]) #[] fun v52_2 =>
  KR v52_2))
  (FnV pg (.func (.func 10) #[] #[]) #[v18, (.int .i64 4096)] fun v56 =>
  Ext v56 0 fun v57 =>
  Ext v56 1 fun v58 =>
  FnV pg (.func (.func 10) #[] #[]) #[v18, (.int .i64 4096)] fun v61 =>
  Ext v61 0 fun v62 =>
  Ext v61 1 fun v63 =>
  BinI .neq v58 (.int .i64 0) fun v65 =>
  Grd v65 false (BinI .neq v63 (.int .i64 0) fun v68 =>
  Cnd v68 (KR (.bool false))
  (BinI .mul (.int .i64 64) a1 fun v73 =>
  FnV pg (.func (.func 18) #[] #[]) #[v18, v57, (.int .i64 1), (.int .i64 0), v73] fun v74 =>
  BinI .eql v74 (.int .i64 0) fun v76 =>
  BinI .leq a1 a0 fun v79 =>
  EqB true v76 v79 fun v80 =>
  Cnd v80 (KR (.bool false))
  (JoinC (fun vs => AllE (UN vs fun v13 _ =>
  BinI .mul (.int .i64 64) a2 fun v87 =>
  FnV pg (.func (.func 18) #[] #[]) #[v18, v62, (.int .i64 1), (.int .i64 0), v87] fun v88 =>
  BinI .eql v88 (.int .i64 0) fun v90 =>
  BinI .sub a0 v13 fun v94 =>
  BinI .leq a2 v94 fun v95 =>
  EqB true v90 v95 fun v96 =>
  Cnd v96 (KR (.bool false))
  (JoinC (fun vs => AllE (UN vs fun v13_1 _ =>
  FnV pg (.func (.func 19) #[] #[]) #[v18] fun v103 =>
  BinI .sub a0 v13_1 fun v106 =>
  BinI .neq v103 v106 fun v107 =>
  Grd v107 false (BinI .mul (.int .i64 64) a1 fun v112 =>
  FnV pg (.func (.func 18) #[] #[]) #[v18, v57, (.int .i64 2), (.int .i64 0), v112] fun v113 =>
  BinI .neq v113 (.int .i64 0) fun v114 =>
  Cnd v114 (KR (.bool false))
  (FnV pg (.func (.func 17) #[] #[]) #[v18, v57] fun v119 =>
  Ext v119 0 fun v120 =>
  Ext v119 1 fun _ =>
  New 39 #[(.int .i64 0), (.int .i64 0), (.int .i64 0), (.int .i64 0), (.bool false), (.bool false)] fun v15 =>
  St 6 v15 v120 fun _ =>
  FA v15 3 fun v122 =>
  Ld1 v122 fun v123 =>
  BinI .eql v123 (.int .i64 0) fun v124 =>
  Grd v124 true (BinI .neq v74 (.int .i64 0) fun v127 =>
  Grd v127 false (FnV pg (.func (.func 19) #[] #[]) #[v18] fun v130 =>
  BinI .sub a0 v13_1 fun v133 =>
  BinI .add v133 a1 fun v135 =>
  BinI .eql v130 v135 fun v136 =>
  Grd v136 true (FnV pg (.func (.func 9) #[] #[]) #[] fun v140 =>
  KR v140)
  (KR (.bool false)))
  (FnV pg (.func (.func 9) #[] #[]) #[] fun v140_1 =>
  KR v140_1))
  (KR (.bool false))))
  (KR (.bool false))))
  fun vK =>
  BinI .eql v88 (.int .i64 0) fun v98 =>
  Cnd v98 (BinI .add v13 a2 fun v101 =>
  vK [v101])
  (vK [v13]))))
  fun vK_1 =>
  BinI .eql v74 (.int .i64 0) fun v82 =>
  Cnd v82 (vK_1 [a1])
  (vK_1 [(.int .i64 0)]))))
  (KR (.bool false))))
  (EqP true v18 (.pointer none) fun v42_1 =>
  Grd v42_1 false (BinI .lss a0 (.int .i64 0) fun v45_1 =>
  Grd v45_1 false (BinI .gtr a0 (.int .i64 65536) fun v49_1 =>
  Grd v49_1 true (FnV pg (.func (.func 9) #[] #[]) #[] fun v52_3 =>
  KR v52_3)
  (KR (.bool false)))
  (FnV pg (.func (.func 9) #[] #[]) #[] fun v52_4 =>
  KR v52_4))
  (FnV pg (.func (.func 9) #[] #[]) #[] fun v52_5 =>
  KR v52_5)))
  (EqP true v18 (.pointer none) fun v42_2 =>
  Grd v42_2 false (BinI .lss a0 (.int .i64 0) fun v45_2 =>
  Grd v45_2 false (BinI .gtr a0 (.int .i64 65536) fun v49_2 =>
  Grd v49_2 true (FnV pg (.func (.func 9) #[] #[]) #[] fun v52_6 =>
  KR v52_6)
  (KR (.bool false)))
  (FnV pg (.func (.func 9) #[] #[]) #[] fun v52_7 =>
  KR v52_7))
  (FnV pg (.func (.func 9) #[] #[]) #[] fun v52_8 =>
  KR v52_8)))
  (EqP true v18 (.pointer none) fun v42_3 =>
  Grd v42_3 false (BinI .lss a0 (.int .i64 0) fun v45_3 =>
  Grd v45_3 false (BinI .gtr a0 (.int .i64 65536) fun v49_3 =>
  Grd v49_3 true (FnV pg (.func (.func 9) #[] #[]) #[] fun v52_9 =>
  KR v52_9)
  (KR (.bool false)))
  (FnV pg (.func (.func 9) #[] #[]) #[] fun v52_10 =>
  KR v52_10))
  (FnV pg (.func (.func 9) #[] #[]) #[] fun v52_11 =>
  KR v52_11)))
  (EqP true v18 (.pointer none) fun v42_4 =>
  Grd v42_4 false (BinI .lss a0 (.int .i64 0) fun v45_4 =>
  Grd v45_4 false (BinI .gtr a0 (.int .i64 65536) fun v49_4 =>
  Grd v49_4 true (FnV pg (.func (.func 9) #[] #[]) #[] fun v52_12 =>
  KR v52_12)
  (KR (.bool false)))
  (FnV pg (.func (.func 9) #[] #[]) #[] fun v52_13 =>
  KR v52_13))
  (FnV pg (.func (.func 9) #[] #[]) #[] fun v52_14 =>
  KR v52_14)))
  (EqP true v18 (.pointer none) fun v42_5 =>
  Grd v42_5 false (BinI .lss a0 (.int .i64 0) fun v45_5 =>
  Grd v45_5 false (BinI .gtr a0 (.int .i64 65536) fun v49_5 =>
  Grd v49_5 true (FnV pg (.func (.func 9) #[] #[]) #[] fun v52_15 =>
  KR v52_15)
  (KR (.bool false)))
  (FnV pg (.func (.func 9) #[] #[]) #[] fun v52_16 =>
  KR v52_16))
  (FnV pg (.func (.func 9) #[] #[]) #[] fun v52_17 =>
  KR v52_17))
theorem V.jacinthlaw08_VmoRoom_ok {a0 a1 a2 : Value} {K : Value → WP} {w : World} (h : V.jacinthlaw08_VmoRoom a0 a1 a2 K w) : Cl pg 5 #[a0, a1, a2] K w :=
  cl_of pg_mixed Try.func5 (args := [a0, a1, a2]) (by kernel_rfl) (by rw [show WF pg Try.f5 [a0, a1, a2] K = V.jacinthlaw08_VmoRoom a0 a1 a2 K from by kernel_rfl]; exact h)

def V.jacinthlaw08_VmoSizes (a0 a1 a2 : Value) (KR : Value → WP) : WP :=
  FnV pg (.func (.func 8) #[] #[]) #[(.int .i64 100), (.int .i64 2)] fun v23 =>
  EqP false v23 (.pointer none) fun v25 =>
  Grd v25 false (LenS a2 fun v28 =>
  BinI .gtr v28 (.int .i64 200) fun v29 =>
  Cnd v29 (EqP true v23 (.pointer none) fun v32 =>
  Grd v32 true (FnV pg (.func (.func 9) #[] #[]) #[] fun v34 =>
  KR v34)
  (KR (.bool false)))
  (FnV pg (.func (.func 10) #[] #[]) #[v23, a0] fun v39 =>
  Ext v39 0 fun v40 =>
  Ext v39 1 fun v41 =>
  BinI .lss a0 (.int .i64 0) fun v43 =>
  Grd v43 false (BinI .gtr a0 (.int .i64 4294967296) fun v46 =>
  Cnd v46 (BinI .neq v41 (.int .i64 0) fun v49 =>
  Grd v49 true (BinI .eql v40 (.int .i64 0) fun v52 =>
  Grd v52 true (FnV pg (.func (.func 20) #[] #[]) #[v23] fun v56 =>
  BinI .eql v56 (.int .i64 0) fun v57 =>
  Grd v57 true (FnV pg (.func (.func 9) #[] #[]) #[] fun v60 =>
  KR v60)
  (KR (.bool false)))
  (KR (.bool false)))
  (KR (.bool false)))
  (BinI .add a0 (.int .i64 63) fun v63 =>
  BinI .quo v63 (.int .i64 64) fun v64 =>
  BinI .mul v64 (.int .i64 64) fun v65 =>
  FnV pg (.func (.func 17) #[] #[]) #[v23, v40] fun v69 =>
  Ext v69 0 fun v70 =>
  Ext v69 1 fun _ =>
  New 39 #[(.int .i64 0), (.int .i64 0), (.int .i64 0), (.int .i64 0), (.bool false), (.bool false)] fun v11 =>
  St 6 v11 v70 fun _ =>
  BinI .neq v41 (.int .i64 0) fun v73 =>
  Grd v73 false (FA v11 0 fun v75 =>
  Ld1 v75 fun v76 =>
  BinI .neq v76 v65 fun v78 =>
  Cnd v78 (KR (.bool false))
  (FnV pg (.func (.func 11) #[] #[]) #[v23, v40, (.int .i64 0), a2] fun v83 =>
  BinI .eql v83 (.int .i64 0) fun v85 =>
  LenS a2 fun v87 =>
  BinI .leq v87 v65 fun v89 =>
  EqB true v85 v89 fun v90 =>
  Cnd v90 (KR (.bool false))
  (FnV pg (.func (.func 21) #[] #[]) #[v23, v40, a1] fun v94 =>
  BinI .lss a1 (.int .i64 0) fun v96 =>
  Grd v96 false (BinI .gtr a1 (.int .i64 4294967296) fun v99 =>
  Grd v99 false (BinI .neq v83 (.int .i64 0) fun v103 =>
  Cnd v103 (BinI .eql v94 (.int .i64 0) fun v106 =>
  BinI .geq a1 (.int .i64 0) fun v108 =>
  Grd v108 true (BinI .leq a1 (.int .i64 4294967296) fun v111 =>
  EqB false v106 v111 fun v113 =>
  Grd v113 true (FnV pg (.func (.func 9) #[] #[]) #[] fun v115 =>
  KR v115)
  (KR (.bool false)))
  (EqB false v106 (.bool false) fun v113_1 =>
  Grd v113_1 true (FnV pg (.func (.func 9) #[] #[]) #[] fun v115_1 =>
  KR v115_1)
  (KR (.bool false))))
  (BinI .add a1 (.int .i64 63) fun v118 =>
  BinI .quo v118 (.int .i64 64) fun v119 =>
  BinI .mul v119 (.int .i64 64) fun v120 =>
  LenS a2 fun v122 =>
  Ex pg (Builtin.min_ #[3, 3] 3 #[v122, v120]) fun v124 =>
  FnV pg (.func (.func 12) #[] #[]) #[v23, v40, (.int .i64 0), v124] fun v129 =>
  Ext v129 0 fun v130 =>
  Ext v129 1 fun v131 =>
  BinI .neq v94 (.int .i64 0) fun v133 =>
  Grd v133 false (BinI .neq v131 (.int .i64 0) fun v136 =>
  Grd v136 false (SlC 1 a2 none (some v124) fun v142 =>
  FnV pg (.func (.func 15) #[] #[]) #[v130, v142] fun v143 =>
  Un .not v143 fun v144 =>
  Cnd v144 (KR (.bool false))
  (FnV pg (.func (.func 21) #[] #[]) #[v23, v40, (.int .i64 1048576)] fun v148 =>
  BinI .neq v148 (.int .i64 0) fun v149 =>
  Cnd v149 (KR (.bool false))
  (FnV pg (.func (.func 12) #[] #[]) #[v23, v40, v124, (.int .i64 10)] fun v154 =>
  Ext v154 0 fun v155 =>
  Ext v154 1 fun _ =>
  LenS v155 fun v158 =>
  LoopC [(.bool false), (.int .i64 0)] fun vK vs => AllE <|
  UN vs fun v6 vs =>
  UN vs fun v159 _ =>
  BinI .lss v159 v158 fun v160 =>
  Cnd v160 (IA 1 v155 v159 fun v162 =>
  Ld1 v162 fun v163 =>
  BinI .add v124 v159 fun v166 =>
  BinI .lss v166 v120 fun v168 =>
  Grd v168 true (BinI .add v124 v159 fun v172 =>
  LenS a2 fun v174 =>
  BinI .lss v172 v174 fun v175 =>
  Cnd v175 (BinI .add v159 (.int .i64 1) fun v179 =>
  vK [v6, v179])
  (BinI .neq v163 (.int .u8 0) fun v178 =>
  Cnd v178 (KR (.bool false))
  (BinI .add v159 (.int .i64 1) fun v179_1 =>
  vK [v6, v179_1])))
  (BinI .neq v163 (.int .u8 0) fun v178_1 =>
  Cnd v178_1 (KR (.bool false))
  (BinI .add v159 (.int .i64 1) fun v179_2 =>
  vK [v6, v179_2])))
  (FnV pg (.func (.func 9) #[] #[]) #[] fun v180 =>
  KR v180))))
  (KR (.bool false)))
  (KR (.bool false))))
  (BinI .eql v94 (.int .i64 0) fun v106_1 =>
  BinI .geq a1 (.int .i64 0) fun v108_1 =>
  Grd v108_1 true (BinI .leq a1 (.int .i64 4294967296) fun v111_1 =>
  EqB false v106_1 v111_1 fun v113_2 =>
  Grd v113_2 true (FnV pg (.func (.func 9) #[] #[]) #[] fun v115_2 =>
  KR v115_2)
  (KR (.bool false)))
  (EqB false v106_1 (.bool false) fun v113_3 =>
  Grd v113_3 true (FnV pg (.func (.func 9) #[] #[]) #[] fun v115_3 =>
  KR v115_3)
  (KR (.bool false)))))
  (BinI .eql v94 (.int .i64 0) fun v106_2 =>
  BinI .geq a1 (.int .i64 0) fun v108_2 =>
  Grd v108_2 true (BinI .leq a1 (.int .i64 4294967296) fun v111_2 =>
  EqB false v106_2 v111_2 fun v113_4 =>
  Grd v113_4 true (FnV pg (.func (.func 9) #[] #[]) #[] fun v115_4 =>
  KR v115_4)
  (KR (.bool false)))
  (EqB false v106_2 (.bool false) fun v113_5 =>
  Grd v113_5 true (FnV pg (.func (.func 9) #[] #[]) #[] fun v115_5 =>
  KR v115_5)
  (KR (.bool false)))))))
  (KR (.bool false))))
  (BinI .neq v41 (.int .i64 0) fun v49_1 =>
  Grd v49_1 true (BinI .eql v40 (.int .i64 0) fun v52_1 =>
  Grd v52_1 true (FnV pg (.func (.func 20) #[] #[]) #[v23] fun v56_1 =>
  BinI .eql v56_1 (.int .i64 0) fun v57_1 =>
  Grd v57_1 true (FnV pg (.func (.func 9) #[] #[]) #[] fun v60_1 =>
  KR v60_1)
  (KR (.bool false)))
  (KR (.bool false)))
  (KR (.bool false)))))
  (EqP true v23 (.pointer none) fun v32_1 =>
  Grd v32_1 true (FnV pg (.func (.func 9) #[] #[]) #[] fun v34_1 =>
  KR v34_1)
  (KR (.bool false)))
theorem V.jacinthlaw08_VmoSizes_ok {a0 a1 a2 : Value} {K : Value → WP} {w : World} (h : V.jacinthlaw08_VmoSizes a0 a1 a2 K w) : Cl pg 6 #[a0, a1, a2] K w :=
  cl_of pg_mixed Try.func6 (args := [a0, a1, a2]) (by kernel_rfl) (by rw [show WF pg Try.f6 [a0, a1, a2] K = V.jacinthlaw08_VmoSizes a0 a1 a2 K from by kernel_rfl]; exact h)

def V.jacinthlaw08_VmoEnds (a0 a1 : Value) (KR : Value → WP) : WP :=
  FnV pg (.func (.func 8) #[] #[]) #[(.int .i64 256), (.int .i64 40)] fun v15 =>
  New 25 #[(.pointer none)] fun v5 =>
  St 1 v5 v15 fun _ =>
  Ld1 v5 fun v16 =>
  EqP false v16 (.pointer none) fun v17 =>
  Grd v17 false (LenS a0 fun v20 =>
  BinI .gtr v20 (.int .i64 60) fun v21 =>
  Grd v21 false (LenS a1 fun v25 =>
  BinI .gtr v25 (.int .i64 200) fun v26 =>
  Cnd v26 (Ld1 v5 fun v28 =>
  EqP true v28 (.pointer none) fun v29 =>
  Grd v29 true (FnV pg (.func (.func 9) #[] #[]) #[] fun v31 =>
  KR v31)
  (KR (.bool false)))
  (LenS a0 fun v34 =>
  LoopC [(.bool false), (.int .i64 0), (.int .i64 0)] fun vK vs => AllE <|
  UN vs fun v4 vs =>
  UN vs fun v6 vs =>
  UN vs fun v35 _ =>
  BinI .lss v35 v34 fun v36 =>
  Cnd v36 (IA 6 a0 v35 fun v37 =>
  LdN 6 v37 fun v38 =>
  New 51 #[(.int .i64 0), (.int .i64 0), (.int .i64 0), (.int .i64 0), (.int .i64 0), (.slice none 0 0)] fun v8 =>
  St 6 v8 v38 fun _ =>
  FA v8 5 fun v39 =>
  Ld1 v39 fun v40 =>
  LenS v40 fun v41 =>
  BinI .gtr v41 (.int .i64 200) fun v42 =>
  Cnd v42 (FnV pg (.func (.func 9) #[] #[]) #[] fun v43 =>
  KR v43)
  (FA v8 0 fun v44 =>
  Ld1 v44 fun v45 =>
  BinI .eql v45 (.int .i64 1) fun v47 =>
  Cnd v47 (Ld1 v5 fun v49 =>
  FA v8 4 fun v50 =>
  Ld1 v50 fun v51 =>
  FnV pg (.func (.func 10) #[] #[]) #[v49, v51] fun v52 =>
  Ext v52 0 fun v53 =>
  Ext v52 1 fun _ =>
  Ex pg (Builtin.max_ #[3, 3] 3 #[v6, v53]) fun v93 =>
  BinI .add v35 (.int .i64 1) fun v94 =>
  vK [v4, v93, v94])
  (BinI .eql v45 (.int .i64 3) fun v56 =>
  Cnd v56 (Ld1 v5 fun v57 =>
  FA v8 1 fun v58 =>
  Ld1 v58 fun v59 =>
  FA v8 3 fun v60 =>
  Ld1 v60 fun v61 =>
  FA v8 5 fun v62 =>
  Ld1 v62 fun v63 =>
  FnV pg (.func (.func 11) #[] #[]) #[v57, v59, v61, v63] fun _ =>
  Ex pg (Builtin.max_ #[3, 3] 3 #[v6, (.int .i64 0)]) fun v93_1 =>
  BinI .add v35 (.int .i64 1) fun v94_1 =>
  vK [v4, v93_1, v94_1])
  (BinI .eql v45 (.int .i64 6) fun v66 =>
  Cnd v66 (Ld1 v5 fun v68 =>
  FA v8 1 fun v69 =>
  Ld1 v69 fun v70 =>
  FA v8 3 fun v71 =>
  Ld1 v71 fun v72 =>
  FA v8 4 fun v73 =>
  Ld1 v73 fun v74 =>
  FnV pg (.func (.func 13) #[] #[]) #[v68, v70, v72, v74] fun v75 =>
  Ext v75 0 fun v76 =>
  Ext v75 1 fun _ =>
  Ex pg (Builtin.max_ #[3, 3] 3 #[v6, v76]) fun v93_2 =>
  BinI .add v35 (.int .i64 1) fun v94_2 =>
  vK [v4, v93_2, v94_2])
  (BinI .eql v45 (.int .i64 7) fun v79 =>
  Cnd v79 (Ld1 v5 fun v81 =>
  FA v8 1 fun v82 =>
  Ld1 v82 fun v83 =>
  FA v8 3 fun v84 =>
  Ld1 v84 fun v85 =>
  FA v8 4 fun v86 =>
  Ld1 v86 fun v87 =>
  FnV pg (.func (.func 14) #[] #[]) #[v81, v83, v85, v87] fun v88 =>
  Ext v88 0 fun v89 =>
  Ext v88 1 fun _ =>
  Ex pg (Builtin.max_ #[3, 3] 3 #[v6, v89]) fun v93_3 =>
  BinI .add v35 (.int .i64 1) fun v94_3 =>
  vK [v4, v93_3, v94_3])
  (Ex pg (Builtin.max_ #[3, 3] 3 #[v6, (.int .i64 0)]) fun v93_4 =>
  BinI .add v35 (.int .i64 1) fun v94_4 =>
  vK [v4, v93_4, v94_4]))))))
  (New 49 #[(.slice none 0 0)] fun v10 =>
  LenS a1 fun v97 =>
  LoopC [v4, (.int .i64 0)] fun vK_1 vs => AllE <|
  UN vs fun v4_1 vs =>
  UN vs fun v98 _ =>
  BinI .lss v98 v97 fun v99 =>
  Cnd v99 (IA 1 a1 v98 fun v100 =>
  Ld1 v100 fun v101 =>
  FnV pg (.func (.func 22) #[] #[v5, v10]) #[v101] fun v104 =>
  Un .not v104 fun v105 =>
  Cnd v105 (KR (.bool false))
  (BinI .add v98 (.int .i64 1) fun v106 =>
  vK_1 [v4_1, v106]))
  (LoopC [v4_1, (.int .i64 0)] fun vK_2 vs => AllE <|
  UN vs fun v4_2 vs =>
  UN vs fun v108 _ =>
  BinI .lss v108 v6 fun v109 =>
  Cnd v109 (BinI .add v108 (.int .i64 1) fun v113 =>
  FnV pg (.func (.func 22) #[] #[v5, v10]) #[v113] fun v114 =>
  Un .not v114 fun v115 =>
  Cnd v115 (KR (.bool false))
  (BinI .add v108 (.int .i64 1) fun v116 =>
  vK_2 [v4_2, v116]))
  (Ld1 v10 fun v117 =>
  LenS v117 fun v118 =>
  BinI .eql v118 v6 fun v120 =>
  Grd v120 true (Ld1 v5 fun v122 =>
  FnV pg (.func (.func 20) #[] #[]) #[v122] fun v123 =>
  BinI .eql v123 (.int .i64 0) fun v124 =>
  Grd v124 true (Ld1 v5 fun v127 =>
  FnV pg (.func (.func 19) #[] #[]) #[v127] fun v128 =>
  BinI .eql v128 (.int .i64 256) fun v129 =>
  Grd v129 true (FnV pg (.func (.func 9) #[] #[]) #[] fun v132 =>
  KR v132)
  (KR (.bool false)))
  (KR (.bool false)))
  (KR (.bool false)))))))
  (Ld1 v5 fun v28_1 =>
  EqP true v28_1 (.pointer none) fun v29_1 =>
  Grd v29_1 true (FnV pg (.func (.func 9) #[] #[]) #[] fun v31_1 =>
  KR v31_1)
  (KR (.bool false))))
  (Ld1 v5 fun v28_2 =>
  EqP true v28_2 (.pointer none) fun v29_2 =>
  Grd v29_2 true (FnV pg (.func (.func 9) #[] #[]) #[] fun v31_2 =>
  KR v31_2)
  (KR (.bool false)))
theorem V.jacinthlaw08_VmoEnds_ok {a0 a1 : Value} {K : Value → WP} {w : World} (h : V.jacinthlaw08_VmoEnds a0 a1 K w) : Cl pg 7 #[a0, a1] K w :=
  cl_of pg_mixed Try.func7 (args := [a0, a1]) (by kernel_rfl) (by rw [show WF pg Try.f7 [a0, a1] K = V.jacinthlaw08_VmoEnds a0 a1 K from by kernel_rfl]; exact h)

def V.vmo_New (a0 a1 : Value) (KR : Value → WP) : WP :=
  FnV pg (.func (.func 24) #[] #[]) #[a0] fun v7 =>
  EqP false v7 (.pointer none) fun v9 =>
  Grd v9 false (BinI .lss a1 (.int .i64 0) fun v12 =>
  Grd v12 false (BinI .gtr a1 (.int .i64 65536) fun v16 =>
  Cnd v16 (KR (.pointer none))
  (Ex pg (Instr.makeMap 58 none) fun v19 =>
  Ex pg (bldS #[(.pointer none), (.map none), (.int .i64 0), (.int .i64 0)] [(0, 1), (1, 1), (2, 1), (3, 1)] #[(0, v7), (1, v19), (2, a1)]) fun v21 =>
  New 60 (Value.cells v21) fun v22 =>
  KR v22))
  (KR (.pointer none)))
  (KR (.pointer none))
theorem V.vmo_New_ok {a0 a1 : Value} {K : Value → WP} {w : World} (h : V.vmo_New a0 a1 K w) : Cl pg 8 #[a0, a1] K w :=
  cl_of pg_mixed Try.func8 (args := [a0, a1]) (by kernel_rfl) (by rw [show WF pg Try.f8 [a0, a1] K = V.vmo_New a0 a1 K from by kernel_rfl]; exact h)

def V.jacinthlaw08_awake (KR : Value → WP) : WP :=
  FnV pg (.func (.func 8) #[] #[]) #[(.int .i64 4), (.int .i64 4)] fun v8 =>
  EqP false v8 (.pointer none) fun v10 =>
  Cnd v10 (KR (.bool false))
  (FnV pg (.func (.func 10) #[] #[]) #[v8, (.int .i64 100)] fun v13 =>
  Ext v13 0 fun v14 =>
  Ext v13 1 fun v15 =>
  FnV pg (.func (.func 17) #[] #[]) #[v8, v14] fun v19 =>
  Ext v19 0 fun v20 =>
  Ext v19 1 fun v21 =>
  New 39 #[(.int .i64 0), (.int .i64 0), (.int .i64 0), (.int .i64 0), (.bool false), (.bool false)] fun v4 =>
  St 6 v4 v20 fun _ =>
  FnV pg (.func (.func 12) #[] #[]) #[v8, v14, (.int .i64 0), (.int .i64 2)] fun v25 =>
  Ext v25 0 fun v26 =>
  Ext v25 1 fun v27 =>
  BinI .eql v15 (.int .i64 0) fun v29 =>
  Grd v29 true (BinI .eql v14 (.int .i64 1) fun v32 =>
  Grd v32 true (Grd v21 true (FA v4 0 fun v38 =>
  Ld1 v38 fun v39 =>
  BinI .eql v39 (.int .i64 128) fun v40 =>
  Grd v40 true (BinI .eql v27 (.int .i64 0) fun v44 =>
  Grd v44 true (LenS v26 fun v48 =>
  BinI .eql v48 (.int .i64 2) fun v49 =>
  Grd v49 true (BSlC 5 1 #[(.int .u8 0)] 2 #[(0, (.int .u8 97)), (1, (.int .u8 98))] fun v53 =>
  Ex pg (convert 22 22 v53) fun v54 =>
  FnV pg (.func (.func 11) #[] #[]) #[v8, (.int .i64 1), (.int .i64 0), v54] fun v55 =>
  BinI .eql v55 (.int .i64 0) fun v56 =>
  Grd v56 true (FnV pg (.func (.func 19) #[] #[]) #[v8] fun v60 =>
  BinI .eql v60 (.int .i64 3) fun v61 =>
  KR v61)
  (KR (.bool false)))
  (KR (.bool false)))
  (KR (.bool false)))
  (KR (.bool false)))
  (KR (.bool false)))
  (KR (.bool false)))
  (KR (.bool false)))
theorem V.jacinthlaw08_awake_ok {K : Value → WP} {w : World} (h : V.jacinthlaw08_awake  K w) : Cl pg 9 #[] K w :=
  cl_of pg_mixed Try.func9 (args := []) (by kernel_rfl) (by rw [show WF pg Try.f9 [] K = V.jacinthlaw08_awake  K from by kernel_rfl]; exact h)

def V.vmo_Set_Create (a0 a1 : Value) (KR : Value → WP) : WP :=
  FnV pg (.func (.func 25) #[] #[]) #[a1] fun v9 =>
  Ext v9 0 fun v10 =>
  Ext v9 1 fun v11 =>
  BinI .neq v11 (.int .i64 0) fun v13 =>
  Cnd v13 (KR (.tuple #[(.int .i64 0), v11]))
  (Ex pg (Instr.makeMap 63 none) fun v17 =>
  Ex pg (bldS #[(.int .i64 0), (.int .i64 0), (.map none), (.slice none 0 0), (.bool false), (.int .i64 0), (.int .i64 0), (.bool false)] [(0, 1), (1, 1), (2, 1), (3, 1), (4, 1), (5, 1), (6, 1), (7, 1)] #[(0, v10), (2, v17)]) fun v18 =>
  New 65 (Value.cells v18) fun v19 =>
  FnV pg (.func (.func 26) #[] #[]) #[a0, v19] fun v20 =>
  Ext v20 0 fun v21 =>
  Ext v20 1 fun v22 =>
  KR (.tuple #[v21, v22]))
theorem V.vmo_Set_Create_ok {a0 a1 : Value} {K : Value → WP} {w : World} (h : V.vmo_Set_Create a0 a1 K w) : Cl pg 10 #[a0, a1] K w :=
  cl_of pg_mixed Try.func10 (args := [a0, a1]) (by kernel_rfl) (by rw [show WF pg Try.f10 [a0, a1] K = V.vmo_Set_Create a0 a1 K from by kernel_rfl]; exact h)

def V.vmo_Set_Write (a0 a1 a2 a3 : Value) (KR : Value → WP) : WP :=
  FnV pg (.func (.func 27) #[] #[]) #[a0, a1] fun v13 =>
  EqP true v13 (.pointer none) fun v14 =>
  Grd v14 true (LenS a3 fun v17 =>
  BinI .gtr v17 (.int .i64 4096) fun v18 =>
  Cnd v18 (KR (.int .i64 (-10)))
  (LenS a3 fun v25 =>
  FnV pg (.func (.func 28) #[] #[]) #[a0, a1, a2, v25] fun v26 =>
  Ext v26 0 fun v27 =>
  Ext v26 1 fun v28 =>
  Ext v26 2 fun v29 =>
  BinI .neq v29 (.int .i64 0) fun v31 =>
  Cnd v31 (KR v29)
  (LenS a3 fun v37 =>
  FnV pg (.func (.func 30) #[] #[]) #[v28, v37] fun v38 =>
  FnV pg (.func (.func 29) #[] #[]) #[a0, v27, v38] fun v39 =>
  BinI .eql v39 (.int .i64 0) fun v41 =>
  Cnd v41 (FnV pg (.func (.func 31) #[] #[]) #[a0, v27, v28, a3] fun _ =>
  KR v39)
  (KR v39))))
  (LenS a3 fun v25_1 =>
  FnV pg (.func (.func 28) #[] #[]) #[a0, a1, a2, v25_1] fun v26_1 =>
  Ext v26_1 0 fun v27_1 =>
  Ext v26_1 1 fun v28_1 =>
  Ext v26_1 2 fun v29_1 =>
  BinI .neq v29_1 (.int .i64 0) fun v31_1 =>
  Cnd v31_1 (KR v29_1)
  (LenS a3 fun v37_1 =>
  FnV pg (.func (.func 30) #[] #[]) #[v28_1, v37_1] fun v38_1 =>
  FnV pg (.func (.func 29) #[] #[]) #[a0, v27_1, v38_1] fun v39_1 =>
  BinI .eql v39_1 (.int .i64 0) fun v41_1 =>
  Cnd v41_1 (FnV pg (.func (.func 31) #[] #[]) #[a0, v27_1, v28_1, a3] fun _ =>
  KR v39_1)
  (KR v39_1)))
theorem V.vmo_Set_Write_ok {a0 a1 a2 a3 : Value} {K : Value → WP} {w : World} (h : V.vmo_Set_Write a0 a1 a2 a3 K w) : Cl pg 11 #[a0, a1, a2, a3] K w :=
  cl_of pg_mixed Try.func11 (args := [a0, a1, a2, a3]) (by kernel_rfl) (by rw [show WF pg Try.f11 [a0, a1, a2, a3] K = V.vmo_Set_Write a0 a1 a2 a3 K from by kernel_rfl]; exact h)

def V.vmo_Set_Read (a0 a1 a2 a3 : Value) (KR : Value → WP) : WP :=
  FnV pg (.func (.func 27) #[] #[]) #[a0, a1] fun v20 =>
  EqP true v20 (.pointer none) fun v21 =>
  Grd v21 true (BinI .lss a3 (.int .i64 0) fun v24 =>
  Grd v24 false (BinI .gtr a3 (.int .i64 4096) fun v27 =>
  Cnd v27 (KR (.tuple #[(.slice none 0 0), (.int .i64 (-10))]))
  (FnV pg (.func (.func 28) #[] #[]) #[a0, a1, a2, a3] fun v35 =>
  Ext v35 0 fun v36 =>
  Ext v35 1 fun v37 =>
  Ext v35 2 fun v38 =>
  BinI .neq v38 (.int .i64 0) fun v40 =>
  Cnd v40 (KR (.tuple #[(.slice none 0 0), v38]))
  (MkSC 5 1 1 #[(.int .u8 0)] (.int .i64 0) a3 fun v43 =>
  LoopC [v43] fun vK vs => AllE <|
  UN vs fun v12 _ =>
  LenS v12 fun v45 =>
  BinI .lss v45 a3 fun v47 =>
  Cnd v47 (LenS v12 fun v50 =>
  BinI .add v37 v50 fun v51 =>
  BinI .rem v51 (.int .i64 64) fun v52 =>
  LenS v12 fun v55 =>
  BinI .sub a3 v55 fun v56 =>
  BinI .sub (.int .i64 64) v52 fun v58 =>
  Ex pg (Builtin.min_ #[3, 3] 3 #[v56, v58]) fun v59 =>
  MkSC 5 1 1 #[(.int .u8 0)] v59 v59 fun v61 =>
  NilC v36 fun v64 =>
  FA v64 2 fun v65 =>
  Ld1 v65 fun v66 =>
  LenS v12 fun v69 =>
  BinI .add v37 v69 fun v70 =>
  BinI .quo v70 (.int .i64 64) fun v71 =>
  Ex pg (Instr.lookup 63 v66 v71 true) fun v72 =>
  Ext v72 0 fun v73 =>
  Ext v72 1 fun v74 =>
  Cnd v74 (NilC a0 fun v78 =>
  FA v78 0 fun v79 =>
  Ld1 v79 fun v80 =>
  FnV pg (.func (.func 32) #[] #[]) #[v80, v73, v52, v59] fun v84 =>
  Ext v84 0 fun v85 =>
  Ext v84 1 fun _ =>
  AppC 5 1 1 #[(.int .u8 0)] v12 v85 fun v89 =>
  vK [v89])
  (AppC 5 1 1 #[(.int .u8 0)] v12 v61 fun v89_1 =>
  vK [v89_1]))
  (KR (.tuple #[v12, (.int .i64 0)])))))
  (KR (.tuple #[(.slice none 0 0), (.int .i64 (-10))])))
  (FnV pg (.func (.func 28) #[] #[]) #[a0, a1, a2, a3] fun v35_1 =>
  Ext v35_1 0 fun v36_1 =>
  Ext v35_1 1 fun v37_1 =>
  Ext v35_1 2 fun v38_1 =>
  BinI .neq v38_1 (.int .i64 0) fun v40_1 =>
  Cnd v40_1 (KR (.tuple #[(.slice none 0 0), v38_1]))
  (MkSC 5 1 1 #[(.int .u8 0)] (.int .i64 0) a3 fun v43_1 =>
  LoopC [v43_1] fun vK_1 vs => AllE <|
  UN vs fun v12_1 _ =>
  LenS v12_1 fun v45_1 =>
  BinI .lss v45_1 a3 fun v47_1 =>
  Cnd v47_1 (LenS v12_1 fun v50_1 =>
  BinI .add v37_1 v50_1 fun v51_1 =>
  BinI .rem v51_1 (.int .i64 64) fun v52_1 =>
  LenS v12_1 fun v55_1 =>
  BinI .sub a3 v55_1 fun v56_1 =>
  BinI .sub (.int .i64 64) v52_1 fun v58_1 =>
  Ex pg (Builtin.min_ #[3, 3] 3 #[v56_1, v58_1]) fun v59_1 =>
  MkSC 5 1 1 #[(.int .u8 0)] v59_1 v59_1 fun v61_1 =>
  NilC v36_1 fun v64_1 =>
  FA v64_1 2 fun v65_1 =>
  Ld1 v65_1 fun v66_1 =>
  LenS v12_1 fun v69_1 =>
  BinI .add v37_1 v69_1 fun v70_1 =>
  BinI .quo v70_1 (.int .i64 64) fun v71_1 =>
  Ex pg (Instr.lookup 63 v66_1 v71_1 true) fun v72_1 =>
  Ext v72_1 0 fun v73_1 =>
  Ext v72_1 1 fun v74_1 =>
  Cnd v74_1 (NilC a0 fun v78_1 =>
  FA v78_1 0 fun v79_1 =>
  Ld1 v79_1 fun v80_1 =>
  FnV pg (.func (.func 32) #[] #[]) #[v80_1, v73_1, v52_1, v59_1] fun v84_1 =>
  Ext v84_1 0 fun v85_1 =>
  Ext v84_1 1 fun _ =>
  AppC 5 1 1 #[(.int .u8 0)] v12_1 v85_1 fun v89_2 =>
  vK_1 [v89_2])
  (AppC 5 1 1 #[(.int .u8 0)] v12_1 v61_1 fun v89_3 =>
  vK_1 [v89_3]))
  (KR (.tuple #[v12_1, (.int .i64 0)]))))
theorem V.vmo_Set_Read_ok {a0 a1 a2 a3 : Value} {K : Value → WP} {w : World} (h : V.vmo_Set_Read a0 a1 a2 a3 K w) : Cl pg 12 #[a0, a1, a2, a3] K w :=
  cl_of pg_mixed Try.func12 (args := [a0, a1, a2, a3]) (by kernel_rfl) (by rw [show WF pg Try.f12 [a0, a1, a2, a3] K = V.vmo_Set_Read a0 a1 a2 a3 K from by kernel_rfl]; exact h)

def V.vmo_Set_Snapshot (a0 a1 a2 a3 : Value) (KR : Value → WP) : WP :=
  FnV pg (.func (.func 33) #[] #[]) #[a0, a1, a2, a3] fun v21 =>
  Ext v21 0 fun v22 =>
  Ext v21 1 fun v23 =>
  BinI .neq v23 (.int .i64 0) fun v26 =>
  Cnd v26 (KR (.tuple #[(.int .i64 0), v23]))
  (NilC v22 fun v30 =>
  FA v30 4 fun v31 =>
  Ld1 v31 fun v32 =>
  Cnd v32 (KR (.tuple #[(.int .i64 0), (.int .i64 (-2))]))
  (BinI .gtr a3 (.int .i64 4096) fun v35 =>
  Cnd v35 (KR (.tuple #[(.int .i64 0), (.int .i64 (-10))]))
  (Ex pg (Instr.makeMap 63 none) fun v38 =>
  Ex pg (bldS #[(.int .i64 0), (.int .i64 0), (.map none), (.slice none 0 0), (.bool false), (.int .i64 0), (.int .i64 0), (.bool false)] [(0, 1), (1, 1), (2, 1), (3, 1), (4, 1), (5, 1), (6, 1), (7, 1)] #[(0, a3), (1, a1), (2, v38)]) fun v39 =>
  New 65 (Value.cells v39) fun v40 =>
  FnV pg (.func (.func 26) #[] #[]) #[a0, v40] fun v44 =>
  Ext v44 0 fun v45 =>
  Ext v44 1 fun v46 =>
  BinI .neq v46 (.int .i64 0) fun v48 =>
  Cnd v48 (KR (.tuple #[(.int .i64 0), v46]))
  (FnV pg (.func (.func 30) #[] #[]) #[a2, a3] fun v52 =>
  LenS v52 fun v53 =>
  LoopC [(.int .i64 0)] fun vK vs => AllE <|
  UN vs fun v54 _ =>
  BinI .lss v54 v53 fun v55 =>
  Cnd v55 (IA 1 v52 v54 fun v57 =>
  Ld1 v57 fun v58 =>
  NilC v22 fun v61 =>
  FA v61 2 fun v62 =>
  Ld1 v62 fun v63 =>
  Ex pg (Instr.lookup 63 v63 v58 true) fun v65 =>
  Ext v65 0 fun v66 =>
  Ext v65 1 fun v67 =>
  Cnd v67 (NilC a0 fun v70 =>
  FA v70 0 fun v71 =>
  Ld1 v71 fun v72 =>
  FnV pg (.func (.func 34) #[] #[]) #[v72, v66] fun _ =>
  NilC v40 fun v76 =>
  FA v76 2 fun v77 =>
  Ld1 v77 fun v78 =>
  Ex pg (do Instr.mapUpdate 63 v78 v54 v66; pure undef) fun _ =>
  BinI .add v54 (.int .i64 1) fun v81 =>
  vK [v81])
  (BinI .add v54 (.int .i64 1) fun v81_1 =>
  vK [v81_1]))
  (KR (.tuple #[v45, (.int .i64 0)]))))))
theorem V.vmo_Set_Snapshot_ok {a0 a1 a2 a3 : Value} {K : Value → WP} {w : World} (h : V.vmo_Set_Snapshot a0 a1 a2 a3 K w) : Cl pg 13 #[a0, a1, a2, a3] K w :=
  cl_of pg_mixed Try.func13 (args := [a0, a1, a2, a3]) (by kernel_rfl) (by rw [show WF pg Try.f13 [a0, a1, a2, a3] K = V.vmo_Set_Snapshot a0 a1 a2 a3 K from by kernel_rfl]; exact h)

def V.vmo_Set_Slice (a0 a1 a2 a3 : Value) (KR : Value → WP) : WP :=
  FnV pg (.func (.func 33) #[] #[]) #[a0, a1, a2, a3] fun v16 =>
  Ext v16 0 fun v17 =>
  Ext v16 1 fun v18 =>
  BinI .neq v18 (.int .i64 0) fun v21 =>
  Cnd v21 (KR (.tuple #[(.int .i64 0), v18]))
  (NilC v17 fun v25 =>
  FA v25 6 fun v26 =>
  Ld1 v26 fun v27 =>
  BinI .geq v27 (.int .i64 16) fun v28 =>
  Cnd v28 (KR (.tuple #[(.int .i64 0), (.int .i64 (-2))]))
  (NilC v17 fun v34 =>
  FA v34 6 fun v35 =>
  Ld1 v35 fun v36 =>
  BinI .add v36 (.int .i64 1) fun v37 =>
  Ex pg (bldS #[(.int .i64 0), (.int .i64 0), (.map none), (.slice none 0 0), (.bool false), (.int .i64 0), (.int .i64 0), (.bool false)] [(0, 1), (1, 1), (2, 1), (3, 1), (4, 1), (5, 1), (6, 1), (7, 1)] #[(0, a3), (1, a1), (4, (.bool true)), (5, a2), (6, v37)]) fun v38 =>
  New 65 (Value.cells v38) fun v39 =>
  FnV pg (.func (.func 26) #[] #[]) #[a0, v39] fun v40 =>
  Ext v40 0 fun v41 =>
  Ext v40 1 fun v42 =>
  KR (.tuple #[v41, v42])))
theorem V.vmo_Set_Slice_ok {a0 a1 a2 a3 : Value} {K : Value → WP} {w : World} (h : V.vmo_Set_Slice a0 a1 a2 a3 K w) : Cl pg 14 #[a0, a1, a2, a3] K w :=
  cl_of pg_mixed Try.func14 (args := [a0, a1, a2, a3]) (by kernel_rfl) (by rw [show WF pg Try.f14 [a0, a1, a2, a3] K = V.vmo_Set_Slice a0 a1 a2 a3 K from by kernel_rfl]; exact h)

def V.jacinthref07_Same (a0 a1 : Value) (KR : Value → WP) : WP :=
  Ex pg (convert 22 9 a0) fun v6 =>
  Ex pg (convert 22 9 a1) fun v8 =>
  BinX pg .eql 9 (.tmp 6) (.tmp 8) v6 v8 fun v9 =>
  KR v9
theorem V.jacinthref07_Same_ok {a0 a1 : Value} {K : Value → WP} {w : World} (h : V.jacinthref07_Same a0 a1 K w) : Cl pg 15 #[a0, a1] K w :=
  cl_of pg_mixed Try.func15 (args := [a0, a1]) (by kernel_rfl) (by rw [show WF pg Try.f15 [a0, a1] K = V.jacinthref07_Same a0 a1 K from by kernel_rfl]; exact h)

def V.jacinthref07_Copy (a0 : Value) (KR : Value → WP) : WP :=
  AppC 5 1 1 #[(.int .u8 0)] (.slice none 0 0) a0 fun v6 =>
  KR v6
theorem V.jacinthref07_Copy_ok {a0 : Value} {K : Value → WP} {w : World} (h : V.jacinthref07_Copy a0 K w) : Cl pg 16 #[a0] K w :=
  cl_of pg_mixed Try.func16 (args := [a0]) (by kernel_rfl) (by rw [show WF pg Try.f16 [a0] K = V.jacinthref07_Copy a0 K from by kernel_rfl]; exact h)

def V.vmo_Set_Info (a0 a1 : Value) (KR : Value → WP) : WP :=
  New 39 #[(.int .i64 0), (.int .i64 0), (.int .i64 0), (.int .i64 0), (.bool false), (.bool false)] fun v4 =>
  NilC a0 fun v8 =>
  FA v8 1 fun v9 =>
  Ld1 v9 fun v10 =>
  Ex pg (Instr.lookup 58 v10 a1 false) fun v12 =>
  EqP false v12 (.pointer none) fun v14 =>
  Cnd v14 (Ex pg (bldS #[(.int .i64 0), (.int .i64 0), (.int .i64 0), (.int .i64 0), (.bool false), (.bool false)] [(0, 1), (1, 1), (2, 1), (3, 1), (4, 1), (5, 1)] #[]) fun v15 =>
  St 6 v4 v15 fun _ =>
  LdN 6 v4 fun vr =>
  KR (.tuple #[vr, (.bool false)]))
  (Drw <| QtC fun I =>
  QE I (fun KK => NilC v12 fun v17 =>
  KK v17) fun v17_1 =>
  QE I (fun KK => FA v17_1 0 fun v18 =>
  KK v18) fun v18_1 =>
  QE I (fun KK => Ld1 v18_1 fun v19 =>
  KK v19) fun v19_1 =>
  QE I (fun KK => NilC v12 fun v21 =>
  KK v21) fun v21_1 =>
  QE I (fun KK => FA v21_1 1 fun v22 =>
  KK v22) fun v22_1 =>
  QE I (fun KK => Ld1 v22_1 fun v23 =>
  KK v23) fun v23_1 =>
  QE I (fun KK => NilC v12 fun v25 =>
  KK v25) fun v25_1 =>
  QE I (fun KK => FA v25_1 3 fun v26 =>
  KK v26) fun v26_1 =>
  QE I (fun KK => Ld1 v26_1 fun v27 =>
  KK v27) fun v27_1 =>
  QE I (fun KK => LenS v27_1 fun v28 =>
  KK v28) fun v28_1 =>
  QE I (fun KK => NilC v12 fun v30 =>
  KK v30) fun v30_1 =>
  QE I (fun KK => FA v30_1 2 fun v31 =>
  KK v31) fun v31_1 =>
  QE I (fun KK => Ld1 v31_1 fun v32 =>
  KK v32) fun v32_1 =>
  QE I (fun KK => Ex pg (Builtin.len_ #[63] 3 #[v32_1]) fun v33 =>
  KK v33) fun v33_1 =>
  QE I (fun KK => NilC v12 fun v35 =>
  KK v35) fun v35_1 =>
  QE I (fun KK => FA v35_1 4 fun v36 =>
  KK v36) fun v36_1 =>
  QE I (fun KK => Ld1 v36_1 fun v37 =>
  KK v37) fun v37_1 =>
  QE I (fun KK => NilC v12 fun v39 =>
  KK v39) fun v39_1 =>
  QE I (fun KK => FA v39_1 7 fun v40 =>
  KK v40) fun v40_1 =>
  QE I (fun KK => Ld1 v40_1 fun v41 =>
  KK v41) fun v41_1 =>
  Ex pg (bldS #[(.int .i64 0), (.int .i64 0), (.int .i64 0), (.int .i64 0), (.bool false), (.bool false)] [(0, 1), (1, 1), (2, 1), (3, 1), (4, 1), (5, 1)] #[(0, v19_1), (1, v23_1), (2, v28_1), (3, v33_1), (4, v37_1), (5, v41_1)]) fun v42 =>
  St 6 v4 v42 fun _ =>
  LdN 6 v4 fun vr_1 =>
  KR (.tuple #[vr_1, (.bool true)]))
theorem V.vmo_Set_Info_ok {a0 a1 : Value} {K : Value → WP} {w : World} (h : V.vmo_Set_Info a0 a1 K w) : Cl pg 17 #[a0, a1] K w :=
  cl_of pg_mixed Try.func17 (args := [a0, a1]) (by kernel_rfl) (by rw [show WF pg Try.f17 [a0, a1] K = V.vmo_Set_Info a0 a1 K from by kernel_rfl]; exact h)

def V.vmo_Set_Op (a0 a1 a2 a3 a4 : Value) (KR : Value → WP) : WP :=
  FnV pg (.func (.func 27) #[] #[]) #[a0, a1] fun v17 =>
  EqP false v17 (.pointer none) fun v18 =>
  Cnd v18 (KR (.int .i64 (-25)))
  (BinI .lss a2 (.int .i64 1) fun v20 =>
  Grd v20 false (BinI .gtr a2 (.int .i64 3) fun v23 =>
  Grd v23 false (BinI .neq a2 (.int .i64 3) fun v27 =>
  Grd v27 true (BinI .rem a3 (.int .i64 64) fun v30 =>
  BinI .neq v30 (.int .i64 0) fun v31 =>
  Grd v31 false (BinI .rem a4 (.int .i64 64) fun v34 =>
  BinI .neq v34 (.int .i64 0) fun v35 =>
  Cnd v35 (KR (.int .i64 (-10)))
  (FnV pg (.func (.func 28) #[] #[]) #[a0, a1, a3, a4] fun v44 =>
  Ext v44 0 fun v45 =>
  Ext v44 1 fun v46 =>
  Ext v44 2 fun v47 =>
  BinI .neq v47 (.int .i64 0) fun v50 =>
  Cnd v50 (KR v47)
  (BinI .gtr a4 (.int .i64 4096) fun v54 =>
  Cnd v54 (KR (.int .i64 (-10)))
  (BinI .eql a2 (.int .i64 1) fun v57 =>
  Cnd v57 (FnV pg (.func (.func 30) #[] #[]) #[v46, a4] fun v62 =>
  FnV pg (.func (.func 29) #[] #[]) #[a0, v45, v62] fun v63 =>
  KR v63)
  (BinI .eql a2 (.int .i64 3) fun v66 =>
  Cnd v66 (FnV pg (.func (.func 35) #[] #[]) #[a0, v45, v46, a4] fun v71 =>
  KR v71)
  (FnV pg (.func (.func 30) #[] #[]) #[v46, a4] fun v74 =>
  LenS v74 fun v75 =>
  LoopC [(.int .i64 0)] fun vK vs => AllE <|
  UN vs fun v76 _ =>
  BinI .lss v76 v75 fun v77 =>
  Cnd v77 (IA 1 v74 v76 fun v78 =>
  Ld1 v78 fun v79 =>
  FnV pg (.func (.func 36) #[] #[]) #[a0, v45, v79] fun _ =>
  BinI .add v76 (.int .i64 1) fun v84 =>
  vK [v84])
  (KR (.int .i64 0))))))))
  (KR (.int .i64 (-10))))
  (FnV pg (.func (.func 28) #[] #[]) #[a0, a1, a3, a4] fun v44_1 =>
  Ext v44_1 0 fun v45_1 =>
  Ext v44_1 1 fun v46_1 =>
  Ext v44_1 2 fun v47_1 =>
  BinI .neq v47_1 (.int .i64 0) fun v50_1 =>
  Cnd v50_1 (KR v47_1)
  (BinI .gtr a4 (.int .i64 4096) fun v54_1 =>
  Cnd v54_1 (KR (.int .i64 (-10)))
  (BinI .eql a2 (.int .i64 1) fun v57_1 =>
  Cnd v57_1 (FnV pg (.func (.func 30) #[] #[]) #[v46_1, a4] fun v62_1 =>
  FnV pg (.func (.func 29) #[] #[]) #[a0, v45_1, v62_1] fun v63_1 =>
  KR v63_1)
  (BinI .eql a2 (.int .i64 3) fun v66_1 =>
  Cnd v66_1 (FnV pg (.func (.func 35) #[] #[]) #[a0, v45_1, v46_1, a4] fun v71_1 =>
  KR v71_1)
  (FnV pg (.func (.func 30) #[] #[]) #[v46_1, a4] fun v74_1 =>
  LenS v74_1 fun v75_1 =>
  LoopC [(.int .i64 0)] fun vK_1 vs => AllE <|
  UN vs fun v76_1 _ =>
  BinI .lss v76_1 v75_1 fun v77_1 =>
  Cnd v77_1 (IA 1 v74_1 v76_1 fun v78_1 =>
  Ld1 v78_1 fun v79_1 =>
  FnV pg (.func (.func 36) #[] #[]) #[a0, v45_1, v79_1] fun _ =>
  BinI .add v76_1 (.int .i64 1) fun v84_1 =>
  vK_1 [v84_1])
  (KR (.int .i64 0))))))))
  (KR (.int .i64 (-10))))
  (KR (.int .i64 (-10))))
theorem V.vmo_Set_Op_ok {a0 a1 a2 a3 a4 : Value} {K : Value → WP} {w : World} (h : V.vmo_Set_Op a0 a1 a2 a3 a4 K w) : Cl pg 18 #[a0, a1, a2, a3, a4] K w :=
  cl_of pg_mixed Try.func18 (args := [a0, a1, a2, a3, a4]) (by kernel_rfl) (by rw [show WF pg Try.f18 [a0, a1, a2, a3, a4] K = V.vmo_Set_Op a0 a1 a2 a3 a4 K from by kernel_rfl]; exact h)

def V.vmo_Set_Room (a0 : Value) (KR : Value → WP) : WP :=
  NilC a0 fun v4 =>
  FA v4 0 fun v5 =>
  Ld1 v5 fun v6 =>
  FnV pg (.func (.func 37) #[] #[]) #[v6] fun v7 =>
  KR v7
theorem V.vmo_Set_Room_ok {a0 : Value} {K : Value → WP} {w : World} (h : V.vmo_Set_Room a0 K w) : Cl pg 19 #[a0] K w :=
  cl_of pg_mixed Try.func19 (args := [a0]) (by kernel_rfl) (by rw [show WF pg Try.f19 [a0] K = V.vmo_Set_Room a0 K from by kernel_rfl]; exact h)

def V.vmo_Set_Count (a0 : Value) (KR : Value → WP) : WP :=
  NilC a0 fun v4 =>
  FA v4 1 fun v5 =>
  Ld1 v5 fun v6 =>
  Ex pg (Builtin.len_ #[58] 3 #[v6]) fun v7 =>
  KR v7
theorem V.vmo_Set_Count_ok {a0 : Value} {K : Value → WP} {w : World} (h : V.vmo_Set_Count a0 K w) : Cl pg 20 #[a0] K w :=
  cl_of pg_mixed Try.func20 (args := [a0]) (by kernel_rfl) (by rw [show WF pg Try.f20 [a0] K = V.vmo_Set_Count a0 K from by kernel_rfl]; exact h)

def V.vmo_Set_Resize (a0 a1 a2 : Value) (KR : Value → WP) : WP :=
  New 25 (Value.cells a0) fun v3 =>
  Ld1 v3 fun v12 =>
  FnV pg (.func (.func 27) #[] #[]) #[v12, a1] fun v14 =>
  EqP false v14 (.pointer none) fun v16 =>
  Cnd v16 (KR (.int .i64 (-25)))
  (FnV pg (.func (.func 25) #[] #[]) #[a2] fun v19 =>
  Ext v19 0 fun v20 =>
  Ext v19 1 fun v21 =>
  BinI .neq v21 (.int .i64 0) fun v24 =>
  Cnd v24 (KR v21)
  (NilC v14 fun v28 =>
  FA v28 4 fun v29 =>
  Ld1 v29 fun v30 =>
  Cnd v30 (KR (.int .i64 (-2)))
  (NilC v14 fun v33 =>
  FA v33 3 fun v34 =>
  Ld1 v34 fun v35 =>
  FnV pg (.func (.func 38) #[] #[]) #[v35, (.func (.func 39) #[] #[v3])] fun v37 =>
  Cnd v37 (KR (.int .i64 (-20)))
  (NilC v14 fun v40 =>
  FA v40 0 fun v41 =>
  St 1 v41 v20 fun _ =>
  NilC v14 fun v43 =>
  FA v43 2 fun v44 =>
  Ld1 v44 fun v45 =>
  FnV pg (.func (.func 41) #[] #[]) #[v45] fun v46 =>
  FnV pg (.func (.func 40) #[] #[]) #[v46] fun v47 =>
  LenS v47 fun v48 =>
  LoopC [(.int .i64 0)] fun vK vs => AllE <|
  UN vs fun v49 _ =>
  BinI .lss v49 v48 fun v50 =>
  Cnd v50 (IA 1 v47 v49 fun v51 =>
  Ld1 v51 fun v52 =>
  BinI .quo v20 (.int .i64 64) fun v55 =>
  BinI .geq v52 v55 fun v56 =>
  Cnd v56 (Ld1 v3 fun v57 =>
  FnV pg (.func (.func 36) #[] #[]) #[v57, v14, v52] fun _ =>
  BinI .add v49 (.int .i64 1) fun v61 =>
  vK [v61])
  (BinI .add v49 (.int .i64 1) fun v61_1 =>
  vK [v61_1]))
  (KR (.int .i64 0))))))
theorem V.vmo_Set_Resize_ok {a0 a1 a2 : Value} {K : Value → WP} {w : World} (h : V.vmo_Set_Resize a0 a1 a2 K w) : Cl pg 21 #[a0, a1, a2] K w :=
  cl_of pg_mixed Try.func21 (args := [a0, a1, a2]) (by kernel_rfl) (by rw [show WF pg Try.f21 [a0, a1, a2] K = V.vmo_Set_Resize a0 a1 a2 K from by kernel_rfl]; exact h)

def V.jacinthlaw08_VmoEnds_c1 (a0 a1 a2 : Value) (KR : Value → WP) : WP :=
  Ld1 a1 fun v12 =>
  FnV pg (.func (.func 23) #[] #[]) #[v12, a0] fun v14 =>
  Ext v14 0 fun v15 =>
  Ext v14 1 fun v16 =>
  BinI .neq v16 (.int .i64 0) fun v18 =>
  Grd v18 true (LenS v15 fun v21 =>
  BinI .neq v21 (.int .i64 0) fun v22 =>
  Cnd v22 (KR (.bool false))
  (LenS v15 fun v25 =>
  LoopC [(.bool false), (.int .i64 0)] fun vK vs => AllE <|
  UN vs fun v4 vs =>
  UN vs fun v26 _ =>
  BinI .lss v26 v25 fun v27 =>
  Cnd v27 (IA 1 v15 v26 fun v28 =>
  Ld1 v28 fun v29 =>
  Ld1 a1 fun v31 =>
  FnV pg (.func (.func 17) #[] #[]) #[v31, v29] fun v33 =>
  Ext v33 0 fun v34 =>
  Ext v33 1 fun v35 =>
  New 39 #[(.int .i64 0), (.int .i64 0), (.int .i64 0), (.int .i64 0), (.bool false), (.bool false)] fun v9 =>
  St 6 v9 v34 fun _ =>
  Cnd v35 (KR (.bool false))
  (Ld1 a2 fun v37 =>
  BSlC 3 1 #[(.int .i64 0)] 1 #[(0, v29)] fun v39 =>
  AppC 3 1 8 #[(.int .i64 0)] v37 v39 fun v40 =>
  St 1 a2 v40 fun _ =>
  BinI .add v26 (.int .i64 1) fun v41 =>
  vK [v4, v41]))
  (KR (.bool true))))
  (LenS v15 fun v25_1 =>
  LoopC [(.bool false), (.int .i64 0)] fun vK_1 vs => AllE <|
  UN vs fun v4_1 vs =>
  UN vs fun v26_1 _ =>
  BinI .lss v26_1 v25_1 fun v27_1 =>
  Cnd v27_1 (IA 1 v15 v26_1 fun v28_1 =>
  Ld1 v28_1 fun v29_1 =>
  Ld1 a1 fun v31_1 =>
  FnV pg (.func (.func 17) #[] #[]) #[v31_1, v29_1] fun v33_1 =>
  Ext v33_1 0 fun v34_1 =>
  Ext v33_1 1 fun v35_1 =>
  New 39 #[(.int .i64 0), (.int .i64 0), (.int .i64 0), (.int .i64 0), (.bool false), (.bool false)] fun v9_1 =>
  St 6 v9_1 v34_1 fun _ =>
  Cnd v35_1 (KR (.bool false))
  (Ld1 a2 fun v37_1 =>
  BSlC 3 1 #[(.int .i64 0)] 1 #[(0, v29_1)] fun v39_1 =>
  AppC 3 1 8 #[(.int .i64 0)] v37_1 v39_1 fun v40_1 =>
  St 1 a2 v40_1 fun _ =>
  BinI .add v26_1 (.int .i64 1) fun v41_1 =>
  vK_1 [v4_1, v41_1]))
  (KR (.bool true)))
theorem V.jacinthlaw08_VmoEnds_c1_ok {a0 a1 a2 : Value} {K : Value → WP} {w : World} (h : V.jacinthlaw08_VmoEnds_c1 a0 a1 a2 K w) : Cl pg 22 #[a0, a1, a2] K w :=
  cl_of pg_mixed Try.func22 (args := [a0, a1, a2]) (by kernel_rfl) (by rw [show WF pg Try.f22 [a0, a1, a2] K = V.jacinthlaw08_VmoEnds_c1 a0 a1 a2 K from by kernel_rfl]; exact h)

def V.vmo_Set_Drop (a0 a1 : Value) (KR : Value → WP) : WP :=
  New 3 (Value.cells a1) fun v3 =>
  Ld1 v3 fun v11 =>
  FnV pg (.func (.func 27) #[] #[]) #[a0, v11] fun v12 =>
  EqP false v12 (.pointer none) fun v14 =>
  Cnd v14 (KR (.tuple #[(.slice none 0 0), (.int .i64 (-25))]))
  (NilC v12 fun v16 =>
  FA v16 7 fun v17 =>
  St 1 v17 (.bool true) fun _ =>
  LoopC [(.slice none 0 0), v12] fun vK vs => AllE <|
  UN vs fun v4 vs =>
  UN vs fun v6 _ =>
  EqP true v6 (.pointer none) fun v19 =>
  Grd v19 true (NilC v6 fun v22 =>
  FA v22 7 fun v23 =>
  Ld1 v23 fun v24 =>
  Grd v24 true (NilC v6 fun v28 =>
  FA v28 3 fun v29 =>
  Ld1 v29 fun v30 =>
  LenS v30 fun v31 =>
  BinI .eql v31 (.int .i64 0) fun v32 =>
  Cnd v32 (NilC v6 fun v35 =>
  FA v35 2 fun v36 =>
  Ld1 v36 fun v37 =>
  FnV pg (.func (.func 41) #[] #[]) #[v37] fun v38 =>
  FnV pg (.func (.func 40) #[] #[]) #[v38] fun v39 =>
  LenS v39 fun v40 =>
  LoopC [(.int .i64 0)] fun vK_1 vs => AllE <|
  UN vs fun v41 _ =>
  BinI .lss v41 v40 fun v42 =>
  Cnd v42 (IA 1 v39 v41 fun v43 =>
  Ld1 v43 fun v44 =>
  FnV pg (.func (.func 36) #[] #[]) #[a0, v6, v44] fun _ =>
  BinI .add v41 (.int .i64 1) fun v49 =>
  vK_1 [v49])
  (Drw <| QtC fun I =>
  QE I (fun KK => NilC a0 fun v51 =>
  KK v51) fun v51_1 =>
  QE I (fun KK => FA v51_1 1 fun v52 =>
  KK v52) fun v52_1 =>
  QE I (fun KK => Ld1 v52_1 fun v53 =>
  KK v53) fun v53_1 =>
  QE I (fun KK => Ld1 v3 fun v54 =>
  KK v54) fun v54_1 =>
  Ex pg (Builtin.delete_ #[58, 3] 0 #[v53_1, v54_1]) fun _ =>
  Ld1 v3 fun v56 =>
  BSlC 3 1 #[(.int .i64 0)] 1 #[(0, v56)] fun v57 =>
  AppC 3 1 8 #[(.int .i64 0)] v4 v57 fun v58 =>
  Drw <| QtC fun I =>
  QE I (fun KK => NilC a0 fun v60 =>
  KK v60) fun v60_1 =>
  QE I (fun KK => FA v60_1 1 fun v61 =>
  KK v61) fun v61_1 =>
  QE I (fun KK => Ld1 v61_1 fun v62 =>
  KK v62) fun v62_1 =>
  QE I (fun KK => NilC v6 fun v64 =>
  KK v64) fun v64_1 =>
  QE I (fun KK => FA v64_1 1 fun v65 =>
  KK v65) fun v65_1 =>
  QE I (fun KK => Ld1 v65_1 fun v66 =>
  KK v66) fun v66_1 =>
  Ex pg (Instr.lookup 58 v62_1 v66_1 false) fun v67 =>
  EqP true v67 (.pointer none) fun v69 =>
  Cnd v69 (NilC v67 fun v72 =>
  FA v72 3 fun v73 =>
  Ld1 v73 fun v74 =>
  FnV pg (.func (.func 42) #[] #[]) #[v74, (.func (.func 43) #[] #[v3])] fun v76 =>
  NilC v67 fun v77 =>
  FA v77 3 fun v78 =>
  St 1 v78 v76 fun _ =>
  NilC v6 fun v80 =>
  FA v80 1 fun v81 =>
  Ld1 v81 fun v82 =>
  St 1 v3 v82 fun _ =>
  vK [v58, v67])
  (NilC v6 fun v80_1 =>
  FA v80_1 1 fun v81_1 =>
  Ld1 v81_1 fun v82_1 =>
  St 1 v3 v82_1 fun _ =>
  vK [v58, v67])))
  (KR (.tuple #[v4, (.int .i64 0)])))
  (KR (.tuple #[v4, (.int .i64 0)])))
  (KR (.tuple #[v4, (.int .i64 0)])))
theorem V.vmo_Set_Drop_ok {a0 a1 : Value} {K : Value → WP} {w : World} (h : V.vmo_Set_Drop a0 a1 K w) : Cl pg 23 #[a0, a1] K w :=
  cl_of pg_mixed Try.func23 (args := [a0, a1]) (by kernel_rfl) (by rw [show WF pg Try.f23 [a0, a1] K = V.vmo_Set_Drop a0 a1 K from by kernel_rfl]; exact h)

def V.pages_New (a0 : Value) (KR : Value → WP) : WP :=
  BinI .lss a0 (.int .i64 0) fun v4 =>
  Grd v4 false (BinI .gtr a0 (.int .i64 65536) fun v7 =>
  Cnd v7 (KR (.pointer none))
  (Ex pg (bldS #[(.slice none 0 0), (.int .i64 0), (.int .i64 0)] [(0, 1), (1, 1), (2, 1)] #[(1, a0)]) fun v10 =>
  New 86 (Value.cells v10) fun v11 =>
  KR v11))
  (KR (.pointer none))
theorem V.pages_New_ok {a0 : Value} {K : Value → WP} {w : World} (h : V.pages_New a0 K w) : Cl pg 24 #[a0] K w :=
  cl_of pg_mixed Try.func24 (args := [a0]) (by kernel_rfl) (by rw [show WF pg Try.f24 [a0] K = V.pages_New a0 K from by kernel_rfl]; exact h)

def V.vmo_size (a0 : Value) (KR : Value → WP) : WP :=
  BinI .lss a0 (.int .i64 0) fun v8 =>
  Cnd v8 (KR (.tuple #[(.int .i64 0), (.int .i64 (-10))]))
  (BinI .gtr a0 (.int .i64 4294967296) fun v11 =>
  Cnd v11 (KR (.tuple #[(.int .i64 0), (.int .i64 (-14))]))
  (FnV pg (.func (.func 44) #[] #[]) #[a0, (.int .i64 64)] fun v14 =>
  Ext v14 0 fun v15 =>
  Ext v14 1 fun _ =>
  KR (.tuple #[v15, (.int .i64 0)])))
theorem V.vmo_size_ok {a0 : Value} {K : Value → WP} {w : World} (h : V.vmo_size a0 K w) : Cl pg 25 #[a0] K w :=
  cl_of pg_mixed Try.func25 (args := [a0]) (by kernel_rfl) (by rw [show WF pg Try.f25 [a0] K = V.vmo_size a0 K from by kernel_rfl]; exact h)

def V.vmo_Set_add (a0 a1 : Value) (KR : Value → WP) : WP :=
  Drw <| QtC fun I =>
  QE I (fun KK => NilC a0 fun v8 =>
  KK v8) fun v8_1 =>
  QE I (fun KK => FA v8_1 1 fun v9 =>
  KK v9) fun v9_1 =>
  QE I (fun KK => Ld1 v9_1 fun v10 =>
  KK v10) fun v10_1 =>
  QE I (fun KK => Ex pg (Builtin.len_ #[58] 3 #[v10_1]) fun v11 =>
  KK v11) fun v11_1 =>
  QE I (fun KK => NilC a0 fun v13 =>
  KK v13) fun v13_1 =>
  QE I (fun KK => FA v13_1 2 fun v14 =>
  KK v14) fun v14_1 =>
  QE I (fun KK => Ld1 v14_1 fun v15 =>
  KK v15) fun v15_1 =>
  BinI .geq v11_1 v15_1 fun v16 =>
  Cnd v16 (KR (.tuple #[(.int .i64 0), (.int .i64 (-4))]))
  (NilC a0 fun v18 =>
  FA v18 3 fun v19 =>
  Ld1 v19 fun v20 =>
  BinI .add v20 (.int .i64 1) fun v21 =>
  NilC a0 fun v22 =>
  FA v22 3 fun v23 =>
  St 1 v23 v21 fun _ =>
  Drw <| QtC fun I =>
  QE I (fun KK => NilC a0 fun v25 =>
  KK v25) fun v25_1 =>
  QE I (fun KK => FA v25_1 1 fun v26 =>
  KK v26) fun v26_1 =>
  QE I (fun KK => Ld1 v26_1 fun v27 =>
  KK v27) fun v27_1 =>
  QE I (fun KK => NilC a0 fun v29 =>
  KK v29) fun v29_1 =>
  QE I (fun KK => FA v29_1 3 fun v30 =>
  KK v30) fun v30_1 =>
  QE I (fun KK => Ld1 v30_1 fun v31 =>
  KK v31) fun v31_1 =>
  Ex pg (do Instr.mapUpdate 58 v27_1 v31_1 a1; pure undef) fun _ =>
  Drw <| QtC fun I =>
  QE I (fun KK => NilC a0 fun v34 =>
  KK v34) fun v34_1 =>
  QE I (fun KK => FA v34_1 1 fun v35 =>
  KK v35) fun v35_1 =>
  QE I (fun KK => Ld1 v35_1 fun v36 =>
  KK v36) fun v36_1 =>
  QE I (fun KK => NilC a1 fun v38 =>
  KK v38) fun v38_1 =>
  QE I (fun KK => FA v38_1 1 fun v39 =>
  KK v39) fun v39_1 =>
  QE I (fun KK => Ld1 v39_1 fun v40 =>
  KK v40) fun v40_1 =>
  Ex pg (Instr.lookup 58 v36_1 v40_1 false) fun v41 =>
  EqP true v41 (.pointer none) fun v43 =>
  Cnd v43 (Drw <| QtC fun I =>
  QE I (fun KK => NilC v41 fun v46 =>
  KK v46) fun v46_1 =>
  QE I (fun KK => FA v46_1 3 fun v47 =>
  KK v47) fun v47_1 =>
  QE I (fun KK => Ld1 v47_1 fun v48 =>
  KK v48) fun v48_1 =>
  QE I (fun KK => NilC a0 fun v50 =>
  KK v50) fun v50_1 =>
  QE I (fun KK => FA v50_1 3 fun v51 =>
  KK v51) fun v51_1 =>
  QE I (fun KK => Ld1 v51_1 fun v52 =>
  KK v52) fun v52_1 =>
  BSlC 3 1 #[(.int .i64 0)] 1 #[(0, v52_1)] fun v53 =>
  CH I <|
  AppC 3 1 8 #[(.int .i64 0)] v48_1 v53 fun v54 =>
  NilC v41 fun v55 =>
  FA v55 3 fun v56 =>
  St 1 v56 v54 fun _ =>
  NilC a0 fun v58 =>
  FA v58 3 fun v59 =>
  Ld1 v59 fun v60 =>
  KR (.tuple #[v60, (.int .i64 0)]))
  (NilC a0 fun v58_1 =>
  FA v58_1 3 fun v59_1 =>
  Ld1 v59_1 fun v60_1 =>
  KR (.tuple #[v60_1, (.int .i64 0)])))
theorem V.vmo_Set_add_ok {a0 a1 : Value} {K : Value → WP} {w : World} (h : V.vmo_Set_add a0 a1 K w) : Cl pg 26 #[a0, a1] K w :=
  cl_of pg_mixed Try.func26 (args := [a0, a1]) (by kernel_rfl) (by rw [show WF pg Try.f26 [a0, a1] K = V.vmo_Set_add a0 a1 K from by kernel_rfl]; exact h)

def V.vmo_Set_find (a0 a1 : Value) (KR : Value → WP) : WP :=
  NilC a0 fun v7 =>
  FA v7 1 fun v8 =>
  Ld1 v8 fun v9 =>
  Ex pg (Instr.lookup 58 v9 a1 false) fun v11 =>
  EqP true v11 (.pointer none) fun v13 =>
  Grd v13 true (NilC v11 fun v16 =>
  FA v16 7 fun v17 =>
  Ld1 v17 fun v18 =>
  Un .not v18 fun v19 =>
  Cnd v19 (KR v11)
  (KR (.pointer none)))
  (KR (.pointer none))
theorem V.vmo_Set_find_ok {a0 a1 : Value} {K : Value → WP} {w : World} (h : V.vmo_Set_find a0 a1 K w) : Cl pg 27 #[a0, a1] K w :=
  cl_of pg_mixed Try.func27 (args := [a0, a1]) (by kernel_rfl) (by rw [show WF pg Try.f27 [a0, a1] K = V.vmo_Set_find a0 a1 K from by kernel_rfl]; exact h)

def V.vmo_Set_reach (a0 a1 a2 a3 : Value) (KR : Value → WP) : WP :=
  FnV pg (.func (.func 27) #[] #[]) #[a0, a1] fun v16 =>
  EqP false v16 (.pointer none) fun v18 =>
  Cnd v18 (KR (.tuple #[(.pointer none), (.int .i64 0), (.int .i64 (-25))]))
  (NilC v16 fun v22 =>
  FA v22 0 fun v23 =>
  Ld1 v23 fun v24 =>
  FnV pg (.func (.func 45) #[] #[]) #[a2, a3, v24] fun v25 =>
  Un .not v25 fun v26 =>
  Cnd v26 (KR (.tuple #[(.pointer none), (.int .i64 0), (.int .i64 (-14))]))
  (FnV pg (.func (.func 46) #[] #[]) #[a0, v16] fun v30 =>
  Ext v30 0 fun v31 =>
  Ext v30 1 fun v32 =>
  BinI .add v32 a2 fun v36 =>
  KR (.tuple #[v31, v36, (.int .i64 0)])))
theorem V.vmo_Set_reach_ok {a0 a1 a2 a3 : Value} {K : Value → WP} {w : World} (h : V.vmo_Set_reach a0 a1 a2 a3 K w) : Cl pg 28 #[a0, a1, a2, a3] K w :=
  cl_of pg_mixed Try.func28 (args := [a0, a1, a2, a3]) (by kernel_rfl) (by rw [show WF pg Try.f28 [a0, a1, a2, a3] K = V.vmo_Set_reach a0 a1 a2 a3 K from by kernel_rfl]; exact h)

def V.vmo_Set_commit (a0 a1 a2 : Value) (KR : Value → WP) : WP :=
  LenS a2 fun v17 =>
  LoopC [(.int .i64 0), (.int .i64 0)] fun vK vs => AllE <|
  UN vs fun v7 vs =>
  UN vs fun v18 _ =>
  BinI .lss v18 v17 fun v19 =>
  Cnd v19 (IA 1 a2 v18 fun v20 =>
  Ld1 v20 fun v21 =>
  NilC a1 fun v24 =>
  FA v24 2 fun v25 =>
  Ld1 v25 fun v26 =>
  Ex pg (Instr.lookup 63 v26 v21 true) fun v28 =>
  Ext v28 0 fun v29 =>
  Ext v28 1 fun v30 =>
  Un .not v30 fun v32 =>
  Grd v32 false (NilC a0 fun v35 =>
  FA v35 0 fun v36 =>
  Ld1 v36 fun v37 =>
  FnV pg (.func (.func 47) #[] #[]) #[v37, v29] fun v39 =>
  BinI .gtr v39 (.int .i64 1) fun v40 =>
  Cnd v40 (BinI .add v7 (.int .i64 1) fun v43 =>
  BinI .add v18 (.int .i64 1) fun v44 =>
  vK [v43, v44])
  (BinI .add v18 (.int .i64 1) fun v44_1 =>
  vK [v7, v44_1]))
  (BinI .add v7 (.int .i64 1) fun v43_1 =>
  BinI .add v18 (.int .i64 1) fun v44_2 =>
  vK [v43_1, v44_2]))
  (NilC a0 fun v47 =>
  FA v47 0 fun v48 =>
  Ld1 v48 fun v49 =>
  FnV pg (.func (.func 37) #[] #[]) #[v49] fun v50 =>
  BinI .gtr v7 v50 fun v51 =>
  Cnd v51 (KR (.int .i64 (-4)))
  (LenS a2 fun v53 =>
  LoopC [(.int .i64 0)] fun vK_1 vs => AllE <|
  UN vs fun v54 _ =>
  BinI .lss v54 v53 fun v55 =>
  Cnd v55 (IA 1 a2 v54 fun v56 =>
  Ld1 v56 fun v57 =>
  NilC a1 fun v60 =>
  FA v60 2 fun v61 =>
  Ld1 v61 fun v62 =>
  Ex pg (Instr.lookup 63 v62 v57 true) fun v64 =>
  Ext v64 0 fun v65 =>
  Ext v64 1 fun v66 =>
  Cnd v66 (NilC a0 fun v70 =>
  FA v70 0 fun v71 =>
  Ld1 v71 fun v72 =>
  FnV pg (.func (.func 48) #[] #[]) #[v72, v65] fun v74 =>
  Ext v74 0 fun v75 =>
  Ext v74 1 fun _ =>
  NilC a1 fun v86 =>
  FA v86 2 fun v87 =>
  Ld1 v87 fun v88 =>
  Ex pg (do Instr.mapUpdate 63 v88 v57 v75; pure undef) fun _ =>
  BinI .add v54 (.int .i64 1) fun v91 =>
  vK_1 [v91])
  (NilC a0 fun v79 =>
  FA v79 0 fun v80 =>
  Ld1 v80 fun v81 =>
  FnV pg (.func (.func 49) #[] #[]) #[v81] fun v82 =>
  Ext v82 0 fun v83 =>
  Ext v82 1 fun _ =>
  NilC a1 fun v86_1 =>
  FA v86_1 2 fun v87_1 =>
  Ld1 v87_1 fun v88_1 =>
  Ex pg (do Instr.mapUpdate 63 v88_1 v57 v83; pure undef) fun _ =>
  BinI .add v54 (.int .i64 1) fun v91_1 =>
  vK_1 [v91_1]))
  (KR (.int .i64 0))))
theorem V.vmo_Set_commit_ok {a0 a1 a2 : Value} {K : Value → WP} {w : World} (h : V.vmo_Set_commit a0 a1 a2 K w) : Cl pg 29 #[a0, a1, a2] K w :=
  cl_of pg_mixed Try.func29 (args := [a0, a1, a2]) (by kernel_rfl) (by rw [show WF pg Try.f29 [a0, a1, a2] K = V.vmo_Set_commit a0 a1 a2 K from by kernel_rfl]; exact h)

def V.vmo_touched (a0 a1 : Value) (KR : Value → WP) : WP :=
  FnV pg (.func (.func 50) #[] #[]) #[a0, a1] fun v13 =>
  Ext v13 0 fun v14 =>
  Ext v13 1 fun v15 =>
  Ext v13 2 fun _ =>
  LoopC [(.slice none 0 0), (.int .i64 0)] fun vK vs => AllE <|
  UN vs fun v8 vs =>
  UN vs fun v18 _ =>
  BinI .lss v18 v15 fun v19 =>
  Cnd v19 (BinI .add v14 v18 fun v24 =>
  BSlC 3 1 #[(.int .i64 0)] 1 #[(0, v24)] fun v25 =>
  AppC 3 1 8 #[(.int .i64 0)] v8 v25 fun v26 =>
  BinI .add v18 (.int .i64 1) fun v27 =>
  vK [v26, v27])
  (KR v8)
theorem V.vmo_touched_ok {a0 a1 : Value} {K : Value → WP} {w : World} (h : V.vmo_touched a0 a1 K w) : Cl pg 30 #[a0, a1] K w :=
  cl_of pg_mixed Try.func30 (args := [a0, a1]) (by kernel_rfl) (by rw [show WF pg Try.f30 [a0, a1] K = V.vmo_touched a0 a1 K from by kernel_rfl]; exact h)

def V.vmo_Set_put (a0 a1 a2 a3 : Value) (KR : Value → WP) : WP :=
  LoopC [a2, a3] fun vK vs => AllE <|
  UN vs fun v2 vs =>
  UN vs fun v3 _ =>
  LenS v3 fun v11 =>
  BinI .gtr v11 (.int .i64 0) fun v12 =>
  Cnd v12 (BinI .rem v2 (.int .i64 64) fun v14 =>
  LenS v3 fun v16 =>
  BinI .sub (.int .i64 64) v14 fun v18 =>
  Ex pg (Builtin.min_ #[3, 3] 3 #[v16, v18]) fun v19 =>
  Drw <| QtC fun I =>
  QE I (fun KK => NilC a0 fun v21 =>
  KK v21) fun v21_1 =>
  QE I (fun KK => FA v21_1 0 fun v22 =>
  KK v22) fun v22_1 =>
  QE I (fun KK => Ld1 v22_1 fun v23 =>
  KK v23) fun v23_1 =>
  QE I (fun KK => NilC a1 fun v25 =>
  KK v25) fun v25_1 =>
  QE I (fun KK => FA v25_1 2 fun v26 =>
  KK v26) fun v26_1 =>
  QE I (fun KK => Ld1 v26_1 fun v27 =>
  KK v27) fun v27_1 =>
  QE I (fun KK => BinI .quo v2 (.int .i64 64) fun v29 =>
  KK v29) fun v29_1 =>
  QE I (fun KK => Ex pg (Instr.lookup 63 v27_1 v29_1 false) fun v30 =>
  KK v30) fun v30_1 =>
  QE I (fun KK => SlC 1 v3 none (some v19) fun v34 =>
  KK v34) fun v34_1 =>
  FnV pg (.func (.func 51) #[] #[]) #[v23_1, v30_1, v14, v34_1] fun _ =>
  BinI .add v2 v19 fun v38 =>
  SlC 1 v3 (some v19) none fun v41 =>
  vK [v38, v41])
  (KR (.tuple #[]))
theorem V.vmo_Set_put_ok {a0 a1 a2 a3 : Value} {K : Value → WP} {w : World} (h : V.vmo_Set_put a0 a1 a2 a3 K w) : Cl pg 31 #[a0, a1, a2, a3] K w :=
  cl_of pg_mixed Try.func31 (args := [a0, a1, a2, a3]) (by kernel_rfl) (by rw [show WF pg Try.f31 [a0, a1, a2, a3] K = V.vmo_Set_put a0 a1 a2 a3 K from by kernel_rfl]; exact h)

def V.pages_Pool_Read (a0 a1 a2 a3 : Value) (KR : Value → WP) : WP :=
  FnV pg (.func (.func 52) #[] #[]) #[a0, a1] fun v13 =>
  EqP false v13 (.pointer none) fun v16 =>
  Cnd v16 (KR (.tuple #[(.slice none 0 0), (.int .i64 (-25))]))
  (FnV pg (.func (.func 45) #[] #[]) #[a2, a3, (.int .i64 64)] fun v20 =>
  Un .not v20 fun v21 =>
  Cnd v21 (KR (.tuple #[(.slice none 0 0), (.int .i64 (-14))]))
  (NilC v13 fun v23 =>
  FA v23 0 fun v24 =>
  BinI .add a2 a3 fun v28 =>
  Ex pg (Instr.sliceAt 96 v24 (some a2) (some v28) none) fun v29 =>
  FnV pg (.func (.func 53) #[] #[]) #[v29] fun v30 =>
  KR (.tuple #[v30, (.int .i64 0)])))
theorem V.pages_Pool_Read_ok {a0 a1 a2 a3 : Value} {K : Value → WP} {w : World} (h : V.pages_Pool_Read a0 a1 a2 a3 K w) : Cl pg 32 #[a0, a1, a2, a3] K w :=
  cl_of pg_mixed Try.func32 (args := [a0, a1, a2, a3]) (by kernel_rfl) (by rw [show WF pg Try.f32 [a0, a1, a2, a3] K = V.pages_Pool_Read a0 a1 a2 a3 K from by kernel_rfl]; exact h)

def V.vmo_Set_window (a0 a1 a2 a3 : Value) (KR : Value → WP) : WP :=
  FnV pg (.func (.func 27) #[] #[]) #[a0, a1] fun v13 =>
  EqP false v13 (.pointer none) fun v16 =>
  Cnd v16 (KR (.tuple #[(.pointer none), (.int .i64 (-25))]))
  (BinI .lss a2 (.int .i64 0) fun v19 =>
  Grd v19 false (BinI .lss a3 (.int .i64 0) fun v22 =>
  Grd v22 false (BinI .rem a2 (.int .i64 64) fun v26 =>
  BinI .neq v26 (.int .i64 0) fun v27 =>
  Grd v27 false (BinI .rem a3 (.int .i64 64) fun v31 =>
  BinI .neq v31 (.int .i64 0) fun v32 =>
  Cnd v32 (KR (.tuple #[(.pointer none), (.int .i64 (-10))]))
  (NilC v13 fun v38 =>
  FA v38 0 fun v39 =>
  Ld1 v39 fun v40 =>
  FnV pg (.func (.func 45) #[] #[]) #[a2, a3, v40] fun v41 =>
  Un .not v41 fun v42 =>
  Cnd v42 (KR (.tuple #[(.pointer none), (.int .i64 (-14))]))
  (KR (.tuple #[v13, (.int .i64 0)]))))
  (KR (.tuple #[(.pointer none), (.int .i64 (-10))])))
  (KR (.tuple #[(.pointer none), (.int .i64 (-10))])))
  (KR (.tuple #[(.pointer none), (.int .i64 (-10))])))
theorem V.vmo_Set_window_ok {a0 a1 a2 a3 : Value} {K : Value → WP} {w : World} (h : V.vmo_Set_window a0 a1 a2 a3 K w) : Cl pg 33 #[a0, a1, a2, a3] K w :=
  cl_of pg_mixed Try.func33 (args := [a0, a1, a2, a3]) (by kernel_rfl) (by rw [show WF pg Try.f33 [a0, a1, a2, a3] K = V.vmo_Set_window a0 a1 a2 a3 K from by kernel_rfl]; exact h)

def V.pages_Pool_Share (a0 a1 : Value) (KR : Value → WP) : WP :=
  FnV pg (.func (.func 52) #[] #[]) #[a0, a1] fun v8 =>
  EqP false v8 (.pointer none) fun v10 =>
  Cnd v10 (KR (.int .i64 (-25)))
  (NilC v8 fun v12 =>
  FA v12 64 fun v13 =>
  Ld1 v13 fun v14 =>
  BinI .add v14 (.int .i64 1) fun v15 =>
  NilC v8 fun v16 =>
  FA v16 64 fun v17 =>
  St 1 v17 v15 fun _ =>
  KR (.int .i64 0))
theorem V.pages_Pool_Share_ok {a0 a1 : Value} {K : Value → WP} {w : World} (h : V.pages_Pool_Share a0 a1 K w) : Cl pg 34 #[a0, a1] K w :=
  cl_of pg_mixed Try.func34 (args := [a0, a1]) (by kernel_rfl) (by rw [show WF pg Try.f34 [a0, a1] K = V.pages_Pool_Share a0 a1 K from by kernel_rfl]; exact h)

def V.vmo_Set_zero (a0 a1 a2 a3 : Value) (KR : Value → WP) : WP :=
  NilC a0 fun v24 =>
  FA v24 0 fun v25 =>
  Ld1 v25 fun v26 =>
  FnV pg (.func (.func 37) #[] #[]) #[v26] fun v27 =>
  FnV pg (.func (.func 30) #[] #[]) #[a2, a3] fun v30 =>
  LenS v30 fun v31 =>
  LoopC [(.slice none 0 0), (.slice none 0 0), v27, (.int .i64 0)] fun vK vs => AllE <|
  UN vs fun v9 vs =>
  UN vs fun v10 vs =>
  UN vs fun v11 vs =>
  UN vs fun v32 _ =>
  BinI .lss v32 v31 fun v33 =>
  Cnd v33 (IA 1 v30 v32 fun v34 =>
  Ld1 v34 fun v35 =>
  NilC a1 fun v38 =>
  FA v38 2 fun v39 =>
  Ld1 v39 fun v40 =>
  Ex pg (Instr.lookup 63 v40 v35 true) fun v42 =>
  Ext v42 0 fun v43 =>
  Ext v42 1 fun v44 =>
  BinI .mul v35 (.int .i64 64) fun v46 =>
  Un .not v44 fun v62 =>
  Cnd v62 (BinI .add v32 (.int .i64 1) fun v88 =>
  vK [v9, v10, v11, v88])
  (BinI .geq v46 a2 fun v66 =>
  Grd v66 true (BinI .add v46 (.int .i64 64) fun v69 =>
  BinI .add a2 a3 fun v72 =>
  BinI .leq v69 v72 fun v73 =>
  Cnd v73 (BSlC 3 1 #[(.int .i64 0)] 1 #[(0, v35)] fun v77 =>
  AppC 3 1 8 #[(.int .i64 0)] v9 v77 fun v78 =>
  NilC a0 fun v80 =>
  FA v80 0 fun v81 =>
  Ld1 v81 fun v82 =>
  FnV pg (.func (.func 47) #[] #[]) #[v82, v43] fun v84 =>
  BinI .eql v84 (.int .i64 1) fun v85 =>
  Cnd v85 (BinI .add v11 (.int .i64 1) fun v87 =>
  BinI .add v32 (.int .i64 1) fun v88_1 =>
  vK [v78, v10, v87, v88_1])
  (BinI .add v32 (.int .i64 1) fun v88_2 =>
  vK [v78, v10, v11, v88_2]))
  (BSlC 3 1 #[(.int .i64 0)] 1 #[(0, v35)] fun v49 =>
  AppC 3 1 8 #[(.int .i64 0)] v10 v49 fun v50 =>
  NilC a0 fun v52 =>
  FA v52 0 fun v53 =>
  Ld1 v53 fun v54 =>
  FnV pg (.func (.func 47) #[] #[]) #[v54, v43] fun v56 =>
  BinI .gtr v56 (.int .i64 1) fun v57 =>
  Cnd v57 (BinI .sub v11 (.int .i64 1) fun v59 =>
  BinI .add v32 (.int .i64 1) fun v88_3 =>
  vK [v9, v50, v59, v88_3])
  (BinI .add v32 (.int .i64 1) fun v88_4 =>
  vK [v9, v50, v11, v88_4])))
  (BSlC 3 1 #[(.int .i64 0)] 1 #[(0, v35)] fun v49_1 =>
  AppC 3 1 8 #[(.int .i64 0)] v10 v49_1 fun v50_1 =>
  NilC a0 fun v52_1 =>
  FA v52_1 0 fun v53_1 =>
  Ld1 v53_1 fun v54_1 =>
  FnV pg (.func (.func 47) #[] #[]) #[v54_1, v43] fun v56_1 =>
  BinI .gtr v56_1 (.int .i64 1) fun v57_1 =>
  Cnd v57_1 (BinI .sub v11 (.int .i64 1) fun v59_1 =>
  BinI .add v32 (.int .i64 1) fun v88_5 =>
  vK [v9, v50_1, v59_1, v88_5])
  (BinI .add v32 (.int .i64 1) fun v88_6 =>
  vK [v9, v50_1, v11, v88_6]))))
  (BinI .lss v11 (.int .i64 0) fun v90 =>
  Cnd v90 (KR (.int .i64 (-4)))
  (LenS v9 fun v92 =>
  LoopC [(.int .i64 0)] fun vK_1 vs => AllE <|
  UN vs fun v93 _ =>
  BinI .lss v93 v92 fun v94 =>
  Cnd v94 (IA 1 v9 v93 fun v95 =>
  Ld1 v95 fun v96 =>
  FnV pg (.func (.func 36) #[] #[]) #[a0, a1, v96] fun _ =>
  BinI .add v93 (.int .i64 1) fun v101 =>
  vK_1 [v101])
  (FnV pg (.func (.func 29) #[] #[]) #[a0, a1, v10] fun v105 =>
  BinI .neq v105 (.int .i64 0) fun v107 =>
  Cnd v107 (KR v105)
  (LenS v10 fun v110 =>
  LoopC [(.int .i64 0)] fun vK_2 vs => AllE <|
  UN vs fun v111 _ =>
  BinI .lss v111 v110 fun v112 =>
  Cnd v112 (IA 1 v10 v111 fun v113 =>
  Ld1 v113 fun v114 =>
  BinI .mul v114 (.int .i64 64) fun v117 =>
  Ex pg (Builtin.max_ #[3, 3] 3 #[a2, v117]) fun v118 =>
  BinI .add a2 a3 fun v124 =>
  BinI .add v114 (.int .i64 1) fun v126 =>
  BinI .mul v126 (.int .i64 64) fun v127 =>
  Ex pg (Builtin.min_ #[3, 3] 3 #[v124, v127]) fun v128 =>
  BinI .sub v128 v118 fun v130 =>
  MkSC 5 1 1 #[(.int .u8 0)] v130 v130 fun v131 =>
  FnV pg (.func (.func 31) #[] #[]) #[a0, a1, v118, v131] fun _ =>
  BinI .add v111 (.int .i64 1) fun v133 =>
  vK_2 [v133])
  (KR (.int .i64 0))))))
theorem V.vmo_Set_zero_ok {a0 a1 a2 a3 : Value} {K : Value → WP} {w : World} (h : V.vmo_Set_zero a0 a1 a2 a3 K w) : Cl pg 35 #[a0, a1, a2, a3] K w :=
  cl_of pg_mixed Try.func35 (args := [a0, a1, a2, a3]) (by kernel_rfl) (by rw [show WF pg Try.f35 [a0, a1, a2, a3] K = V.vmo_Set_zero a0 a1 a2 a3 K from by kernel_rfl]; exact h)

def V.vmo_Set_release (a0 a1 a2 : Value) (KR : Value → WP) : WP :=
  NilC a1 fun v10 =>
  FA v10 2 fun v11 =>
  Ld1 v11 fun v12 =>
  Ex pg (Instr.lookup 63 v12 a2 true) fun v14 =>
  Ext v14 0 fun v15 =>
  Ext v14 1 fun v16 =>
  Cnd v16 (NilC a0 fun v19 =>
  FA v19 0 fun v20 =>
  Ld1 v20 fun v21 =>
  FnV pg (.func (.func 54) #[] #[]) #[v21, v15] fun _ =>
  NilC a1 fun v25 =>
  FA v25 2 fun v26 =>
  Ld1 v26 fun v27 =>
  Ex pg (Builtin.delete_ #[63, 3] 0 #[v27, a2]) fun _ =>
  KR (.tuple #[]))
  (KR (.tuple #[]))
theorem V.vmo_Set_release_ok {a0 a1 a2 : Value} {K : Value → WP} {w : World} (h : V.vmo_Set_release a0 a1 a2 K w) : Cl pg 36 #[a0, a1, a2] K w :=
  cl_of pg_mixed Try.func36 (args := [a0, a1, a2]) (by kernel_rfl) (by rw [show WF pg Try.f36 [a0, a1, a2] K = V.vmo_Set_release a0 a1 a2 K from by kernel_rfl]; exact h)

def V.pages_Pool_Room (a0 : Value) (KR : Value → WP) : WP :=
  Drw <| QtC fun I =>
  QE I (fun KK => NilC a0 fun v4 =>
  KK v4) fun v4_1 =>
  QE I (fun KK => FA v4_1 1 fun v5 =>
  KK v5) fun v5_1 =>
  QE I (fun KK => Ld1 v5_1 fun v6 =>
  KK v6) fun v6_1 =>
  QE I (fun KK => NilC a0 fun v8 =>
  KK v8) fun v8_1 =>
  QE I (fun KK => FA v8_1 2 fun v9 =>
  KK v9) fun v9_1 =>
  QE I (fun KK => Ld1 v9_1 fun v10 =>
  KK v10) fun v10_1 =>
  BinI .sub v6_1 v10_1 fun v11 =>
  KR v11
theorem V.pages_Pool_Room_ok {a0 : Value} {K : Value → WP} {w : World} (h : V.pages_Pool_Room a0 K w) : Cl pg 37 #[a0] K w :=
  cl_of pg_mixed Try.func37 (args := [a0]) (by kernel_rfl) (by rw [show WF pg Try.f37 [a0] K = V.pages_Pool_Room a0 K from by kernel_rfl]; exact h)

def V.slices_ContainsFunc_int_int (a0 a1 : Value) (KR : Value → WP) : WP :=
  FnV pg (.func (.func 55) #[] #[]) #[a0, a1] fun v7 =>
  BinI .geq v7 (.int .i64 0) fun v8 =>
  KR v8
theorem V.slices_ContainsFunc_int_int_ok {a0 a1 : Value} {K : Value → WP} {w : World} (h : V.slices_ContainsFunc_int_int a0 a1 K w) : Cl pg 38 #[a0, a1] K w :=
  cl_of pg_mixed Try.func38 (args := [a0, a1]) (by kernel_rfl) (by rw [show WF pg Try.f38 [a0, a1] K = V.slices_ContainsFunc_int_int a0 a1 K from by kernel_rfl]; exact h)

def V.vmo_Set_Resize_c1 (a0 a1 : Value) (KR : Value → WP) : WP :=
  Ld1 a1 fun v4 =>
  NilC v4 fun v5 =>
  FA v5 1 fun v6 =>
  Ld1 v6 fun v7 =>
  Ex pg (Instr.lookup 58 v7 a0 false) fun v9 =>
  NilC v9 fun v10 =>
  FA v10 4 fun v11 =>
  Ld1 v11 fun v12 =>
  KR v12
theorem V.vmo_Set_Resize_c1_ok {a0 a1 : Value} {K : Value → WP} {w : World} (h : V.vmo_Set_Resize_c1 a0 a1 K w) : Cl pg 39 #[a0, a1] K w :=
  cl_of pg_mixed Try.func39 (args := [a0, a1]) (by kernel_rfl) (by rw [show WF pg Try.f39 [a0, a1] K = V.vmo_Set_Resize_c1 a0 a1 K from by kernel_rfl]; exact h)

def V.slices_Sorted_int (a0 : Value) (KR : Value → WP) : WP :=
  FnV pg (.func (.func 56) #[] #[]) #[a0] fun v5 =>
  FnV pg (.func (.func 57) #[] #[]) #[v5] fun _ =>
  KR v5
theorem V.slices_Sorted_int_ok {a0 : Value} {K : Value → WP} {w : World} (h : V.slices_Sorted_int a0 K w) : Cl pg 40 #[a0] K w :=
  cl_of pg_mixed Try.func40 (args := [a0]) (by kernel_rfl) (by rw [show WF pg Try.f40 [a0] K = V.slices_Sorted_int a0 K from by kernel_rfl]; exact h)

def V.maps_Keys_map_int_int_int_int (a0 : Value) (KR : Value → WP) : WP :=
  New 63 (Value.cells a0) fun v1 =>
  KR (.func (.func 58) #[] #[v1])
theorem V.maps_Keys_map_int_int_int_int_ok {a0 : Value} {K : Value → WP} {w : World} (h : V.maps_Keys_map_int_int_int_int a0 K w) : Cl pg 41 #[a0] K w :=
  cl_of pg_mixed Try.func41 (args := [a0]) (by kernel_rfl) (by rw [show WF pg Try.f41 [a0] K = V.maps_Keys_map_int_int_int_int a0 K from by kernel_rfl]; exact h)

def V.slices_DeleteFunc_int_int (a0 a1 : Value) (KR : Value → WP) : WP :=
  FnV pg (.func (.func 55) #[] #[]) #[a0, a1] fun v10 =>
  BinI .eql v10 (.int .i64 (-1)) fun v12 =>
  Cnd v12 (KR a0)
  (BinI .add v10 (.int .i64 1) fun v15 =>
  LoopC [v10, v15] fun vK vs => AllE <|
  UN vs fun v5 vs =>
  UN vs fun v6 _ =>
  LenS a0 fun v18 =>
  BinI .lss v6 v18 fun v19 =>
  Cnd v19 (IA 1 a0 v6 fun v24 =>
  Ld1 v24 fun v25 =>
  FnV pg a1 #[v25] fun v28 =>
  Un .not v28 fun v29 =>
  Cnd v29 (IA 1 a0 v5 fun v33 =>
  St 1 v33 v25 fun _ =>
  BinI .add v5 (.int .i64 1) fun v35 =>
  BinI .add v6 (.int .i64 1) fun v21 =>
  vK [v35, v21])
  (BinI .add v6 (.int .i64 1) fun v21_1 =>
  vK [v5, v21_1]))
  (SlC 1 a0 (some v5) none fun v38 =>
  Ex pg (clrS #[(.int .i64 0)] v38) fun _ =>
  SlC 1 a0 none (some v5) fun v41 =>
  KR v41))
theorem V.slices_DeleteFunc_int_int_ok {a0 a1 : Value} {K : Value → WP} {w : World} (h : V.slices_DeleteFunc_int_int a0 a1 K w) : Cl pg 42 #[a0, a1] K w :=
  cl_of pg_mixed Try.func42 (args := [a0, a1]) (by kernel_rfl) (by rw [show WF pg Try.f42 [a0, a1] K = V.slices_DeleteFunc_int_int a0 a1 K from by kernel_rfl]; exact h)

def V.vmo_Set_Drop_c1 (a0 a1 : Value) (KR : Value → WP) : WP :=
  Ld1 a1 fun v5 =>
  BinI .eql a0 v5 fun v6 =>
  KR v6
theorem V.vmo_Set_Drop_c1_ok {a0 a1 : Value} {K : Value → WP} {w : World} (h : V.vmo_Set_Drop_c1 a0 a1 K w) : Cl pg 43 #[a0, a1] K w :=
  cl_of pg_mixed Try.func43 (args := [a0, a1]) (by kernel_rfl) (by rw [show WF pg Try.f43 [a0, a1] K = V.vmo_Set_Drop_c1 a0 a1 K from by kernel_rfl]; exact h)

def V.num_Up (a0 a1 : Value) (KR : Value → WP) : WP :=
  FnV pg (.func (.func 59) #[] #[]) #[a0, a1] fun v11 =>
  Ext v11 0 fun v12 =>
  Ext v11 1 fun v13 =>
  Un .not v13 fun v15 =>
  Grd v15 false (BinI .eql v12 a0 fun v19 =>
  Cnd v19 (KR (.tuple #[v12, v13]))
  (FnV pg (.func (.func 60) #[] #[]) #[v12, a1] fun v25 =>
  Ext v25 0 fun v26 =>
  Ext v25 1 fun v27 =>
  KR (.tuple #[v26, v27])))
  (KR (.tuple #[v12, v13]))
theorem V.num_Up_ok {a0 a1 : Value} {K : Value → WP} {w : World} (h : V.num_Up a0 a1 K w) : Cl pg 44 #[a0, a1] K w :=
  cl_of pg_mixed Try.func44 (args := [a0, a1]) (by kernel_rfl) (by rw [show WF pg Try.f44 [a0, a1] K = V.num_Up a0 a1 K from by kernel_rfl]; exact h)

def V.num_Within (a0 a1 a2 : Value) (KR : Value → WP) : WP :=
  BinI .geq a0 (.int .i64 0) fun v8 =>
  Grd v8 true (BinI .geq a1 (.int .i64 0) fun v11 =>
  Grd v11 true (BinI .leq a0 a2 fun v16 =>
  Grd v16 true (BinI .sub a2 a0 fun v22 =>
  BinI .leq a1 v22 fun v23 =>
  KR v23)
  (KR (.bool false)))
  (KR (.bool false)))
  (KR (.bool false))
theorem V.num_Within_ok {a0 a1 a2 : Value} {K : Value → WP} {w : World} (h : V.num_Within a0 a1 a2 K w) : Cl pg 45 #[a0, a1, a2] K w :=
  cl_of pg_mixed Try.func45 (args := [a0, a1, a2]) (by kernel_rfl) (by rw [show WF pg Try.f45 [a0, a1, a2] K = V.num_Within a0 a1 a2 K from by kernel_rfl]; exact h)

def V.vmo_Set_base (a0 a1 : Value) (KR : Value → WP) : WP :=
  LoopC [(.int .i64 0), a1] fun vK vs => AllE <|
  UN vs fun v6 vs =>
  UN vs fun v1 _ =>
  NilC v1 fun v8 =>
  FA v8 4 fun v9 =>
  Ld1 v9 fun v10 =>
  Cnd v10 (NilC v1 fun v13 =>
  FA v13 5 fun v14 =>
  Ld1 v14 fun v15 =>
  BinI .add v6 v15 fun v16 =>
  Drw <| QtC fun I =>
  QE I (fun KK => NilC a0 fun v18 =>
  KK v18) fun v18_1 =>
  QE I (fun KK => FA v18_1 1 fun v19 =>
  KK v19) fun v19_1 =>
  QE I (fun KK => Ld1 v19_1 fun v20 =>
  KK v20) fun v20_1 =>
  QE I (fun KK => NilC v1 fun v22 =>
  KK v22) fun v22_1 =>
  QE I (fun KK => FA v22_1 1 fun v23 =>
  KK v23) fun v23_1 =>
  QE I (fun KK => Ld1 v23_1 fun v24 =>
  KK v24) fun v24_1 =>
  Ex pg (Instr.lookup 58 v20_1 v24_1 false) fun v25 =>
  vK [v16, v25])
  (KR (.tuple #[v1, v6]))
theorem V.vmo_Set_base_ok {a0 a1 : Value} {K : Value → WP} {w : World} (h : V.vmo_Set_base a0 a1 K w) : Cl pg 46 #[a0, a1] K w :=
  cl_of pg_mixed Try.func46 (args := [a0, a1]) (by kernel_rfl) (by rw [show WF pg Try.f46 [a0, a1] K = V.vmo_Set_base a0 a1 K from by kernel_rfl]; exact h)

def V.pages_Pool_Users (a0 a1 : Value) (KR : Value → WP) : WP :=
  FnV pg (.func (.func 52) #[] #[]) #[a0, a1] fun v8 =>
  EqP true v8 (.pointer none) fun v10 =>
  Cnd v10 (NilC v8 fun v12 =>
  FA v12 64 fun v13 =>
  Ld1 v13 fun v14 =>
  KR v14)
  (KR (.int .i64 0))
theorem V.pages_Pool_Users_ok {a0 a1 : Value} {K : Value → WP} {w : World} (h : V.pages_Pool_Users a0 a1 K w) : Cl pg 47 #[a0, a1] K w :=
  cl_of pg_mixed Try.func47 (args := [a0, a1]) (by kernel_rfl) (by rw [show WF pg Try.f47 [a0, a1] K = V.pages_Pool_Users a0 a1 K from by kernel_rfl]; exact h)

def V.pages_Pool_Own (a0 a1 : Value) (KR : Value → WP) : WP :=
  FnV pg (.func (.func 52) #[] #[]) #[a0, a1] fun v12 =>
  EqP false v12 (.pointer none) fun v15 =>
  Cnd v15 (KR (.tuple #[(.int .i64 0), (.int .i64 (-25))]))
  (NilC v12 fun v18 =>
  FA v18 64 fun v19 =>
  Ld1 v19 fun v20 =>
  BinI .eql v20 (.int .i64 1) fun v21 =>
  Cnd v21 (KR (.tuple #[a1, (.int .i64 0)]))
  (NilC v12 fun v24 =>
  FA v24 0 fun v25 =>
  LdN 64 v25 fun v26 =>
  New 96 #[(.int .u8 0), (.int .u8 0), (.int .u8 0), (.int .u8 0), (.int .u8 0), (.int .u8 0), (.int .u8 0), (.int .u8 0), (.int .u8 0), (.int .u8 0), (.int .u8 0), (.int .u8 0), (.int .u8 0), (.int .u8 0), (.int .u8 0), (.int .u8 0), (.int .u8 0), (.int .u8 0), (.int .u8 0), (.int .u8 0), (.int .u8 0), (.int .u8 0), (.int .u8 0), (.int .u8 0), (.int .u8 0), (.int .u8 0), (.int .u8 0), (.int .u8 0), (.int .u8 0), (.int .u8 0), (.int .u8 0), (.int .u8 0), (.int .u8 0), (.int .u8 0), (.int .u8 0), (.int .u8 0), (.int .u8 0), (.int .u8 0), (.int .u8 0), (.int .u8 0), (.int .u8 0), (.int .u8 0), (.int .u8 0), (.int .u8 0), (.int .u8 0), (.int .u8 0), (.int .u8 0), (.int .u8 0), (.int .u8 0), (.int .u8 0), (.int .u8 0), (.int .u8 0), (.int .u8 0), (.int .u8 0), (.int .u8 0), (.int .u8 0), (.int .u8 0), (.int .u8 0), (.int .u8 0), (.int .u8 0), (.int .u8 0), (.int .u8 0), (.int .u8 0), (.int .u8 0)] fun v7 =>
  St 64 v7 v26 fun _ =>
  FnV pg (.func (.func 49) #[] #[]) #[a0] fun v29 =>
  Ext v29 0 fun v30 =>
  Ext v29 1 fun v31 =>
  BinI .neq v31 (.int .i64 0) fun v33 =>
  Cnd v33 (KR (.tuple #[(.int .i64 0), v31]))
  (Drw <| QtC fun I =>
  QE I (fun KK => NilC a0 fun v36 =>
  KK v36) fun v36_1 =>
  QE I (fun KK => FA v36_1 0 fun v37 =>
  KK v37) fun v37_1 =>
  QE I (fun KK => Ld1 v37_1 fun v38 =>
  KK v38) fun v38_1 =>
  QE I (fun KK => LdN 64 v7 fun v40 =>
  KK v40) fun v40_1 =>
  IA 65 v38_1 v30 fun v41 =>
  FA v41 0 fun v42 =>
  St 64 v42 v40_1 fun _ =>
  NilC a0 fun v44 =>
  FA v44 0 fun v45 =>
  Ld1 v45 fun v46 =>
  IA 65 v46 a1 fun v48 =>
  FA v48 64 fun v49 =>
  Ld1 v49 fun v50 =>
  BinI .sub v50 (.int .i64 1) fun v51 =>
  IA 65 v46 a1 fun v52 =>
  FA v52 64 fun v53 =>
  St 1 v53 v51 fun _ =>
  KR (.tuple #[v30, (.int .i64 0)]))))
theorem V.pages_Pool_Own_ok {a0 a1 : Value} {K : Value → WP} {w : World} (h : V.pages_Pool_Own a0 a1 K w) : Cl pg 48 #[a0, a1] K w :=
  cl_of pg_mixed Try.func48 (args := [a0, a1]) (by kernel_rfl) (by rw [show WF pg Try.f48 [a0, a1] K = V.pages_Pool_Own a0 a1 K from by kernel_rfl]; exact h)

def V.pages_Pool_Alloc (a0 : Value) (KR : Value → WP) : WP :=
  Drw <| QtC fun I =>
  QE I (fun KK => NilC a0 fun v5 =>
  KK v5) fun v5_1 =>
  QE I (fun KK => FA v5_1 2 fun v6 =>
  KK v6) fun v6_1 =>
  QE I (fun KK => Ld1 v6_1 fun v7 =>
  KK v7) fun v7_1 =>
  QE I (fun KK => NilC a0 fun v9 =>
  KK v9) fun v9_1 =>
  QE I (fun KK => FA v9_1 1 fun v10 =>
  KK v10) fun v10_1 =>
  QE I (fun KK => Ld1 v10_1 fun v11 =>
  KK v11) fun v11_1 =>
  BinI .eql v7_1 v11_1 fun v12 =>
  Cnd v12 (KR (.tuple #[(.int .i64 0), (.int .i64 (-4))]))
  (NilC a0 fun v14 =>
  FA v14 0 fun v15 =>
  Ld1 v15 fun v16 =>
  FnV pg (.func (.func 61) #[] #[]) #[v16, (.func (.func 62) #[] #[])] fun v17 =>
  JoinC (fun vs => AllE (UN vs fun v2 _ =>
  NilC a0 fun v36 =>
  FA v36 0 fun v37 =>
  Ld1 v37 fun v38 =>
  Ex pg (bldS #[(.int .u8 0), (.int .u8 0), (.int .u8 0), (.int .u8 0), (.int .u8 0), (.int .u8 0), (.int .u8 0), (.int .u8 0), (.int .u8 0), (.int .u8 0), (.int .u8 0), (.int .u8 0), (.int .u8 0), (.int .u8 0), (.int .u8 0), (.int .u8 0), (.int .u8 0), (.int .u8 0), (.int .u8 0), (.int .u8 0), (.int .u8 0), (.int .u8 0), (.int .u8 0), (.int .u8 0), (.int .u8 0), (.int .u8 0), (.int .u8 0), (.int .u8 0), (.int .u8 0), (.int .u8 0), (.int .u8 0), (.int .u8 0), (.int .u8 0), (.int .u8 0), (.int .u8 0), (.int .u8 0), (.int .u8 0), (.int .u8 0), (.int .u8 0), (.int .u8 0), (.int .u8 0), (.int .u8 0), (.int .u8 0), (.int .u8 0), (.int .u8 0), (.int .u8 0), (.int .u8 0), (.int .u8 0), (.int .u8 0), (.int .u8 0), (.int .u8 0), (.int .u8 0), (.int .u8 0), (.int .u8 0), (.int .u8 0), (.int .u8 0), (.int .u8 0), (.int .u8 0), (.int .u8 0), (.int .u8 0), (.int .u8 0), (.int .u8 0), (.int .u8 0), (.int .u8 0), (.int .i64 0)] [(0, 64), (64, 1)] #[(1, (.int .i64 1))]) fun v40 =>
  IA 65 v38 v2 fun v41 =>
  St 65 v41 v40 fun _ =>
  NilC a0 fun v43 =>
  FA v43 2 fun v44 =>
  Ld1 v44 fun v45 =>
  BinI .add v45 (.int .i64 1) fun v46 =>
  NilC a0 fun v47 =>
  FA v47 2 fun v48 =>
  St 1 v48 v46 fun _ =>
  KR (.tuple #[v2, (.int .i64 0)])))
  fun vK =>
  BinI .lss v17 (.int .i64 0) fun v19 =>
  Cnd v19 (NilC a0 fun v21 =>
  FA v21 0 fun v22 =>
  Ld1 v22 fun v23 =>
  LenS v23 fun v24 =>
  NilC a0 fun v27 =>
  FA v27 0 fun v28 =>
  Ld1 v28 fun v29 =>
  Ex pg (bldS #[(.int .u8 0), (.int .u8 0), (.int .u8 0), (.int .u8 0), (.int .u8 0), (.int .u8 0), (.int .u8 0), (.int .u8 0), (.int .u8 0), (.int .u8 0), (.int .u8 0), (.int .u8 0), (.int .u8 0), (.int .u8 0), (.int .u8 0), (.int .u8 0), (.int .u8 0), (.int .u8 0), (.int .u8 0), (.int .u8 0), (.int .u8 0), (.int .u8 0), (.int .u8 0), (.int .u8 0), (.int .u8 0), (.int .u8 0), (.int .u8 0), (.int .u8 0), (.int .u8 0), (.int .u8 0), (.int .u8 0), (.int .u8 0), (.int .u8 0), (.int .u8 0), (.int .u8 0), (.int .u8 0), (.int .u8 0), (.int .u8 0), (.int .u8 0), (.int .u8 0), (.int .u8 0), (.int .u8 0), (.int .u8 0), (.int .u8 0), (.int .u8 0), (.int .u8 0), (.int .u8 0), (.int .u8 0), (.int .u8 0), (.int .u8 0), (.int .u8 0), (.int .u8 0), (.int .u8 0), (.int .u8 0), (.int .u8 0), (.int .u8 0), (.int .u8 0), (.int .u8 0), (.int .u8 0), (.int .u8 0), (.int .u8 0), (.int .u8 0), (.int .u8 0), (.int .u8 0), (.int .i64 0)] [(0, 64), (64, 1)] #[]) fun v30 =>
  BSlC 98 65 #[(.int .u8 0), (.int .u8 0), (.int .u8 0), (.int .u8 0), (.int .u8 0), (.int .u8 0), (.int .u8 0), (.int .u8 0), (.int .u8 0), (.int .u8 0), (.int .u8 0), (.int .u8 0), (.int .u8 0), (.int .u8 0), (.int .u8 0), (.int .u8 0), (.int .u8 0), (.int .u8 0), (.int .u8 0), (.int .u8 0), (.int .u8 0), (.int .u8 0), (.int .u8 0), (.int .u8 0), (.int .u8 0), (.int .u8 0), (.int .u8 0), (.int .u8 0), (.int .u8 0), (.int .u8 0), (.int .u8 0), (.int .u8 0), (.int .u8 0), (.int .u8 0), (.int .u8 0), (.int .u8 0), (.int .u8 0), (.int .u8 0), (.int .u8 0), (.int .u8 0), (.int .u8 0), (.int .u8 0), (.int .u8 0), (.int .u8 0), (.int .u8 0), (.int .u8 0), (.int .u8 0), (.int .u8 0), (.int .u8 0), (.int .u8 0), (.int .u8 0), (.int .u8 0), (.int .u8 0), (.int .u8 0), (.int .u8 0), (.int .u8 0), (.int .u8 0), (.int .u8 0), (.int .u8 0), (.int .u8 0), (.int .u8 0), (.int .u8 0), (.int .u8 0), (.int .u8 0), (.int .i64 0)] 1 #[(0, v30)] fun v31 =>
  AppC 98 65 72 #[(.int .u8 0), (.int .u8 0), (.int .u8 0), (.int .u8 0), (.int .u8 0), (.int .u8 0), (.int .u8 0), (.int .u8 0), (.int .u8 0), (.int .u8 0), (.int .u8 0), (.int .u8 0), (.int .u8 0), (.int .u8 0), (.int .u8 0), (.int .u8 0), (.int .u8 0), (.int .u8 0), (.int .u8 0), (.int .u8 0), (.int .u8 0), (.int .u8 0), (.int .u8 0), (.int .u8 0), (.int .u8 0), (.int .u8 0), (.int .u8 0), (.int .u8 0), (.int .u8 0), (.int .u8 0), (.int .u8 0), (.int .u8 0), (.int .u8 0), (.int .u8 0), (.int .u8 0), (.int .u8 0), (.int .u8 0), (.int .u8 0), (.int .u8 0), (.int .u8 0), (.int .u8 0), (.int .u8 0), (.int .u8 0), (.int .u8 0), (.int .u8 0), (.int .u8 0), (.int .u8 0), (.int .u8 0), (.int .u8 0), (.int .u8 0), (.int .u8 0), (.int .u8 0), (.int .u8 0), (.int .u8 0), (.int .u8 0), (.int .u8 0), (.int .u8 0), (.int .u8 0), (.int .u8 0), (.int .u8 0), (.int .u8 0), (.int .u8 0), (.int .u8 0), (.int .u8 0), (.int .i64 0)] v29 v31 fun v32 =>
  NilC a0 fun v33 =>
  FA v33 0 fun v34 =>
  St 1 v34 v32 fun _ =>
  vK [v24])
  (vK [v17]))
theorem V.pages_Pool_Alloc_ok {a0 : Value} {K : Value → WP} {w : World} (h : V.pages_Pool_Alloc a0 K w) : Cl pg 49 #[a0] K w :=
  cl_of pg_mixed Try.func49 (args := [a0]) (by kernel_rfl) (by rw [show WF pg Try.f49 [a0] K = V.pages_Pool_Alloc a0 K from by kernel_rfl]; exact h)

def V.num_Pages (a0 a1 : Value) (KR : Value → WP) : WP :=
  FnV pg (.func (.func 60) #[] #[]) #[a0, a1] fun v12 =>
  Ext v12 0 fun v13 =>
  Ext v12 1 fun v14 =>
  BinI .lss a0 (.int .i64 0) fun v16 =>
  Grd v16 false (BinI .lss a1 (.int .i64 0) fun v19 =>
  Grd v19 false (Un .not v14 fun v23 =>
  Cnd v23 (KR (.tuple #[(.int .i64 0), (.int .i64 0), (.bool false)]))
  (BinI .quo a0 (.int .i64 64) fun v26 =>
  BinI .eql a1 (.int .i64 0) fun v28 =>
  Cnd v28 (KR (.tuple #[v26, (.int .i64 0), (.bool true)]))
  (BinI .sub v13 (.int .i64 1) fun v32 =>
  BinI .quo v32 (.int .i64 64) fun v33 =>
  BinI .sub v33 v26 fun v35 =>
  BinI .add v35 (.int .i64 1) fun v36 =>
  KR (.tuple #[v26, v36, (.bool true)]))))
  (KR (.tuple #[(.int .i64 0), (.int .i64 0), (.bool false)])))
  (KR (.tuple #[(.int .i64 0), (.int .i64 0), (.bool false)]))
theorem V.num_Pages_ok {a0 a1 : Value} {K : Value → WP} {w : World} (h : V.num_Pages a0 a1 K w) : Cl pg 50 #[a0, a1] K w :=
  cl_of pg_mixed Try.func50 (args := [a0, a1]) (by kernel_rfl) (by rw [show WF pg Try.f50 [a0, a1] K = V.num_Pages a0 a1 K from by kernel_rfl]; exact h)

def V.pages_Pool_Write (a0 a1 a2 a3 : Value) (KR : Value → WP) : WP :=
  FnV pg (.func (.func 52) #[] #[]) #[a0, a1] fun v12 =>
  EqP false v12 (.pointer none) fun v15 =>
  Cnd v15 (KR (.int .i64 (-25)))
  (LenS a3 fun v19 =>
  FnV pg (.func (.func 45) #[] #[]) #[a2, v19, (.int .i64 64)] fun v20 =>
  Un .not v20 fun v21 =>
  Cnd v21 (KR (.int .i64 (-14)))
  (NilC v12 fun v24 =>
  FA v24 64 fun v25 =>
  Ld1 v25 fun v26 =>
  BinI .gtr v26 (.int .i64 1) fun v27 =>
  Cnd v27 (KR (.int .i64 (-20)))
  (NilC v12 fun v29 =>
  FA v29 0 fun v30 =>
  Ex pg (Instr.sliceAt 96 v30 (some a2) none none) fun v32 =>
  Ex pg (Builtin.copy_ #[22, 22] 3 #[v32, a3]) fun _ =>
  KR (.int .i64 0))))
theorem V.pages_Pool_Write_ok {a0 a1 a2 a3 : Value} {K : Value → WP} {w : World} (h : V.pages_Pool_Write a0 a1 a2 a3 K w) : Cl pg 51 #[a0, a1, a2, a3] K w :=
  cl_of pg_mixed Try.func51 (args := [a0, a1, a2, a3]) (by kernel_rfl) (by rw [show WF pg Try.f51 [a0, a1, a2, a3] K = V.pages_Pool_Write a0 a1 a2 a3 K from by kernel_rfl]; exact h)

def V.pages_Pool_find (a0 a1 : Value) (KR : Value → WP) : WP :=
  BinI .lss a1 (.int .i64 0) fun v6 =>
  Grd v6 false (NilC a0 fun v10 =>
  FA v10 0 fun v11 =>
  Ld1 v11 fun v12 =>
  LenS v12 fun v13 =>
  BinI .geq a1 v13 fun v14 =>
  Grd v14 false (NilC a0 fun v18 =>
  FA v18 0 fun v19 =>
  Ld1 v19 fun v20 =>
  IA 65 v20 a1 fun v22 =>
  FA v22 64 fun v23 =>
  Ld1 v23 fun v24 =>
  BinI .eql v24 (.int .i64 0) fun v25 =>
  Cnd v25 (KR (.pointer none))
  (NilC a0 fun v28 =>
  FA v28 0 fun v29 =>
  Ld1 v29 fun v30 =>
  IA 65 v30 a1 fun v32 =>
  KR v32))
  (KR (.pointer none)))
  (KR (.pointer none))
theorem V.pages_Pool_find_ok {a0 a1 : Value} {K : Value → WP} {w : World} (h : V.pages_Pool_find a0 a1 K w) : Cl pg 52 #[a0, a1] K w :=
  cl_of pg_mixed Try.func52 (args := [a0, a1]) (by kernel_rfl) (by rw [show WF pg Try.f52 [a0, a1] K = V.pages_Pool_find a0 a1 K from by kernel_rfl]; exact h)

def V.bytes_Clone (a0 : Value) (KR : Value → WP) : WP :=
  BinX pg .eql 22 (.tmp 3) (.const (.slice none 0 0)) a0 (.slice none 0 0) fun v4 =>
  Cnd v4 (KR (.slice none 0 0))
  (BSlC 5 1 #[(.int .u8 0)] 0 #[] fun v5 =>
  AppC 5 1 1 #[(.int .u8 0)] v5 a0 fun v7 =>
  KR v7)
theorem V.bytes_Clone_ok {a0 : Value} {K : Value → WP} {w : World} (h : V.bytes_Clone a0 K w) : Cl pg 53 #[a0] K w :=
  cl_of pg_mixed Try.func53 (args := [a0]) (by kernel_rfl) (by rw [show WF pg Try.f53 [a0] K = V.bytes_Clone a0 K from by kernel_rfl]; exact h)

def V.pages_Pool_Release (a0 a1 : Value) (KR : Value → WP) : WP :=
  FnV pg (.func (.func 52) #[] #[]) #[a0, a1] fun v8 =>
  EqP false v8 (.pointer none) fun v10 =>
  Cnd v10 (KR (.int .i64 (-25)))
  (NilC v8 fun v12 =>
  FA v12 64 fun v13 =>
  Ld1 v13 fun v14 =>
  BinI .sub v14 (.int .i64 1) fun v15 =>
  NilC v8 fun v16 =>
  FA v16 64 fun v17 =>
  St 1 v17 v15 fun _ =>
  NilC v8 fun v19 =>
  FA v19 64 fun v20 =>
  Ld1 v20 fun v21 =>
  BinI .eql v21 (.int .i64 0) fun v22 =>
  Cnd v22 (NilC a0 fun v24 =>
  FA v24 2 fun v25 =>
  Ld1 v25 fun v26 =>
  BinI .sub v26 (.int .i64 1) fun v27 =>
  NilC a0 fun v28 =>
  FA v28 2 fun v29 =>
  St 1 v29 v27 fun _ =>
  KR (.int .i64 0))
  (KR (.int .i64 0)))
theorem V.pages_Pool_Release_ok {a0 a1 : Value} {K : Value → WP} {w : World} (h : V.pages_Pool_Release a0 a1 K w) : Cl pg 54 #[a0, a1] K w :=
  cl_of pg_mixed Try.func54 (args := [a0, a1]) (by kernel_rfl) (by rw [show WF pg Try.f54 [a0, a1] K = V.pages_Pool_Release a0 a1 K from by kernel_rfl]; exact h)

def V.slices_IndexFunc_int_int (a0 a1 : Value) (KR : Value → WP) : WP :=
  LenS a0 fun v7 =>
  LoopC [(.int .i64 0), (.int .i64 0)] fun vK vs => AllE <|
  UN vs fun v4 vs =>
  UN vs fun v8 _ =>
  BinI .lss v8 v7 fun v9 =>
  Cnd v9 (IA 1 a0 v8 fun v14 =>
  Ld1 v14 fun v15 =>
  FnV pg a1 #[v15] fun v16 =>
  Cnd v16 (KR v8)
  (BinI .add v8 (.int .i64 1) fun v18 =>
  vK [v4, v18]))
  (KR (.int .i64 (-1)))
theorem V.slices_IndexFunc_int_int_ok {a0 a1 : Value} {K : Value → WP} {w : World} (h : V.slices_IndexFunc_int_int a0 a1 K w) : Cl pg 55 #[a0, a1] K w :=
  cl_of pg_mixed Try.func55 (args := [a0, a1]) (by kernel_rfl) (by rw [show WF pg Try.f55 [a0, a1] K = V.slices_IndexFunc_int_int a0 a1 K from by kernel_rfl]; exact h)

def V.slices_Collect_int (a0 : Value) (KR : Value → WP) : WP :=
  FnV pg (.func (.func 63) #[] #[]) #[(.slice none 0 0), a0] fun v4 =>
  KR v4
theorem V.slices_Collect_int_ok {a0 : Value} {K : Value → WP} {w : World} (h : V.slices_Collect_int a0 K w) : Cl pg 56 #[a0] K w :=
  cl_of pg_mixed Try.func56 (args := [a0]) (by kernel_rfl) (by rw [show WF pg Try.f56 [a0] K = V.slices_Collect_int a0 K from by kernel_rfl]; exact h)

def V.slices_Sort_int_int (a0 : Value) (KR : Value → WP) : WP :=
  LenS a0 fun v4 =>
  ConvI .u64 v4 fun v8 =>
  FnV pg (.func (.func 65) #[] #[]) #[v8] fun v9 =>
  FnV pg (.func (.func 64) #[] #[]) #[a0, (.int .i64 0), v4, v9] fun _ =>
  KR (.tuple #[])
theorem V.slices_Sort_int_int_ok {a0 : Value} {K : Value → WP} {w : World} (h : V.slices_Sort_int_int a0 K w) : Cl pg 57 #[a0] K w :=
  cl_of pg_mixed Try.func57 (args := [a0]) (by kernel_rfl) (by rw [show WF pg Try.f57 [a0] K = V.slices_Sort_int_int a0 K from by kernel_rfl]; exact h)

def V.maps_Keys_c1_map_int_int_int_int (a0 a1 : Value) (KR : Value → WP) : WP :=
  Ld1 a1 fun v4 =>
  Ex pg (Instr.range 63 v4) fun v5 =>
  LoopC [] fun vK _ => AllE <|
  Ex pg (Instr.next v5 false 0) fun v6 =>
  Ext v6 0 fun v7 =>
  Cnd v7 (Ex pg (Instr.entry v5) fun v8 =>
  Ext v8 0 fun v9 =>
  FnV pg a0 #[v9] fun v12 =>
  Un .not v12 fun v13 =>
  Cnd v13 (KR (.tuple #[]))
  (vK []))
  (KR (.tuple #[]))
theorem V.maps_Keys_c1_map_int_int_int_int_ok {a0 a1 : Value} {K : Value → WP} {w : World} (h : V.maps_Keys_c1_map_int_int_int_int a0 a1 K w) : Cl pg 58 #[a0, a1] K w :=
  cl_of pg_mixed Try.func58 (args := [a0, a1]) (by kernel_rfl) (by rw [show WF pg Try.f58 [a0, a1] K = V.maps_Keys_c1_map_int_int_int_int a0 a1 K from by kernel_rfl]; exact h)

def V.num_Down (a0 a1 : Value) (KR : Value → WP) : WP :=
  BinI .lss a1 (.int .i64 1) fun v7 =>
  Grd v7 false (BinI .lss a0 (.int .i64 0) fun v10 =>
  Cnd v10 (KR (.tuple #[(.int .i64 0), (.bool false)]))
  (BinI .rem a0 a1 fun v15 =>
  BinI .sub a0 v15 fun v16 =>
  KR (.tuple #[v16, (.bool true)])))
  (KR (.tuple #[(.int .i64 0), (.bool false)]))
theorem V.num_Down_ok {a0 a1 : Value} {K : Value → WP} {w : World} (h : V.num_Down a0 a1 K w) : Cl pg 59 #[a0, a1] K w :=
  cl_of pg_mixed Try.func59 (args := [a0, a1]) (by kernel_rfl) (by rw [show WF pg Try.f59 [a0, a1] K = V.num_Down a0 a1 K from by kernel_rfl]; exact h)

def V.num_Add (a0 a1 : Value) (KR : Value → WP) : WP :=
  BinI .add a0 a1 fun v9 =>
  BinI .gtr v9 a0 fun v12 =>
  BinI .gtr a1 (.int .i64 0) fun v14 =>
  EqB true v12 v14 fun v15 =>
  Grd v15 true (BinI .neq a1 (.int .i64 0) fun v18 =>
  Cnd v18 (KR (.tuple #[(.int .i64 0), (.bool false)]))
  (KR (.tuple #[v9, (.bool true)])))
  (KR (.tuple #[v9, (.bool true)]))
theorem V.num_Add_ok {a0 a1 : Value} {K : Value → WP} {w : World} (h : V.num_Add a0 a1 K w) : Cl pg 60 #[a0, a1] K w :=
  cl_of pg_mixed Try.func60 (args := [a0, a1]) (by kernel_rfl) (by rw [show WF pg Try.f60 [a0, a1] K = V.num_Add a0 a1 K from by kernel_rfl]; exact h)

def V.slices_IndexFunc_frame_frame (a0 a1 : Value) (KR : Value → WP) : WP :=
  LenS a0 fun v7 =>
  LoopC [(.int .i64 0), (.int .i64 0)] fun vK vs => AllE <|
  UN vs fun v4 vs =>
  UN vs fun v8 _ =>
  BinI .lss v8 v7 fun v9 =>
  Cnd v9 (IA 65 a0 v8 fun v14 =>
  LdN 65 v14 fun v15 =>
  FnV pg a1 #[v15] fun v16 =>
  Cnd v16 (KR v8)
  (BinI .add v8 (.int .i64 1) fun v18 =>
  vK [v4, v18]))
  (KR (.int .i64 (-1)))
theorem V.slices_IndexFunc_frame_frame_ok {a0 a1 : Value} {K : Value → WP} {w : World} (h : V.slices_IndexFunc_frame_frame a0 a1 K w) : Cl pg 61 #[a0, a1] K w :=
  cl_of pg_mixed Try.func61 (args := [a0, a1]) (by kernel_rfl) (by rw [show WF pg Try.f61 [a0, a1] K = V.slices_IndexFunc_frame_frame a0 a1 K from by kernel_rfl]; exact h)

def V.pages_Pool_Alloc_c1 (a0 : Value) (KR : Value → WP) : WP :=
  New 98 (Value.cells a0) fun v1 =>
  FA v1 64 fun v3 =>
  Ld1 v3 fun v4 =>
  BinI .eql v4 (.int .i64 0) fun v5 =>
  KR v5
theorem V.pages_Pool_Alloc_c1_ok {a0 : Value} {K : Value → WP} {w : World} (h : V.pages_Pool_Alloc_c1 a0 K w) : Cl pg 62 #[a0] K w :=
  cl_of pg_mixed Try.func62 (args := [a0]) (by kernel_rfl) (by rw [show WF pg Try.f62 [a0] K = V.pages_Pool_Alloc_c1 a0 K from by kernel_rfl]; exact h)

def V.slices_AppendSeq_int_int (a0 a1 : Value) (KR : Value → WP) : WP :=
  New 49 (Value.cells a0) fun v2 =>
  RF0 pg a1 (fun vl vs vK =>
  UN vs fun v7 vs =>
  UNe vs <|
  RBeg vl <|
  Ld1 v2 fun v8 =>
  BSlC 3 1 #[(.int .i64 0)] 1 #[(0, v7)] fun v10 =>
  AppC 3 1 8 #[(.int .i64 0)] v8 v10 fun v11 =>
  St 1 v2 v11 fun _ =>
  REnd vl none vK)
  fun vm vj =>
  JumpC vj (Ld1 v2 fun v12 =>
  LvC (.tuple #[vm]) <| KR v12)
  (LvC (.tuple #[vm]) <| KR (.slice none 0 0))
  (fun _ => fun _ => False)
theorem V.slices_AppendSeq_int_int_ok {a0 a1 : Value} {K : Value → WP} {w : World} (h : V.slices_AppendSeq_int_int a0 a1 K w) : Cl pg 63 #[a0, a1] K w :=
  cl_of pg_mixed Try.func63 (args := [a0, a1]) (by kernel_rfl) (by rw [show WF pg Try.f63 [a0, a1] K = V.slices_AppendSeq_int_int a0 a1 K from by kernel_rfl]; exact h)

def V.cmp_Less_int (a0 a1 : Value) (KR : Value → WP) : WP :=
  FnV pg (.func (.func 82) #[] #[]) #[a0] fun v6 =>
  Grd v6 true (FnV pg (.func (.func 82) #[] #[]) #[a1] fun v9 =>
  Un .not v9 fun v10 =>
  Grd v10 false (BinI .lss a0 a1 fun v15 =>
  KR v15)
  (KR (.bool true)))
  (BinI .lss a0 a1 fun v15_1 =>
  KR v15_1)
theorem V.cmp_Less_int_ok {a0 a1 : Value} {K : Value → WP} {w : World} (h : V.cmp_Less_int a0 a1 K w) : Cl pg 72 #[a0, a1] K w :=
  cl_of pg_mixed Try.func72 (args := [a0, a1]) (by kernel_rfl) (by rw [show WF pg Try.f72 [a0, a1] K = V.cmp_Less_int a0 a1 K from by kernel_rfl]; exact h)

def V.cmp_isNaN_int (a0 : Value) (KR : Value → WP) : WP :=
  BinI .neq a0 a0 fun v5 =>
  KR v5
theorem V.cmp_isNaN_int_ok {a0 : Value} {K : Value → WP} {w : World} (h : V.cmp_isNaN_int a0 K w) : Cl pg 82 #[a0] K w :=
  cl_of pg_mixed Try.func82 (args := [a0]) (by kernel_rfl) (by rw [show WF pg Try.f82 [a0] K = V.cmp_isNaN_int a0 K from by kernel_rfl]; exact h)
end Go.Proofs.Ytlcbfahjejgjlaa
