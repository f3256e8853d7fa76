/- What each function asks, printed by a program of this session's own; each is checked against the code. -/
import Derived.Test.YtplllehpaimpiaaBj
import Derived.Test.YtplllehpaimpiaaProg
set_option maxRecDepth 100000
namespace Go.Proofs.Ytplllehpaimpiaa
open Go Go.Jac
noncomputable abbrev pg : Program := Try.prog
theorem pg_mixed : pg.follows .mixedOrders = true := by kernel_rfl
def V.gosem_cut_init (KR : Value → WP) : WP :=
  FnV pg (.func (.func 1) #[] #[]) #[] fun _ =>
  KR (.tuple #[])
theorem V.gosem_cut_init_ok {K : Value → WP} {w : World} (h : V.gosem_cut_init  K w) : Cl pg 2 #[] K w :=
  cl_of pg_mixed Try.func2 (args := []) (by kernel_rfl) (by rw [show WF pg Try.f2 [] K = V.gosem_cut_init  K from by kernel_rfl]; exact h)

def V.jacinthlaw09_RegionBack (a0 a1 a2 : Value) (KR : Value → WP) : WP :=
  FnV pg (.func (.func 6) #[] #[]) #[(.int .i64 1024), (.int .i64 200)] fun v24 =>
  EqP false v24 (.pointer none) fun v26 =>
  Grd v26 false (LenS a0 fun v29 =>
  BinI .gtr v29 (.int .i64 30) fun v30 =>
  Cnd v30 (EqP true v24 (.pointer none) fun v33 =>
  Grd v33 true (FnV pg (.func (.func 7) #[] #[]) #[] fun v35 =>
  KR v35)
  (KR (.bool false)))
  (LenS a0 fun v38 =>
  LoopC [(.bool false), (.int .i64 0)] fun vK vs => AllE <|
  UN vs fun v6 vs =>
  UN vs fun v39 _ =>
  BinI .lss v39 v38 fun v40 =>
  Cnd v40 (IA 5 a0 v39 fun v41 =>
  LdN 5 v41 fun v42 =>
  New 27 #[(.int .i64 0), (.int .i64 0), (.int .i64 0), (.int .i64 0), (.int .i64 0)] fun v9 =>
  St 5 v9 v42 fun _ =>
  FA v9 3 fun v43 =>
  Ld1 v43 fun v44 =>
  BinI .gtr v44 (.int .i64 2147483648) fun v45 =>
  Cnd v45 (FnV pg (.func (.func 7) #[] #[]) #[] fun v46 =>
  KR v46)
  (LdN 5 v9 fun v48 =>
  FnV pg (.func (.func 8) #[] #[]) #[v24, v48] fun _ =>
  BinI .add v39 (.int .i64 1) fun v50 =>
  vK [v6, v50]))
  (New 30 #[(.int .i64 0), (.int .i64 0), (.int .i64 0), (.int .i64 0), (.int .i64 0), (.int .i64 0), (.int .i64 0), (.int .i64 0), (.int .i64 0), (.int .i64 0), (.int .i64 0), (.int .i64 0), (.int .i64 0), (.int .i64 0), (.int .i64 0), (.int .i64 0), (.int .i64 0), (.int .i64 0), (.int .i64 0), (.int .i64 0), (.int .i64 0), (.int .i64 0), (.int .i64 0), (.int .i64 0), (.int .i64 0), (.int .i64 0), (.int .i64 0), (.int .i64 0), (.int .i64 0), (.int .i64 0), (.int .i64 0), (.int .i64 0), (.int .i64 0), (.int .i64 0), (.int .i64 0), (.int .i64 0), (.int .i64 0), (.int .i64 0), (.int .i64 0), (.int .i64 0), (.int .i64 0), (.int .i64 0), (.int .i64 0), (.int .i64 0), (.int .i64 0), (.int .i64 0), (.int .i64 0), (.int .i64 0), (.int .i64 0), (.int .i64 0), (.int .i64 0), (.int .i64 0), (.int .i64 0), (.int .i64 0), (.int .i64 0), (.int .i64 0), (.int .i64 0), (.int .i64 0), (.int .i64 0), (.int .i64 0), (.int .i64 0), (.int .i64 0), (.int .i64 0), (.int .i64 0), (.int .i64 0), (.int .i64 0), (.int .i64 0), (.int .i64 0), (.int .i64 0), (.int .i64 0), (.int .i64 0), (.int .i64 0), (.int .i64 0), (.int .i64 0), (.int .i64 0), (.int .i64 0), (.int .i64 0), (.int .i64 0), (.int .i64 0), (.int .i64 0)] fun v10 =>
  LoopC [(.int .i64 0)] fun vK_1 vs => AllE <|
  UN vs fun v51 _ =>
  BinI .lss v51 (.int .i64 16) fun v52 =>
  Cnd v52 (BinI .mul (.int .i64 64) v51 fun v58 =>
  FnV pg (.func (.func 9) #[] #[]) #[v24, v58] fun v59 =>
  Ext v59 0 fun v60 =>
  Ext v59 1 fun _ =>
  IAr 16 5 v10 v51 fun v62 =>
  St 5 v62 v60 fun _ =>
  BinI .add v51 (.int .i64 1) fun v63 =>
  vK_1 [v63])
  (FnV pg (.func (.func 10) #[] #[]) #[v24] fun v65 =>
  FnV pg (.func (.func 11) #[] #[]) #[v24, a1, a2] fun v70 =>
  Ext v70 0 fun v71 =>
  Ext v70 1 fun v72 =>
  BinI .neq v72 (.int .i64 0) fun v74 =>
  Cnd v74 (LenS v71 fun v76 =>
  BinI .eql v76 (.int .i64 0) fun v77 =>
  Grd v77 true (FnV pg (.func (.func 10) #[] #[]) #[v24] fun v80 =>
  BinI .eql v80 v65 fun v82 =>
  Grd v82 true (FnV pg (.func (.func 7) #[] #[]) #[] fun v85 =>
  KR v85)
  (KR (.bool false)))
  (KR (.bool false)))
  (LenS v71 fun v88 =>
  LoopC [(.int .i64 0), v6, (.int .i64 0)] fun vK_2 vs => AllE <|
  UN vs fun v15 vs =>
  UN vs fun v6_1 vs =>
  UN vs fun v89 _ =>
  BinI .lss v89 v88 fun v90 =>
  Cnd v90 (IA 5 v71 v89 fun v92 =>
  LdN 5 v92 fun v93 =>
  New 27 #[(.int .i64 0), (.int .i64 0), (.int .i64 0), (.int .i64 0), (.int .i64 0)] fun v17 =>
  St 5 v17 v93 fun _ =>
  FA v17 1 fun v95 =>
  Ld1 v95 fun v96 =>
  BinI .add v15 v96 fun v97 =>
  Drw <| QtC fun I =>
  QE I (fun KK => FA v17 0 fun v98 =>
  KK v98) fun v98_1 =>
  QE I (fun KK => Ld1 v98_1 fun v99 =>
  KK v99) fun v99_1 =>
  BinI .lss v99_1 a1 fun v101 =>
  QtC fun I =>
  Grd v101 false (QE I (fun KK => FA v17 0 fun v103 =>
  KK v103) fun v103_1 =>
  QE I (fun KK => Ld1 v103_1 fun v104 =>
  KK v104) fun v104_1 =>
  QE I (fun KK => FA v17 1 fun v105 =>
  KK v105) fun v105_1 =>
  QE I (fun KK => Ld1 v105_1 fun v106 =>
  KK v106) fun v106_1 =>
  QE I (fun KK => BinI .add v104_1 v106_1 fun v107 =>
  KK v107) fun v107_1 =>
  QE I (fun KK => BinI .add a1 a2 fun v110 =>
  KK v110) fun v110_1 =>
  BinI .gtr v107_1 v110_1 fun v111 =>
  Grd v111 false (BinI .gtr v89 (.int .i64 0) fun v115 =>
  QtC fun I =>
  Grd v115 true (QE I (fun KK => BinI .sub v89 (.int .i64 1) fun v119 =>
  KK v119) fun v119_1 =>
  QE I (fun KK => IA 5 v71 v119_1 fun v120 =>
  KK v120) fun v120_1 =>
  QE I (fun KK => FA v120_1 0 fun v121 =>
  KK v121) fun v121_1 =>
  QE I (fun KK => Ld1 v121_1 fun v122 =>
  KK v122) fun v122_1 =>
  QE I (fun KK => FA v17 0 fun v123 =>
  KK v123) fun v123_1 =>
  QE I (fun KK => Ld1 v123_1 fun v124 =>
  KK v124) fun v124_1 =>
  BinI .geq v122_1 v124_1 fun v125 =>
  Cnd v125 (KR (.bool false))
  (BinI .add v89 (.int .i64 1) fun v128 =>
  vK_2 [v97, v6_1, v128]))
  (BinI .add v89 (.int .i64 1) fun v128_1 =>
  vK_2 [v97, v6_1, v128_1]))
  (QtC fun _ =>
  KR (.bool false)))
  (QtC fun _ =>
  KR (.bool false)))
  (FnV pg (.func (.func 10) #[] #[]) #[v24] fun v130 =>
  BinI .sub v65 v15 fun v133 =>
  BinI .neq v130 v133 fun v134 =>
  Cnd v134 (KR (.bool false))
  (LenS v71 fun v136 =>
  LoopC [v6_1, (.int .i64 0)] fun vK_3 vs => AllE <|
  UN vs fun v6_2 vs =>
  UN vs fun v137 _ =>
  BinI .lss v137 v136 fun v138 =>
  Cnd v138 (IA 5 v71 v137 fun v139 =>
  LdN 5 v139 fun v140 =>
  New 27 #[(.int .i64 0), (.int .i64 0), (.int .i64 0), (.int .i64 0), (.int .i64 0)] fun v19 =>
  St 5 v19 v140 fun _ =>
  LdN 5 v19 fun v142 =>
  FnV pg (.func (.func 8) #[] #[]) #[v24, v142] fun v143 =>
  BinI .neq v143 (.int .i64 0) fun v144 =>
  Cnd v144 (KR (.bool false))
  (BinI .add v137 (.int .i64 1) fun v145 =>
  vK_3 [v6_2, v145]))
  (LdN 80 v10 fun v146 =>
  LoopC [v6_2, (.int .i64 0)] fun vK_4 vs => AllE <|
  UN vs fun v6_3 vs =>
  UN vs fun v147 _ =>
  BinI .lss v147 (.int .i64 16) fun v148 =>
  Cnd v148 (Ex pg (Instr.index 30 v146 v147) fun v150 =>
  New 27 #[(.int .i64 0), (.int .i64 0), (.int .i64 0), (.int .i64 0), (.int .i64 0)] fun v21 =>
  St 5 v21 v150 fun _ =>
  BinI .mul (.int .i64 64) v147 fun v154 =>
  FnV pg (.func (.func 9) #[] #[]) #[v24, v154] fun v155 =>
  Ext v155 0 fun v156 =>
  Ext v155 1 fun v157 =>
  New 27 #[(.int .i64 0), (.int .i64 0), (.int .i64 0), (.int .i64 0), (.int .i64 0)] fun v22 =>
  St 5 v22 v156 fun _ =>
  FA v21 1 fun v159 =>
  Ld1 v159 fun v160 =>
  BinI .gtr v160 (.int .i64 0) fun v161 =>
  EqB true v157 v161 fun v162 =>
  Grd v162 false (Grd v157 true (FA v21 2 fun v166 =>
  Ld1 v166 fun v167 =>
  FA v22 2 fun v168 =>
  Ld1 v168 fun v169 =>
  BinI .neq v167 v169 fun v170 =>
  Grd v170 false (FA v21 4 fun v172 =>
  Ld1 v172 fun v173 =>
  FA v22 4 fun v174 =>
  Ld1 v174 fun v175 =>
  BinI .neq v173 v175 fun v176 =>
  Grd v176 false (FA v21 3 fun v179 =>
  Ld1 v179 fun v180 =>
  FA v21 0 fun v181 =>
  Ld1 v181 fun v182 =>
  BinI .sub v180 v182 fun v183 =>
  FA v22 3 fun v184 =>
  Ld1 v184 fun v185 =>
  FA v22 0 fun v186 =>
  Ld1 v186 fun v187 =>
  BinI .sub v185 v187 fun v188 =>
  BinI .neq v183 v188 fun v189 =>
  Cnd v189 (KR (.bool false))
  (BinI .add v147 (.int .i64 1) fun v193 =>
  vK_4 [v6_3, v193]))
  (KR (.bool false)))
  (KR (.bool false)))
  (BinI .add v147 (.int .i64 1) fun v193_1 =>
  vK_4 [v6_3, v193_1]))
  (KR (.bool false)))
  (FnV pg (.func (.func 10) #[] #[]) #[v24] fun v195 =>
  BinI .eql v195 v65 fun v197 =>
  Grd v197 true (FnV pg (.func (.func 7) #[] #[]) #[] fun v199 =>
  KR v199)
  (KR (.bool false)))))))))))
  (EqP true v24 (.pointer none) fun v33_1 =>
  Grd v33_1 true (FnV pg (.func (.func 7) #[] #[]) #[] fun v35_1 =>
  KR v35_1)
  (KR (.bool false)))
theorem V.jacinthlaw09_RegionBack_ok {a0 a1 a2 : Value} {K : Value → WP} {w : World} (h : V.jacinthlaw09_RegionBack a0 a1 a2 K w) : Cl pg 3 #[a0, a1, a2] K w :=
  cl_of pg_mixed Try.func3 (args := [a0, a1, a2]) (by kernel_rfl) (by rw [show WF pg Try.f3 [a0, a1, a2] K = V.jacinthlaw09_RegionBack a0 a1 a2 K from by kernel_rfl]; exact h)

def V.jacinthlaw09_RegionPlaces (a0 a1 : Value) (KR : Value → WP) : WP :=
  FnV pg (.func (.func 6) #[] #[]) #[(.int .i64 2048), (.int .i64 100)] fun v15 =>
  EqP false v15 (.pointer none) fun v17 =>
  Grd v17 false (LenS a0 fun v20 =>
  BinI .gtr v20 (.int .i64 30) fun v21 =>
  Cnd v21 (EqP true v15 (.pointer none) fun v24 =>
  Grd v24 true (FnV pg (.func (.func 7) #[] #[]) #[] fun v26 =>
  KR v26)
  (KR (.bool false)))
  (LenS a0 fun v29 =>
  LoopC [(.int .i64 0)] fun vK vs => AllE <|
  UN vs fun v30 _ =>
  BinI .lss v30 v29 fun v31 =>
  Cnd v31 (IA 5 a0 v30 fun v32 =>
  LdN 5 v32 fun v33 =>
  New 27 #[(.int .i64 0), (.int .i64 0), (.int .i64 0), (.int .i64 0), (.int .i64 0)] fun v7 =>
  St 5 v7 v33 fun _ =>
  LdN 5 v7 fun v35 =>
  FnV pg (.func (.func 8) #[] #[]) #[v15, v35] fun _ =>
  BinI .add v30 (.int .i64 1) fun v37 =>
  vK [v37])
  (FnV pg (.func (.func 12) #[] #[]) #[v15, a1] fun v41 =>
  Ext v41 0 fun v42 =>
  Ext v41 1 fun v43 =>
  BinI .lss a1 (.int .i64 1) fun v45 =>
  Grd v45 false (BinI .rem a1 (.int .i64 64) fun v48 =>
  BinI .neq v48 (.int .i64 0) fun v49 =>
  Cnd v49 (BinI .neq v43 (.int .i64 0) fun v52 =>
  Grd v52 true (FnV pg (.func (.func 7) #[] #[]) #[] fun v54 =>
  KR v54)
  (KR (.bool false)))
  (LoopC [(.int .i64 0), (.int .i64 (-1)), (.bool false), (.int .i64 0)] fun vK_1 vs => AllE <|
  UN vs fun v11 vs =>
  UN vs fun v10 vs =>
  UN vs fun v4 vs =>
  UN vs fun v56 _ =>
  BinI .lss v56 (.int .i64 32) fun v57 =>
  Cnd v57 (BinI .mul (.int .i64 64) v56 fun v62 =>
  FnV pg (.func (.func 9) #[] #[]) #[v15, v62] fun v63 =>
  Ext v63 0 fun v64 =>
  Ext v63 1 fun v65 =>
  New 27 #[(.int .i64 0), (.int .i64 0), (.int .i64 0), (.int .i64 0), (.int .i64 0)] fun v13 =>
  St 5 v13 v64 fun _ =>
  Cnd v65 (BinI .add v56 (.int .i64 1) fun v90 =>
  vK_1 [(.int .i64 0), v10, v4, v90])
  (BinI .add v11 (.int .i64 1) fun v68 =>
  BinI .mul (.int .i64 64) v68 fun v70 =>
  BinI .eql v70 a1 fun v72 =>
  Grd v72 true (BinI .lss v10 (.int .i64 0) fun v75 =>
  Cnd v75 (BinI .add v56 (.int .i64 1) fun v78 =>
  BinI .mul (.int .i64 64) v78 fun v79 =>
  BinI .sub v79 a1 fun v81 =>
  BinI .add v56 (.int .i64 1) fun v90_1 =>
  vK_1 [v68, v81, v4, v90_1])
  (BinI .mul (.int .i64 64) v68 fun v83 =>
  BinI .gtr v83 a1 fun v85 =>
  Grd v85 true (BinI .lss v10 (.int .i64 0) fun v88 =>
  Cnd v88 (KR (.bool false))
  (BinI .add v56 (.int .i64 1) fun v90_2 =>
  vK_1 [v68, v10, v4, v90_2]))
  (BinI .add v56 (.int .i64 1) fun v90_3 =>
  vK_1 [v68, v10, v4, v90_3])))
  (BinI .mul (.int .i64 64) v68 fun v83_1 =>
  BinI .gtr v83_1 a1 fun v85_1 =>
  Grd v85_1 true (BinI .lss v10 (.int .i64 0) fun v88_1 =>
  Cnd v88_1 (KR (.bool false))
  (BinI .add v56 (.int .i64 1) fun v90_4 =>
  vK_1 [v68, v10, v4, v90_4]))
  (BinI .add v56 (.int .i64 1) fun v90_5 =>
  vK_1 [v68, v10, v4, v90_5]))))
  (BinI .lss v10 (.int .i64 0) fun v92 =>
  Cnd v92 (BinI .neq v43 (.int .i64 0) fun v94 =>
  Grd v94 true (BinI .eql v42 (.int .i64 0) fun v97 =>
  Grd v97 true (FnV pg (.func (.func 7) #[] #[]) #[] fun v100 =>
  KR v100)
  (KR (.bool false)))
  (KR (.bool false)))
  (BinI .eql v43 (.int .i64 0) fun v103 =>
  Grd v103 true (BinI .eql v42 v10 fun v107 =>
  Grd v107 true (Ex pg (bldS #[(.int .i64 0), (.int .i64 0), (.int .i64 0), (.int .i64 0), (.int .i64 0)] [(0, 1), (1, 1), (2, 1), (3, 1), (4, 1)] #[(0, v42), (1, a1)]) fun v113 =>
  FnV pg (.func (.func 8) #[] #[]) #[v15, v113] fun v114 =>
  BinI .eql v114 (.int .i64 0) fun v115 =>
  Grd v115 true (FnV pg (.func (.func 7) #[] #[]) #[] fun v118 =>
  KR v118)
  (KR (.bool false)))
  (KR (.bool false)))
  (KR (.bool false))))))
  (BinI .neq v43 (.int .i64 0) fun v52_1 =>
  Grd v52_1 true (FnV pg (.func (.func 7) #[] #[]) #[] fun v54_1 =>
  KR v54_1)
  (KR (.bool false))))))
  (EqP true v15 (.pointer none) fun v24_1 =>
  Grd v24_1 true (FnV pg (.func (.func 7) #[] #[]) #[] fun v26_1 =>
  KR v26_1)
  (KR (.bool false)))
theorem V.jacinthlaw09_RegionPlaces_ok {a0 a1 : Value} {K : Value → WP} {w : World} (h : V.jacinthlaw09_RegionPlaces a0 a1 K w) : Cl pg 4 #[a0, a1] K w :=
  cl_of pg_mixed Try.func4 (args := [a0, a1]) (by kernel_rfl) (by rw [show WF pg Try.f4 [a0, a1] K = V.jacinthlaw09_RegionPlaces a0 a1 K from by kernel_rfl]; exact h)

def V.jacinthlaw09_RegionApart (a0 : Value) (KR : Value → WP) : WP :=
  FnV pg (.func (.func 6) #[] #[]) #[(.int .i64 1024), (.int .i64 100)] fun v22 =>
  EqP false v22 (.pointer none) fun v24 =>
  Grd v24 false (LenS a0 fun v27 =>
  BinI .gtr v27 (.int .i64 60) fun v28 =>
  Cnd v28 (EqP true v22 (.pointer none) fun v31 =>
  Grd v31 true (FnV pg (.func (.func 7) #[] #[]) #[] fun v33 =>
  KR v33)
  (KR (.bool false)))
  (New 41 #[(.int .i64 0), (.int .i64 0), (.int .i64 0), (.int .i64 0), (.int .i64 0), (.int .i64 0), (.int .i64 0), (.int .i64 0), (.int .i64 0), (.int .i64 0), (.int .i64 0), (.int .i64 0), (.int .i64 0), (.int .i64 0), (.int .i64 0), (.int .i64 0)] fun v4 =>
  New 41 #[(.int .i64 0), (.int .i64 0), (.int .i64 0), (.int .i64 0), (.int .i64 0), (.int .i64 0), (.int .i64 0), (.int .i64 0), (.int .i64 0), (.int .i64 0), (.int .i64 0), (.int .i64 0), (.int .i64 0), (.int .i64 0), (.int .i64 0), (.int .i64 0)] fun v5 =>
  New 41 #[(.int .i64 0), (.int .i64 0), (.int .i64 0), (.int .i64 0), (.int .i64 0), (.int .i64 0), (.int .i64 0), (.int .i64 0), (.int .i64 0), (.int .i64 0), (.int .i64 0), (.int .i64 0), (.int .i64 0), (.int .i64 0), (.int .i64 0), (.int .i64 0)] fun v6 =>
  LenS a0 fun v36 =>
  LoopC [(.bool false), (.int .i64 0)] fun vK vs => AllE <|
  UN vs fun v2 vs =>
  UN vs fun v37 _ =>
  BinI .lss v37 v36 fun v38 =>
  Cnd v38 (IA 9 a0 v37 fun v39 =>
  LdN 9 v39 fun v40 =>
  New 43 #[(.int .i64 0), (.int .i64 0), (.int .i64 0), (.int .i64 0), (.int .i64 0), (.int .i64 0), (.int .i64 0), (.int .i64 0), (.int .i64 0)] fun v8 =>
  St 9 v8 v40 fun _ =>
  FA v8 0 fun v41 =>
  Ld1 v41 fun v42 =>
  BinI .eql v42 (.int .i64 1) fun v44 =>
  Cnd v44 (FA v8 4 fun v45 =>
  LdN 5 v45 fun v46 =>
  New 27 #[(.int .i64 0), (.int .i64 0), (.int .i64 0), (.int .i64 0), (.int .i64 0)] fun v9 =>
  St 5 v9 v46 fun _ =>
  LdN 5 v9 fun v48 =>
  FnV pg (.func (.func 8) #[] #[]) #[v22, v48] fun v49 =>
  BinI .eql v49 (.int .i64 0) fun v50 =>
  Cnd v50 (FA v9 1 fun v51 =>
  Ld1 v51 fun v52 =>
  BinI .quo v52 (.int .i64 64) fun v53 =>
  LoopC [v2, (.int .i64 0)] fun vK_1 vs => AllE <|
  UN vs fun v2_1 vs =>
  UN vs fun v54 _ =>
  BinI .lss v54 v53 fun v55 =>
  Cnd v55 (FA v9 0 fun v57 =>
  Ld1 v57 fun v58 =>
  BinI .quo v58 (.int .i64 64) fun v59 =>
  BinI .add v59 v54 fun v61 =>
  IAr 16 1 v4 v61 fun v62 =>
  Ld1 v62 fun v63 =>
  BinI .neq v63 (.int .i64 0) fun v64 =>
  Cnd v64 (KR (.bool false))
  (Drw <| QtC fun I =>
  QE I (fun KK => FA v9 0 fun v65 =>
  KK v65) fun v65_1 =>
  QE I (fun KK => Ld1 v65_1 fun v66 =>
  KK v66) fun v66_1 =>
  QE I (fun KK => BinI .quo v66_1 (.int .i64 64) fun v67 =>
  KK v67) fun v67_1 =>
  QE I (fun KK => BinI .add v67_1 v54 fun v69 =>
  KK v69) fun v69_1 =>
  QE I (fun KK => FA v9 0 fun v70 =>
  KK v70) fun v70_1 =>
  QE I (fun KK => Ld1 v70_1 fun v71 =>
  KK v71) fun v71_1 =>
  QE I (fun KK => BinI .quo v71_1 (.int .i64 64) fun v72 =>
  KK v72) fun v72_1 =>
  QE I (fun KK => BinI .add v72_1 v54 fun v74 =>
  KK v74) fun v74_1 =>
  QE I (fun KK => FA v9 0 fun v75 =>
  KK v75) fun v75_1 =>
  QE I (fun KK => Ld1 v75_1 fun v76 =>
  KK v76) fun v76_1 =>
  QE I (fun KK => BinI .quo v76_1 (.int .i64 64) fun v77 =>
  KK v77) fun v77_1 =>
  QE I (fun KK => BinI .add v77_1 v54 fun v79 =>
  KK v79) fun v79_1 =>
  QE I (fun KK => FA v9 2 fun v80 =>
  KK v80) fun v80_1 =>
  QE I (fun KK => Ld1 v80_1 fun v81 =>
  KK v81) fun v81_1 =>
  QE I (fun KK => BinI .add v81_1 (.int .i64 1) fun v82 =>
  KK v82) fun v82_1 =>
  QE I (fun KK => FA v9 3 fun v83 =>
  KK v83) fun v83_1 =>
  QE I (fun KK => Ld1 v83_1 fun v84 =>
  KK v84) fun v84_1 =>
  QE I (fun KK => BinI .mul (.int .i64 64) v54 fun v86 =>
  KK v86) fun v86_1 =>
  QE I (fun KK => BinI .add v84_1 v86_1 fun v87 =>
  KK v87) fun v87_1 =>
  QE I (fun KK => FA v9 4 fun v88 =>
  KK v88) fun v88_1 =>
  QE I (fun KK => Ld1 v88_1 fun v89 =>
  KK v89) fun v89_1 =>
  QE I (fun KK => IAr 16 1 v4 v69_1 fun v90 =>
  KK v90) fun v90_1 =>
  St 1 v90_1 v82_1 fun _ =>
  CH I <|
  IAr 16 1 v5 v74_1 fun v91 =>
  CH I <|
  St 1 v91 v87_1 fun _ =>
  CH I <|
  IAr 16 1 v6 v79_1 fun v92 =>
  St 1 v92 v89_1 fun _ =>
  BinI .add v54 (.int .i64 1) fun v93 =>
  vK_1 [v2_1, v93]))
  (FA v9 2 fun v94 =>
  Ld1 v94 fun v95 =>
  BinI .eql v95 (.int .i64 (-1)) fun v96 =>
  Cnd v96 (FnV pg (.func (.func 7) #[] #[]) #[] fun v97 =>
  KR v97)
  (BinI .add v37 (.int .i64 1) fun v150 =>
  vK [v2_1, v150])))
  (BinI .add v37 (.int .i64 1) fun v150_1 =>
  vK [v2, v150_1]))
  (BinI .eql v42 (.int .i64 3) fun v99 =>
  Cnd v99 (FA v8 1 fun v102 =>
  Ld1 v102 fun v103 =>
  FA v8 2 fun v104 =>
  Ld1 v104 fun v105 =>
  FnV pg (.func (.func 11) #[] #[]) #[v22, v103, v105] fun v106 =>
  Ext v106 0 fun _ =>
  Ext v106 1 fun v108 =>
  BinI .eql v108 (.int .i64 0) fun v110 =>
  Cnd v110 (FA v8 2 fun v111 =>
  Ld1 v111 fun v112 =>
  BinI .quo v112 (.int .i64 64) fun v113 =>
  LoopC [(.int .i64 0)] fun vK_2 vs => AllE <|
  UN vs fun v114 _ =>
  BinI .lss v114 v113 fun v115 =>
  Cnd v115 (FA v8 1 fun v117 =>
  Ld1 v117 fun v118 =>
  BinI .quo v118 (.int .i64 64) fun v119 =>
  BinI .add v119 v114 fun v121 =>
  IAr 16 1 v4 v121 fun v122 =>
  St 1 v122 (.int .i64 0) fun _ =>
  BinI .add v114 (.int .i64 1) fun v123 =>
  vK_2 [v123])
  (BinI .add v37 (.int .i64 1) fun v150_2 =>
  vK [v2, v150_2]))
  (BinI .add v37 (.int .i64 1) fun v150_3 =>
  vK [v2, v150_3]))
  (BinI .eql v42 (.int .i64 4) fun v125 =>
  Cnd v125 (FA v8 1 fun v127 =>
  Ld1 v127 fun v128 =>
  FA v8 2 fun v129 =>
  Ld1 v129 fun v130 =>
  FA v8 3 fun v131 =>
  Ld1 v131 fun v132 =>
  FnV pg (.func (.func 13) #[] #[]) #[v22, v128, v130, v132] fun v133 =>
  BinI .eql v133 (.int .i64 0) fun v134 =>
  Cnd v134 (FA v8 2 fun v135 =>
  Ld1 v135 fun v136 =>
  BinI .quo v136 (.int .i64 64) fun v137 =>
  LoopC [(.int .i64 0)] fun vK_3 vs => AllE <|
  UN vs fun v138 _ =>
  BinI .lss v138 v137 fun v139 =>
  Cnd v139 (FA v8 1 fun v141 =>
  Ld1 v141 fun v142 =>
  BinI .quo v142 (.int .i64 64) fun v143 =>
  BinI .add v143 v138 fun v145 =>
  FA v8 3 fun v146 =>
  Ld1 v146 fun v147 =>
  IAr 16 1 v6 v145 fun v148 =>
  St 1 v148 v147 fun _ =>
  BinI .add v138 (.int .i64 1) fun v149 =>
  vK_3 [v149])
  (BinI .add v37 (.int .i64 1) fun v150_4 =>
  vK [v2, v150_4]))
  (BinI .add v37 (.int .i64 1) fun v150_5 =>
  vK [v2, v150_5]))
  (BinI .add v37 (.int .i64 1) fun v150_6 =>
  vK [v2, v150_6]))))
  (FnV pg (.func (.func 14) #[] #[]) #[v22] fun v152 =>
  LenS v152 fun v154 =>
  LoopC [v2, (.int .i64 0)] fun vK_4 vs => AllE <|
  UN vs fun v2_2 vs =>
  UN vs fun v155 _ =>
  BinI .lss v155 v154 fun v156 =>
  Cnd v156 (IA 5 v152 v155 fun v158 =>
  LdN 5 v158 fun v159 =>
  New 27 #[(.int .i64 0), (.int .i64 0), (.int .i64 0), (.int .i64 0), (.int .i64 0)] fun v17 =>
  St 5 v17 v159 fun _ =>
  Drw <| FA v17 0 fun v160 =>
  Ld1 v160 fun v161 =>
  BinI .lss v161 (.int .i64 0) fun v162 =>
  Grd v162 false (FA v17 1 fun v164 =>
  Ld1 v164 fun v165 =>
  BinI .lss v165 (.int .i64 64) fun v166 =>
  QtC fun I =>
  Grd v166 false (QE I (fun KK => FA v17 0 fun v169 =>
  KK v169) fun v169_1 =>
  QE I (fun KK => Ld1 v169_1 fun v170 =>
  KK v170) fun v170_1 =>
  QE I (fun KK => FA v17 1 fun v171 =>
  KK v171) fun v171_1 =>
  QE I (fun KK => Ld1 v171_1 fun v172 =>
  KK v172) fun v172_1 =>
  BinI .add v170_1 v172_1 fun v173 =>
  BinI .gtr v173 (.int .i64 1024) fun v174 =>
  Grd v174 false (BinI .gtr v155 (.int .i64 0) fun v178 =>
  QtC fun I =>
  Grd v178 true (QE I (fun KK => BinI .sub v155 (.int .i64 1) fun v182 =>
  KK v182) fun v182_1 =>
  QE I (fun KK => IA 5 v152 v182_1 fun v183 =>
  KK v183) fun v183_1 =>
  QE I (fun KK => FA v183_1 0 fun v184 =>
  KK v184) fun v184_1 =>
  QE I (fun KK => Ld1 v184_1 fun v185 =>
  KK v185) fun v185_1 =>
  QE I (fun KK => BinI .sub v155 (.int .i64 1) fun v188 =>
  KK v188) fun v188_1 =>
  QE I (fun KK => IA 5 v152 v188_1 fun v189 =>
  KK v189) fun v189_1 =>
  QE I (fun KK => FA v189_1 1 fun v190 =>
  KK v190) fun v190_1 =>
  QE I (fun KK => Ld1 v190_1 fun v191 =>
  KK v191) fun v191_1 =>
  QE I (fun KK => BinI .add v185_1 v191_1 fun v192 =>
  KK v192) fun v192_1 =>
  QE I (fun KK => FA v17 0 fun v193 =>
  KK v193) fun v193_1 =>
  QE I (fun KK => Ld1 v193_1 fun v194 =>
  KK v194) fun v194_1 =>
  BinI .gtr v192_1 v194_1 fun v195 =>
  Cnd v195 (KR (.bool false))
  (BinI .add v155 (.int .i64 1) fun v198 =>
  vK_4 [v2_2, v198]))
  (BinI .add v155 (.int .i64 1) fun v198_1 =>
  vK_4 [v2_2, v198_1]))
  (QtC fun _ =>
  KR (.bool false)))
  (QtC fun _ =>
  KR (.bool false)))
  (QtC fun _ =>
  QtC fun _ =>
  KR (.bool false)))
  (LoopC [v2_2, (.int .i64 0), (.int .i64 0)] fun vK_5 vs => AllE <|
  UN vs fun v2_3 vs =>
  UN vs fun v18 vs =>
  UN vs fun v199 _ =>
  BinI .lss v199 (.int .i64 16) fun v200 =>
  Cnd v200 (BinI .mul (.int .i64 64) v199 fun v205 =>
  BinI .add v205 (.int .i64 63) fun v206 =>
  FnV pg (.func (.func 9) #[] #[]) #[v22, v206] fun v207 =>
  Ext v207 0 fun v208 =>
  Ext v207 1 fun v209 =>
  New 27 #[(.int .i64 0), (.int .i64 0), (.int .i64 0), (.int .i64 0), (.int .i64 0)] fun v20 =>
  St 5 v20 v208 fun _ =>
  Drw <| QtC fun I =>
  QE I (fun KK => IAr 16 1 v4 v199 fun v212 =>
  KK v212) fun v212_1 =>
  QE I (fun KK => Ld1 v212_1 fun v213 =>
  KK v213) fun v213_1 =>
  QE I (fun KK => BinI .neq v213_1 (.int .i64 0) fun v214 =>
  KK v214) fun v214_1 =>
  EqB true v209 v214_1 fun v215 =>
  Grd v215 false (QtC fun I =>
  Grd v209 true (QE I (fun KK => FA v20 2 fun v219 =>
  KK v219) fun v219_1 =>
  QE I (fun KK => Ld1 v219_1 fun v220 =>
  KK v220) fun v220_1 =>
  QE I (fun KK => BinI .add v220_1 (.int .i64 1) fun v221 =>
  KK v221) fun v221_1 =>
  QE I (fun KK => IAr 16 1 v4 v199 fun v223 =>
  KK v223) fun v223_1 =>
  QE I (fun KK => Ld1 v223_1 fun v224 =>
  KK v224) fun v224_1 =>
  BinI .neq v221_1 v224_1 fun v225 =>
  QtC fun I =>
  Grd v225 false (QE I (fun KK => FA v20 3 fun v227 =>
  KK v227) fun v227_1 =>
  QE I (fun KK => Ld1 v227_1 fun v228 =>
  KK v228) fun v228_1 =>
  QE I (fun KK => BinI .mul (.int .i64 64) v199 fun v230 =>
  KK v230) fun v230_1 =>
  QE I (fun KK => BinI .add v228_1 v230_1 fun v231 =>
  KK v231) fun v231_1 =>
  QE I (fun KK => FA v20 0 fun v232 =>
  KK v232) fun v232_1 =>
  QE I (fun KK => Ld1 v232_1 fun v233 =>
  KK v233) fun v233_1 =>
  QE I (fun KK => BinI .sub v231_1 v233_1 fun v234 =>
  KK v234) fun v234_1 =>
  QE I (fun KK => IAr 16 1 v5 v199 fun v236 =>
  KK v236) fun v236_1 =>
  QE I (fun KK => Ld1 v236_1 fun v237 =>
  KK v237) fun v237_1 =>
  BinI .neq v234_1 v237_1 fun v238 =>
  QtC fun I =>
  Grd v238 false (QE I (fun KK => FA v20 4 fun v241 =>
  KK v241) fun v241_1 =>
  QE I (fun KK => Ld1 v241_1 fun v242 =>
  KK v242) fun v242_1 =>
  QE I (fun KK => IAr 16 1 v6 v199 fun v244 =>
  KK v244) fun v244_1 =>
  QE I (fun KK => Ld1 v244_1 fun v245 =>
  KK v245) fun v245_1 =>
  BinI .neq v242_1 v245_1 fun v246 =>
  Cnd v246 (KR (.bool false))
  (Cnd v209 (BinI .add v18 (.int .i64 64) fun v252 =>
  BinI .add v199 (.int .i64 1) fun v253 =>
  vK_5 [v2_3, v252, v253])
  (BinI .add v199 (.int .i64 1) fun v253_1 =>
  vK_5 [v2_3, v18, v253_1])))
  (KR (.bool false)))
  (QtC fun _ =>
  KR (.bool false)))
  (QtC fun _ =>
  QtC fun _ =>
  Cnd v209 (BinI .add v18 (.int .i64 64) fun v252_1 =>
  BinI .add v199 (.int .i64 1) fun v253_2 =>
  vK_5 [v2_3, v252_1, v253_2])
  (BinI .add v199 (.int .i64 1) fun v253_3 =>
  vK_5 [v2_3, v18, v253_3])))
  (QtC fun _ =>
  QtC fun _ =>
  QtC fun _ =>
  KR (.bool false)))
  (FnV pg (.func (.func 10) #[] #[]) #[v22] fun v255 =>
  BinI .eql v255 v18 fun v257 =>
  Grd v257 true (FnV pg (.func (.func 7) #[] #[]) #[] fun v259 =>
  KR v259)
  (KR (.bool false)))))))
  (EqP true v22 (.pointer none) fun v31_1 =>
  Grd v31_1 true (FnV pg (.func (.func 7) #[] #[]) #[] fun v33_1 =>
  KR v33_1)
  (KR (.bool false)))
theorem V.jacinthlaw09_RegionApart_ok {a0 : Value} {K : Value → WP} {w : World} (h : V.jacinthlaw09_RegionApart a0 K w) : Cl pg 5 #[a0] K w :=
  cl_of pg_mixed Try.func5 (args := [a0]) (by kernel_rfl) (by rw [show WF pg Try.f5 [a0] K = V.jacinthlaw09_RegionApart a0 K from by kernel_rfl]; exact h)

def V.region_New (a0 a1 : Value) (KR : Value → WP) : WP :=
  BinI .lss a0 (.int .i64 0) fun v6 =>
  Grd v6 false (BinI .gtr a0 (.int .i64 4294967296) fun v9 =>
  Grd v9 false (BSlC 3 1 #[(.int .i64 0)] 1 #[(0, a0)] fun v13 =>
  FnV pg (.func (.func 15) #[] #[]) #[v13] fun v14 =>
  Un .not v14 fun v15 =>
  Grd v15 false (BinI .lss a1 (.int .i64 0) fun v19 =>
  Grd v19 false (BinI .gtr a1 (.int .i64 65536) fun v23 =>
  Cnd v23 (KR (.pointer none))
  (Ex pg (bldS #[(.int .i64 0), (.int .i64 0), (.slice none 0 0)] [(0, 1), (1, 1), (2, 1)] #[(0, a0), (1, a1)]) fun v27 =>
  New 49 (Value.cells v27) fun v28 =>
  KR v28))
  (KR (.pointer none)))
  (KR (.pointer none)))
  (KR (.pointer none)))
  (KR (.pointer none))
theorem V.region_New_ok {a0 a1 : Value} {K : Value → WP} {w : World} (h : V.region_New a0 a1 K w) : Cl pg 6 #[a0, a1] K w :=
  cl_of pg_mixed Try.func6 (args := [a0, a1]) (by kernel_rfl) (by rw [show WF pg Try.f6 [a0, a1] K = V.region_New a0 a1 K from by kernel_rfl]; exact h)

def V.jacinthlaw09_awake (KR : Value → WP) : WP :=
  FnV pg (.func (.func 6) #[] #[]) #[(.int .i64 256), (.int .i64 4)] fun v4 =>
  EqP false v4 (.pointer none) fun v6 =>
  Grd v6 false (Ex pg (bldS #[(.int .i64 0), (.int .i64 0), (.int .i64 0), (.int .i64 0), (.int .i64 0)] [(0, 1), (1, 1), (2, 1), (3, 1), (4, 1)] #[(1, (.int .i64 192)), (2, (.int .i64 1)), (4, (.int .i64 3))]) fun v9 =>
  FnV pg (.func (.func 8) #[] #[]) #[v4, v9] fun v10 =>
  BinI .neq v10 (.int .i64 0) fun v11 =>
  Cnd v11 (KR (.bool false))
  (FnV pg (.func (.func 11) #[] #[]) #[v4, (.int .i64 64), (.int .i64 64)] fun v15 =>
  Ext v15 0 fun v16 =>
  Ext v15 1 fun v17 =>
  BinI .eql v17 (.int .i64 0) fun v19 =>
  Grd v19 true (LenS v16 fun v22 =>
  BinI .eql v22 (.int .i64 1) fun v23 =>
  Grd v23 true (IA 5 v16 (.int .i64 0) fun v27 =>
  FA v27 3 fun v28 =>
  Ld1 v28 fun v29 =>
  BinI .eql v29 (.int .i64 64) fun v30 =>
  Grd v30 true (FnV pg (.func (.func 14) #[] #[]) #[v4] fun v34 =>
  LenS v34 fun v35 =>
  BinI .eql v35 (.int .i64 2) fun v36 =>
  KR v36)
  (KR (.bool false)))
  (KR (.bool false)))
  (KR (.bool false))))
  (KR (.bool false))
theorem V.jacinthlaw09_awake_ok {K : Value → WP} {w : World} (h : V.jacinthlaw09_awake  K w) : Cl pg 7 #[] K w :=
  cl_of pg_mixed Try.func7 (args := []) (by kernel_rfl) (by rw [show WF pg Try.f7 [] K = V.jacinthlaw09_awake  K from by kernel_rfl]; exact h)

def V.region_Region_Put (a0 a1 : Value) (KR : Value → WP) : WP :=
  New 27 (Value.cells a1) fun v3 =>
  New 28 #[(.int .i64 0)] fun v4 =>
  FA v3 0 fun v8 =>
  Ld1 v8 fun v9 =>
  FA v3 1 fun v10 =>
  Ld1 v10 fun v11 =>
  FA v3 3 fun v12 =>
  Ld1 v12 fun v13 =>
  BSlC 3 1 #[(.int .i64 0)] 3 #[(0, v9), (1, v11), (2, v13)] fun v14 =>
  FnV pg (.func (.func 15) #[] #[]) #[v14] fun v15 =>
  Un .not v15 fun v16 =>
  Grd v16 false (FA v3 1 fun v18 =>
  Ld1 v18 fun v19 =>
  BinI .eql v19 (.int .i64 0) fun v20 =>
  Grd v20 false (FA v3 3 fun v23 =>
  Ld1 v23 fun v24 =>
  BinI .gtr v24 (.int .i64 4294967296) fun v25 =>
  Grd v25 false (FA v3 4 fun v28 =>
  Ld1 v28 fun v29 =>
  FnV pg (.func (.func 16) #[] #[]) #[v29] fun v30 =>
  Cnd v30 (St 1 v4 (.int .i64 (-10)) fun _ =>
  Ld1 v4 fun vr =>
  KR vr)
  (Drw <| QtC fun I =>
  QE I (fun KK => FA v3 0 fun v33 =>
  KK v33) fun v33_1 =>
  QE I (fun KK => Ld1 v33_1 fun v34 =>
  KK v34) fun v34_1 =>
  QE I (fun KK => FA v3 1 fun v35 =>
  KK v35) fun v35_1 =>
  QE I (fun KK => Ld1 v35_1 fun v36 =>
  KK v36) fun v36_1 =>
  QE I (fun KK => NilC a0 fun v38 =>
  KK v38) fun v38_1 =>
  QE I (fun KK => FA v38_1 0 fun v39 =>
  KK v39) fun v39_1 =>
  QE I (fun KK => Ld1 v39_1 fun v40 =>
  KK v40) fun v40_1 =>
  FnV pg (.func (.func 17) #[] #[]) #[v34_1, v36_1, v40_1] fun v41 =>
  Un .not v41 fun v42 =>
  Cnd v42 (St 1 v4 (.int .i64 (-14)) fun _ =>
  Ld1 v4 fun vr_1 =>
  KR vr_1)
  (FA v3 0 fun v44 =>
  Ld1 v44 fun v45 =>
  FA v3 1 fun v46 =>
  Ld1 v46 fun v47 =>
  FnV pg (.func (.func 18) #[] #[]) #[a0, v45, v47] fun v48 =>
  RF0 pg v48 (fun vl vs vK =>
  UN vs fun _ vs =>
  UN vs fun _ vs =>
  UNe vs <|
  RBeg vl <|
  St 1 v4 (.int .i64 (-26)) fun _ =>
  REnd vl (some .ret) vK)
  fun vm vj =>
  JumpC vj (Drw <| QtC fun I =>
  QE I (fun KK => NilC a0 fun v52 =>
  KK v52) fun v52_1 =>
  QE I (fun KK => FA v52_1 2 fun v53 =>
  KK v53) fun v53_1 =>
  QE I (fun KK => Ld1 v53_1 fun v54 =>
  KK v54) fun v54_1 =>
  QE I (fun KK => LenS v54_1 fun v55 =>
  KK v55) fun v55_1 =>
  QE I (fun KK => NilC a0 fun v57 =>
  KK v57) fun v57_1 =>
  QE I (fun KK => FA v57_1 1 fun v58 =>
  KK v58) fun v58_1 =>
  QE I (fun KK => Ld1 v58_1 fun v59 =>
  KK v59) fun v59_1 =>
  BinI .geq v55_1 v59_1 fun v60 =>
  Cnd v60 (St 1 v4 (.int .i64 (-4)) fun _ =>
  LvC (.tuple #[vm]) <| Ld1 v4 fun vr_2 =>
  KR vr_2)
  (Drw <| QtC fun I =>
  QE I (fun KK => NilC a0 fun v63 =>
  KK v63) fun v63_1 =>
  QE I (fun KK => FA v63_1 2 fun v64 =>
  KK v64) fun v64_1 =>
  QE I (fun KK => Ld1 v64_1 fun v65 =>
  KK v65) fun v65_1 =>
  QE I (fun KK => FA v3 0 fun v66 =>
  KK v66) fun v66_1 =>
  QE I (fun KK => Ld1 v66_1 fun v67 =>
  KK v67) fun v67_1 =>
  FnV pg (.func (.func 19) #[] #[]) #[v65_1, v67_1, (.func (.func 20) #[] #[])] fun v68 =>
  QtC fun I =>
  QE I (fun KK => Ext v68 0 fun v69 =>
  KK v69) fun v69_1 =>
  QE I (fun KK => Ext v68 1 fun v70 =>
  KK v70) fun _ =>
  Drw <| QtC fun I =>
  QE I (fun KK => NilC a0 fun v73 =>
  KK v73) fun v73_1 =>
  QE I (fun KK => FA v73_1 2 fun v74 =>
  KK v74) fun v74_1 =>
  QE I (fun KK => Ld1 v74_1 fun v75 =>
  KK v75) fun v75_1 =>
  QE I (fun KK => LdN 5 v3 fun v77 =>
  KK v77) fun v77_1 =>
  BSlC 27 5 #[(.int .i64 0), (.int .i64 0), (.int .i64 0), (.int .i64 0), (.int .i64 0)] 1 #[(0, v77_1)] fun v78 =>
  CH I <|
  FnV pg (.func (.func 22) #[] #[]) #[v75_1, v69_1, v78] fun v79 =>
  NilC a0 fun v80 =>
  FA v80 2 fun v81 =>
  St 1 v81 v79 fun _ =>
  St 1 v4 (.int .i64 0) fun _ =>
  LvC (.tuple #[vm]) <| Ld1 v4 fun vr_3 =>
  KR vr_3))
  (LvC (.tuple #[vm]) <| Ld1 v4 fun vr_4 =>
  KR vr_4)
  (fun _ => fun _ => False))))
  (St 1 v4 (.int .i64 (-10)) fun _ =>
  Ld1 v4 fun vr_5 =>
  KR vr_5))
  (St 1 v4 (.int .i64 (-10)) fun _ =>
  Ld1 v4 fun vr_6 =>
  KR vr_6))
  (St 1 v4 (.int .i64 (-10)) fun _ =>
  Ld1 v4 fun vr_7 =>
  KR vr_7)
theorem V.region_Region_Put_ok {a0 a1 : Value} {K : Value → WP} {w : World} (h : V.region_Region_Put a0 a1 K w) : Cl pg 8 #[a0, a1] K w :=
  cl_of pg_mixed Try.func8 (args := [a0, a1]) (by kernel_rfl) (by rw [show WF pg Try.f8 [a0, a1] K = V.region_Region_Put a0 a1 K from by kernel_rfl]; exact h)

def V.region_Region_Find (a0 a1 : Value) (KR : Value → WP) : WP :=
  New 27 #[(.int .i64 0), (.int .i64 0), (.int .i64 0), (.int .i64 0), (.int .i64 0)] fun v4 =>
  New 4 #[(.bool false)] fun v5 =>
  FnV pg (.func (.func 18) #[] #[]) #[a0, a1, (.int .i64 1)] fun v10 =>
  RF0 pg v10 (fun vl vs vK =>
  UN vs fun _ vs =>
  UN vs fun v12 vs =>
  UNe vs <|
  New 27 #[(.int .i64 0), (.int .i64 0), (.int .i64 0), (.int .i64 0), (.int .i64 0)] fun v7 =>
  St 5 v7 v12 fun _ =>
  RBeg vl <|
  LdN 5 v7 fun v13 =>
  St 5 v4 v13 fun _ =>
  St 1 v5 (.bool true) fun _ =>
  REnd vl (some .ret) vK)
  fun vm vj =>
  JumpC vj (Ex pg (bldS #[(.int .i64 0), (.int .i64 0), (.int .i64 0), (.int .i64 0), (.int .i64 0)] [(0, 1), (1, 1), (2, 1), (3, 1), (4, 1)] #[]) fun v14 =>
  St 5 v4 v14 fun _ =>
  St 1 v5 (.bool false) fun _ =>
  LvC (.tuple #[vm]) <| LdN 5 v4 fun vr =>
  Ld1 v5 fun vr_1 =>
  KR (.tuple #[vr, vr_1]))
  (LvC (.tuple #[vm]) <| LdN 5 v4 fun vr_2 =>
  Ld1 v5 fun vr_3 =>
  KR (.tuple #[vr_2, vr_3]))
  (fun _ => fun _ => False)
theorem V.region_Region_Find_ok {a0 a1 : Value} {K : Value → WP} {w : World} (h : V.region_Region_Find a0 a1 K w) : Cl pg 9 #[a0, a1] K w :=
  cl_of pg_mixed Try.func9 (args := [a0, a1]) (by kernel_rfl) (by rw [show WF pg Try.f9 [a0, a1] K = V.region_Region_Find a0 a1 K from by kernel_rfl]; exact h)

def V.region_Region_Mapped (a0 : Value) (KR : Value → WP) : WP :=
  NilC a0 fun v7 =>
  FA v7 2 fun v8 =>
  Ld1 v8 fun v9 =>
  LenS v9 fun v10 =>
  LoopC [(.int .i64 0), (.int .i64 0)] fun vK vs => AllE <|
  UN vs fun v3 vs =>
  UN vs fun v11 _ =>
  BinI .lss v11 v10 fun v12 =>
  Cnd v12 (IA 5 v9 v11 fun v13 =>
  LdN 5 v13 fun v14 =>
  New 27 #[(.int .i64 0), (.int .i64 0), (.int .i64 0), (.int .i64 0), (.int .i64 0)] fun v5 =>
  St 5 v5 v14 fun _ =>
  FA v5 1 fun v16 =>
  Ld1 v16 fun v17 =>
  BinI .add v3 v17 fun v18 =>
  BinI .add v11 (.int .i64 1) fun v19 =>
  vK [v18, v19])
  (KR v3)
theorem V.region_Region_Mapped_ok {a0 : Value} {K : Value → WP} {w : World} (h : V.region_Region_Mapped a0 K w) : Cl pg 10 #[a0] K w :=
  cl_of pg_mixed Try.func10 (args := [a0]) (by kernel_rfl) (by rw [show WF pg Try.f10 [a0] K = V.region_Region_Mapped a0 K from by kernel_rfl]; exact h)

def V.region_Region_Cut (a0 a1 a2 : Value) (KR : Value → WP) : WP :=
  FnV pg (.func (.func 23) #[] #[]) #[a0, a1, a2] fun v14 =>
  BinI .neq v14 (.int .i64 0) fun v16 =>
  Cnd v16 (KR (.tuple #[(.slice none 0 0), v14]))
  (FnV pg (.func (.func 24) #[] #[]) #[a0, a1, a2] fun v22 =>
  Ext v22 0 fun v23 =>
  Ext v22 1 fun v24 =>
  LenS v23 fun v26 =>
  NilC a0 fun v28 =>
  FA v28 1 fun v29 =>
  Ld1 v29 fun v30 =>
  BinI .gtr v26 v30 fun v31 =>
  Cnd v31 (KR (.tuple #[(.slice none 0 0), (.int .i64 (-4))]))
  (NilC a0 fun v34 =>
  FA v34 2 fun v35 =>
  St 1 v35 v23 fun _ =>
  KR (.tuple #[v24, (.int .i64 0)])))
theorem V.region_Region_Cut_ok {a0 a1 a2 : Value} {K : Value → WP} {w : World} (h : V.region_Region_Cut a0 a1 a2 K w) : Cl pg 11 #[a0, a1, a2] K w :=
  cl_of pg_mixed Try.func11 (args := [a0, a1, a2]) (by kernel_rfl) (by rw [show WF pg Try.f11 [a0, a1, a2] K = V.region_Region_Cut a0 a1 a2 K from by kernel_rfl]; exact h)

def V.region_Region_Place (a0 a1 : Value) (KR : Value → WP) : WP :=
  BinI .leq a1 (.int .i64 0) fun v9 =>
  Grd v9 false (BSlC 3 1 #[(.int .i64 0)] 1 #[(0, a1)] fun v12 =>
  FnV pg (.func (.func 15) #[] #[]) #[v12] fun v13 =>
  Un .not v13 fun v14 =>
  Cnd v14 (KR (.tuple #[(.int .i64 0), (.int .i64 (-10))]))
  (NilC a0 fun v17 =>
  FA v17 2 fun v18 =>
  Ld1 v18 fun v19 =>
  LenS v19 fun v20 =>
  LoopC [(.int .i64 0), (.int .i64 0), (.int .i64 0)] fun vK vs => AllE <|
  UN vs fun v5 vs =>
  UN vs fun v4 vs =>
  UN vs fun v21 _ =>
  BinI .lss v21 v20 fun v22 =>
  Cnd v22 (IA 5 v19 v21 fun v23 =>
  LdN 5 v23 fun v24 =>
  New 27 #[(.int .i64 0), (.int .i64 0), (.int .i64 0), (.int .i64 0), (.int .i64 0)] fun v7 =>
  St 5 v7 v24 fun _ =>
  FA v7 0 fun v25 =>
  Ld1 v25 fun v26 =>
  BinI .sub v26 v4 fun v28 =>
  BinI .geq v28 a1 fun v30 =>
  Cnd v30 (KR (.tuple #[v4, (.int .i64 0)]))
  (LdN 5 v7 fun v32 =>
  FnV pg (.func (.func 25) #[] #[]) #[v32] fun v33 =>
  BinI .add v21 (.int .i64 1) fun v34 =>
  vK [v5, v33, v34]))
  (NilC a0 fun v36 =>
  FA v36 0 fun v37 =>
  Ld1 v37 fun v38 =>
  BinI .sub v38 v4 fun v40 =>
  BinI .lss v40 a1 fun v42 =>
  Cnd v42 (KR (.tuple #[(.int .i64 0), (.int .i64 (-4))]))
  (KR (.tuple #[v4, (.int .i64 0)])))))
  (KR (.tuple #[(.int .i64 0), (.int .i64 (-10))]))
theorem V.region_Region_Place_ok {a0 a1 : Value} {K : Value → WP} {w : World} (h : V.region_Region_Place a0 a1 K w) : Cl pg 12 #[a0, a1] K w :=
  cl_of pg_mixed Try.func12 (args := [a0, a1]) (by kernel_rfl) (by rw [show WF pg Try.f12 [a0, a1] K = V.region_Region_Place a0 a1 K from by kernel_rfl]; exact h)

def V.region_Region_Protect (a0 a1 a2 a3 : Value) (KR : Value → WP) : WP :=
  FnV pg (.func (.func 16) #[] #[]) #[a3] fun v15 =>
  Cnd v15 (KR (.int .i64 (-10)))
  (FnV pg (.func (.func 23) #[] #[]) #[a0, a1, a2] fun v19 =>
  BinI .neq v19 (.int .i64 0) fun v21 =>
  Cnd v21 (KR v19)
  (FnV pg (.func (.func 24) #[] #[]) #[a0, a1, a2] fun v27 =>
  Ext v27 0 fun v28 =>
  Ext v27 1 fun v29 =>
  LenS v29 fun v31 =>
  LoopC [(.int .i64 0), (.int .i64 0)] fun vK vs => AllE <|
  UN vs fun v12 vs =>
  UN vs fun v32 _ =>
  BinI .lss v32 v31 fun v33 =>
  Cnd v33 (IA 5 v29 v32 fun v38 =>
  FA v38 1 fun v39 =>
  Ld1 v39 fun v40 =>
  BinI .add v12 v40 fun v41 =>
  IA 5 v29 v32 fun v45 =>
  FA v45 4 fun v46 =>
  St 1 v46 a3 fun _ =>
  BinI .add v32 (.int .i64 1) fun v47 =>
  vK [v41, v47])
  (BinI .neq v12 a2 fun v51 =>
  Cnd v51 (KR (.int .i64 (-25)))
  (LenS v28 fun v54 =>
  LenS v29 fun v56 =>
  BinI .add v54 v56 fun v57 =>
  NilC a0 fun v59 =>
  FA v59 1 fun v60 =>
  Ld1 v60 fun v61 =>
  BinI .gtr v57 v61 fun v62 =>
  Cnd v62 (KR (.int .i64 (-4)))
  (AppC 27 5 40 #[(.int .i64 0), (.int .i64 0), (.int .i64 0), (.int .i64 0), (.int .i64 0)] v28 v29 fun v66 =>
  FnV pg (.func (.func 27) #[] #[]) #[v66] fun v67 =>
  FnV pg (.func (.func 26) #[] #[]) #[v67, (.func (.func 28) #[] #[])] fun v68 =>
  NilC a0 fun v69 =>
  FA v69 2 fun v70 =>
  St 1 v70 v68 fun _ =>
  KR (.int .i64 0))))))
theorem V.region_Region_Protect_ok {a0 a1 a2 a3 : Value} {K : Value → WP} {w : World} (h : V.region_Region_Protect a0 a1 a2 a3 K w) : Cl pg 13 #[a0, a1, a2, a3] K w :=
  cl_of pg_mixed Try.func13 (args := [a0, a1, a2, a3]) (by kernel_rfl) (by rw [show WF pg Try.f13 [a0, a1, a2, a3] K = V.region_Region_Protect a0 a1 a2 a3 K from by kernel_rfl]; exact h)

def V.region_Region_List (a0 : Value) (KR : Value → WP) : WP :=
  NilC a0 fun v4 =>
  FA v4 2 fun v5 =>
  Ld1 v5 fun v6 =>
  FnV pg (.func (.func 29) #[] #[]) #[v6] fun v7 =>
  KR v7
theorem V.region_Region_List_ok {a0 : Value} {K : Value → WP} {w : World} (h : V.region_Region_List a0 K w) : Cl pg 14 #[a0] K w :=
  cl_of pg_mixed Try.func14 (args := [a0]) (by kernel_rfl) (by rw [show WF pg Try.f14 [a0] K = V.region_Region_List a0 K from by kernel_rfl]; exact h)

def V.region_pages (a0 : Value) (KR : Value → WP) : WP :=
  FnV pg (.func (.func 30) #[] #[]) #[a0, (.func (.func 31) #[] #[])] fun v4 =>
  Un .not v4 fun v5 =>
  KR v5
theorem V.region_pages_ok {a0 : Value} {K : Value → WP} {w : World} (h : V.region_pages a0 K w) : Cl pg 15 #[a0] K w :=
  cl_of pg_mixed Try.func15 (args := [a0]) (by kernel_rfl) (by rw [show WF pg Try.f15 [a0] K = V.region_pages a0 K from by kernel_rfl]; exact h)

def V.region_wrong (a0 : Value) (KR : Value → WP) : WP :=
  BinI .lss a0 (.int .i64 0) fun v4 =>
  Grd v4 false (BinI .gtr a0 (.int .i64 3) fun v7 =>
  KR v7)
  (KR (.bool true))
theorem V.region_wrong_ok {a0 : Value} {K : Value → WP} {w : World} (h : V.region_wrong a0 K w) : Cl pg 16 #[a0] K w :=
  cl_of pg_mixed Try.func16 (args := [a0]) (by kernel_rfl) (by rw [show WF pg Try.f16 [a0] K = V.region_wrong a0 K from by kernel_rfl]; exact h)

def V.num_Within (a0 a1 a2 : Value) (KR : Value → WP) : WP :=
  BinI .geq a0 (.int .i64 0) fun v8 =>
  Grd v8 true (BinI .geq a1 (.int .i64 0) fun v11 =>
  Grd v11 true (BinI .leq a0 a2 fun v16 =>
  Grd v16 true (BinI .sub a2 a0 fun v22 =>
  BinI .leq a1 v22 fun v23 =>
  KR v23)
  (KR (.bool false)))
  (KR (.bool false)))
  (KR (.bool false))
theorem V.num_Within_ok {a0 a1 a2 : Value} {K : Value → WP} {w : World} (h : V.num_Within a0 a1 a2 K w) : Cl pg 17 #[a0, a1, a2] K w :=
  cl_of pg_mixed Try.func17 (args := [a0, a1, a2]) (by kernel_rfl) (by rw [show WF pg Try.f17 [a0, a1, a2] K = V.num_Within a0 a1 a2 K from by kernel_rfl]; exact h)

def V.region_Region_over (a0 a1 a2 : Value) (KR : Value → WP) : WP :=
  New 23 (Value.cells a0) fun v3 =>
  New 3 (Value.cells a1) fun v4 =>
  New 3 (Value.cells a2) fun v5 =>
  KR (.func (.func 32) #[] #[v3, v4, v5])
theorem V.region_Region_over_ok {a0 a1 a2 : Value} {K : Value → WP} {w : World} (h : V.region_Region_over a0 a1 a2 K w) : Cl pg 18 #[a0, a1, a2] K w :=
  cl_of pg_mixed Try.func18 (args := [a0, a1, a2]) (by kernel_rfl) (by rw [show WF pg Try.f18 [a0, a1, a2] K = V.region_Region_over a0 a1 a2 K from by kernel_rfl]; exact h)

def V.slices_BinarySearchFunc_Piece_Piece_int (a0 a1 a2 : Value) (KR : Value → WP) : WP :=
  LenS a0 fun v13 =>
  LoopC [(.int .i64 0), v13] fun vK vs => AllE <|
  UN vs fun v9 vs =>
  UN vs fun v10 _ =>
  BinI .lss v9 v10 fun v17 =>
  Cnd v17 (BinI .add v9 v10 fun v20 =>
  ConvI .u64 v20 fun v21 =>
  BinI .shr v21 (.int .u64 1) fun v22 =>
  ConvI .i64 v22 fun v23 =>
  IA 5 a0 v23 fun v27 =>
  LdN 5 v27 fun v28 =>
  FnV pg a2 #[v28, a1] fun v30 =>
  BinI .lss v30 (.int .i64 0) fun v31 =>
  Cnd v31 (BinI .add v23 (.int .i64 1) fun v33 =>
  vK [v33, v10])
  (vK [v9, v23]))
  (BinI .lss v9 v13 fun v38 =>
  Grd v38 true (IA 5 a0 v9 fun v43 =>
  LdN 5 v43 fun v44 =>
  FnV pg a2 #[v44, a1] fun v46 =>
  BinI .eql v46 (.int .i64 0) fun v47 =>
  KR (.tuple #[v9, v47]))
  (KR (.tuple #[v9, (.bool false)])))
theorem V.slices_BinarySearchFunc_Piece_Piece_int_ok {a0 a1 a2 : Value} {K : Value → WP} {w : World} (h : V.slices_BinarySearchFunc_Piece_Piece_int a0 a1 a2 K w) : Cl pg 19 #[a0, a1, a2] K w :=
  cl_of pg_mixed Try.func19 (args := [a0, a1, a2]) (by kernel_rfl) (by rw [show WF pg Try.f19 [a0, a1, a2] K = V.slices_BinarySearchFunc_Piece_Piece_int a0 a1 a2 K from by kernel_rfl]; exact h)

def V.region_Region_Put_c1 (a0 a1 : Value) (KR : Value → WP) : WP :=
  New 27 (Value.cells a0) fun v2 =>
  FA v2 0 fun v5 =>
  Ld1 v5 fun v6 =>
  FnV pg (.func (.func 21) #[] #[]) #[v6, a1] fun v8 =>
  KR v8
theorem V.region_Region_Put_c1_ok {a0 a1 : Value} {K : Value → WP} {w : World} (h : V.region_Region_Put_c1 a0 a1 K w) : Cl pg 20 #[a0, a1] K w :=
  cl_of pg_mixed Try.func20 (args := [a0, a1]) (by kernel_rfl) (by rw [show WF pg Try.f20 [a0, a1] K = V.region_Region_Put_c1 a0 a1 K from by kernel_rfl]; exact h)

def V.cmp_Compare_int (a0 a1 : Value) (KR : Value → WP) : WP :=
  FnV pg (.func (.func 34) #[] #[]) #[a0] fun v8 =>
  FnV pg (.func (.func 34) #[] #[]) #[a1] fun v10 =>
  Cnd v8 (Cnd v10 (KR (.int .i64 0))
  (KR (.int .i64 (-1))))
  (Cnd v10 (KR (.int .i64 1))
  (BinI .lss a0 a1 fun v16 =>
  Cnd v16 (KR (.int .i64 (-1)))
  (BinI .gtr a0 a1 fun v19 =>
  Cnd v19 (KR (.int .i64 1))
  (KR (.int .i64 0)))))
theorem V.cmp_Compare_int_ok {a0 a1 : Value} {K : Value → WP} {w : World} (h : V.cmp_Compare_int a0 a1 K w) : Cl pg 21 #[a0, a1] K w :=
  cl_of pg_mixed Try.func21 (args := [a0, a1]) (by kernel_rfl) (by rw [show WF pg Try.f21 [a0, a1] K = V.cmp_Compare_int a0 a1 K from by kernel_rfl]; exact h)

def V.slices_Insert_Piece_Piece (a0 a1 a2 : Value) (KR : Value → WP) : WP :=
  SlC 5 a0 (some a1) none fun _ =>
  LenS a2 fun v14 =>
  BinI .eql v14 (.int .i64 0) fun v16 =>
  Cnd v16 (KR a0)
  (LenS a0 fun v19 =>
  BinI .eql a1 v19 fun v22 =>
  Cnd v22 (AppC 27 5 40 #[(.int .i64 0), (.int .i64 0), (.int .i64 0), (.int .i64 0), (.int .i64 0)] a0 a2 fun v25 =>
  KR v25)
  (BinI .add v19 v14 fun v28 =>
  Ex pg (Builtin.cap_ #[22] 3 #[a0]) fun v30 =>
  BinI .gtr v28 v30 fun v31 =>
  Cnd v31 (SlC 5 a0 none (some a1) fun v34 =>
  BinI .add v19 v14 fun v37 =>
  BinI .sub v37 a1 fun v39 =>
  Ex pg (Builtin.append_ #[22, 3] 22 #[v34, v39]) fun v40 =>
  SlC 5 v40 (some a1) none fun v43 =>
  Ex pg (Builtin.copy_ #[22, 22] 3 #[v43, a2]) fun _ =>
  Drw <| QtC fun I =>
  QE I (fun KK => BinI .add a1 v14 fun v49 =>
  KK v49) fun v49_1 =>
  QE I (fun KK => SlC 5 v40 (some v49_1) none fun v50 =>
  KK v50) fun v50_1 =>
  QE I (fun KK => SlC 5 a0 (some a1) none fun v53 =>
  KK v53) fun v53_1 =>
  Ex pg (Builtin.copy_ #[22, 22] 3 #[v50_1, v53_1]) fun _ =>
  KR v40)
  (BinI .add v19 v14 fun v59 =>
  SlC 5 a0 none (some v59) fun v60 =>
  BinI .add a1 v14 fun v65 =>
  SlC 5 v60 (some v65) none fun v66 =>
  FnV pg (.func (.func 35) #[] #[]) #[a2, v66] fun v67 =>
  Un .not v67 fun v68 =>
  Cnd v68 (Drw <| QtC fun I =>
  QE I (fun KK => BinI .add a1 v14 fun v72 =>
  KK v72) fun v72_1 =>
  QE I (fun KK => SlC 5 v60 (some v72_1) none fun v73 =>
  KK v73) fun v73_1 =>
  QE I (fun KK => SlC 5 v60 (some a1) none fun v76 =>
  KK v76) fun v76_1 =>
  Ex pg (Builtin.copy_ #[22, 22] 3 #[v73_1, v76_1]) fun _ =>
  SlC 5 v60 (some a1) none fun v80 =>
  Ex pg (Builtin.copy_ #[22, 22] 3 #[v80, a2]) fun _ =>
  KR v60)
  (SlC 5 v60 (some v19) none fun v86 =>
  Ex pg (Builtin.copy_ #[22, 22] 3 #[v86, a2]) fun _ =>
  SlC 5 v60 (some a1) none fun v91 =>
  FnV pg (.func (.func 36) #[] #[]) #[v91, v14] fun _ =>
  KR v60))))
theorem V.slices_Insert_Piece_Piece_ok {a0 a1 a2 : Value} {K : Value → WP} {w : World} (h : V.slices_Insert_Piece_Piece a0 a1 a2 K w) : Cl pg 22 #[a0, a1, a2] K w :=
  cl_of pg_mixed Try.func22 (args := [a0, a1, a2]) (by kernel_rfl) (by rw [show WF pg Try.f22 [a0, a1, a2] K = V.slices_Insert_Piece_Piece a0 a1 a2 K from by kernel_rfl]; exact h)

def V.region_Region_check (a0 a1 a2 : Value) (KR : Value → WP) : WP :=
  BSlC 3 1 #[(.int .i64 0)] 2 #[(0, a1), (1, a2)] fun v10 =>
  FnV pg (.func (.func 15) #[] #[]) #[v10] fun v11 =>
  Un .not v11 fun v12 =>
  Grd v12 false (BinI .eql a2 (.int .i64 0) fun v15 =>
  Cnd v15 (KR (.int .i64 (-10)))
  (NilC a0 fun v21 =>
  FA v21 0 fun v22 =>
  Ld1 v22 fun v23 =>
  FnV pg (.func (.func 17) #[] #[]) #[a1, a2, v23] fun v24 =>
  Un .not v24 fun v25 =>
  Cnd v25 (KR (.int .i64 (-14)))
  (KR (.int .i64 0))))
  (KR (.int .i64 (-10)))
theorem V.region_Region_check_ok {a0 a1 a2 : Value} {K : Value → WP} {w : World} (h : V.region_Region_check a0 a1 a2 K w) : Cl pg 23 #[a0, a1, a2] K w :=
  cl_of pg_mixed Try.func23 (args := [a0, a1, a2]) (by kernel_rfl) (by rw [show WF pg Try.f23 [a0, a1, a2] K = V.region_Region_check a0 a1 a2 K from by kernel_rfl]; exact h)

def V.region_Region_split (a0 a1 a2 : Value) (KR : Value → WP) : WP :=
  NilC a0 fun v11 =>
  FA v11 2 fun v12 =>
  Ld1 v12 fun v13 =>
  LenS v13 fun v14 =>
  LoopC [(.slice none 0 0), (.slice none 0 0), (.int .i64 0)] fun vK vs => AllE <|
  UN vs fun v7 vs =>
  UN vs fun v6 vs =>
  UN vs fun v15 _ =>
  BinI .lss v15 v14 fun v16 =>
  Cnd v16 (IA 5 v13 v15 fun v17 =>
  LdN 5 v17 fun v18 =>
  New 27 #[(.int .i64 0), (.int .i64 0), (.int .i64 0), (.int .i64 0), (.int .i64 0)] fun v9 =>
  St 5 v9 v18 fun _ =>
  FA v9 0 fun v19 =>
  Ld1 v19 fun v20 =>
  FA v9 1 fun v21 =>
  Ld1 v21 fun v22 =>
  FnV pg (.func (.func 33) #[] #[]) #[v20, v22, a1, a2] fun v25 =>
  Un .not v25 fun v26 =>
  Cnd v26 (LdN 5 v9 fun v28 =>
  BSlC 27 5 #[(.int .i64 0), (.int .i64 0), (.int .i64 0), (.int .i64 0), (.int .i64 0)] 1 #[(0, v28)] fun v29 =>
  AppC 27 5 40 #[(.int .i64 0), (.int .i64 0), (.int .i64 0), (.int .i64 0), (.int .i64 0)] v6 v29 fun v30 =>
  BinI .add v15 (.int .i64 1) fun v68 =>
  vK [v7, v30, v68])
  (JoinC (fun vs => AllE (UN vs fun v6_1 _ =>
  LdN 5 v9 fun v44 =>
  BinI .add a1 a2 fun v48 =>
  FnV pg (.func (.func 37) #[] #[]) #[v44, a1, v48] fun v49 =>
  BSlC 27 5 #[(.int .i64 0), (.int .i64 0), (.int .i64 0), (.int .i64 0), (.int .i64 0)] 1 #[(0, v49)] fun v50 =>
  AppC 27 5 40 #[(.int .i64 0), (.int .i64 0), (.int .i64 0), (.int .i64 0), (.int .i64 0)] v7 v50 fun v51 =>
  LdN 5 v9 fun v52 =>
  FnV pg (.func (.func 25) #[] #[]) #[v52] fun v53 =>
  BinI .add a1 a2 fun v56 =>
  BinI .gtr v53 v56 fun v57 =>
  Cnd v57 (Drw <| QtC fun I =>
  QE I (fun KK => LdN 5 v9 fun v59 =>
  KK v59) fun v59_1 =>
  QE I (fun KK => BinI .add a1 a2 fun v62 =>
  KK v62) fun v62_1 =>
  QE I (fun KK => LdN 5 v9 fun v63 =>
  KK v63) fun v63_1 =>
  FnV pg (.func (.func 25) #[] #[]) #[v63_1] fun v64 =>
  CH I <|
  FnV pg (.func (.func 37) #[] #[]) #[v59_1, v62_1, v64] fun v65 =>
  BSlC 27 5 #[(.int .i64 0), (.int .i64 0), (.int .i64 0), (.int .i64 0), (.int .i64 0)] 1 #[(0, v65)] fun v66 =>
  AppC 27 5 40 #[(.int .i64 0), (.int .i64 0), (.int .i64 0), (.int .i64 0), (.int .i64 0)] v6_1 v66 fun v67 =>
  BinI .add v15 (.int .i64 1) fun v68_1 =>
  vK [v51, v67, v68_1])
  (BinI .add v15 (.int .i64 1) fun v68_2 =>
  vK [v51, v6_1, v68_2])))
  fun vK_1 =>
  FA v9 0 fun v31 =>
  Ld1 v31 fun v32 =>
  BinI .lss v32 a1 fun v34 =>
  Cnd v34 (LdN 5 v9 fun v36 =>
  FA v9 0 fun v37 =>
  Ld1 v37 fun v38 =>
  FnV pg (.func (.func 37) #[] #[]) #[v36, v38, a1] fun v40 =>
  BSlC 27 5 #[(.int .i64 0), (.int .i64 0), (.int .i64 0), (.int .i64 0), (.int .i64 0)] 1 #[(0, v40)] fun v41 =>
  AppC 27 5 40 #[(.int .i64 0), (.int .i64 0), (.int .i64 0), (.int .i64 0), (.int .i64 0)] v6 v41 fun v42 =>
  vK_1 [v42])
  (vK_1 [v6])))
  (KR (.tuple #[v6, v7]))
theorem V.region_Region_split_ok {a0 a1 a2 : Value} {K : Value → WP} {w : World} (h : V.region_Region_split a0 a1 a2 K w) : Cl pg 24 #[a0, a1, a2] K w :=
  cl_of pg_mixed Try.func24 (args := [a0, a1, a2]) (by kernel_rfl) (by rw [show WF pg Try.f24 [a0, a1, a2] K = V.region_Region_split a0 a1 a2 K from by kernel_rfl]; exact h)

def V.region_Piece_end (a0 : Value) (KR : Value → WP) : WP :=
  New 27 (Value.cells a0) fun v1 =>
  FA v1 0 fun v3 =>
  Ld1 v3 fun v4 =>
  FA v1 1 fun v5 =>
  Ld1 v5 fun v6 =>
  BinI .add v4 v6 fun v7 =>
  KR v7
theorem V.region_Piece_end_ok {a0 : Value} {K : Value → WP} {w : World} (h : V.region_Piece_end a0 K w) : Cl pg 25 #[a0] K w :=
  cl_of pg_mixed Try.func25 (args := [a0]) (by kernel_rfl) (by rw [show WF pg Try.f25 [a0] K = V.region_Piece_end a0 K from by kernel_rfl]; exact h)

def V.slices_SortedFunc_Piece (a0 a1 : Value) (KR : Value → WP) : WP :=
  FnV pg (.func (.func 38) #[] #[]) #[a0] fun v7 =>
  FnV pg (.func (.func 39) #[] #[]) #[v7, a1] fun _ =>
  KR v7
theorem V.slices_SortedFunc_Piece_ok {a0 a1 : Value} {K : Value → WP} {w : World} (h : V.slices_SortedFunc_Piece a0 a1 K w) : Cl pg 26 #[a0, a1] K w :=
  cl_of pg_mixed Try.func26 (args := [a0, a1]) (by kernel_rfl) (by rw [show WF pg Try.f26 [a0, a1] K = V.slices_SortedFunc_Piece a0 a1 K from by kernel_rfl]; exact h)

def V.slices_Values_Piece_Piece (a0 : Value) (KR : Value → WP) : WP :=
  New 22 (Value.cells a0) fun v1 =>
  KR (.func (.func 40) #[] #[v1])
theorem V.slices_Values_Piece_Piece_ok {a0 : Value} {K : Value → WP} {w : World} (h : V.slices_Values_Piece_Piece a0 K w) : Cl pg 27 #[a0] K w :=
  cl_of pg_mixed Try.func27 (args := [a0]) (by kernel_rfl) (by rw [show WF pg Try.f27 [a0] K = V.slices_Values_Piece_Piece a0 K from by kernel_rfl]; exact h)

def V.region_Region_Protect_c1 (a0 a1 : Value) (KR : Value → WP) : WP :=
  New 27 (Value.cells a0) fun v2 =>
  New 27 (Value.cells a1) fun v3 =>
  FA v2 0 fun v5 =>
  Ld1 v5 fun v6 =>
  FA v3 0 fun v7 =>
  Ld1 v7 fun v8 =>
  FnV pg (.func (.func 21) #[] #[]) #[v6, v8] fun v9 =>
  KR v9
theorem V.region_Region_Protect_c1_ok {a0 a1 : Value} {K : Value → WP} {w : World} (h : V.region_Region_Protect_c1 a0 a1 K w) : Cl pg 28 #[a0, a1] K w :=
  cl_of pg_mixed Try.func28 (args := [a0, a1]) (by kernel_rfl) (by rw [show WF pg Try.f28 [a0, a1] K = V.region_Region_Protect_c1 a0 a1 K from by kernel_rfl]; exact h)

def V.slices_Clone_Piece_Piece (a0 : Value) (KR : Value → WP) : WP :=
  BinX pg .eql 22 (.tmp 3) (.const (.slice none 0 0)) a0 (.slice none 0 0) fun v4 =>
  Cnd v4 (KR (.slice none 0 0))
  (BSlC 27 5 #[(.int .i64 0), (.int .i64 0), (.int .i64 0), (.int .i64 0), (.int .i64 0)] 0 #[] fun v5 =>
  AppC 27 5 40 #[(.int .i64 0), (.int .i64 0), (.int .i64 0), (.int .i64 0), (.int .i64 0)] v5 a0 fun v7 =>
  KR v7)
theorem V.slices_Clone_Piece_Piece_ok {a0 : Value} {K : Value → WP} {w : World} (h : V.slices_Clone_Piece_Piece a0 K w) : Cl pg 29 #[a0] K w :=
  cl_of pg_mixed Try.func29 (args := [a0]) (by kernel_rfl) (by rw [show WF pg Try.f29 [a0] K = V.slices_Clone_Piece_Piece a0 K from by kernel_rfl]; exact h)

def V.slices_ContainsFunc_int_int (a0 a1 : Value) (KR : Value → WP) : WP :=
  FnV pg (.func (.func 41) #[] #[]) #[a0, a1] fun v7 =>
  BinI .geq v7 (.int .i64 0) fun v8 =>
  KR v8
theorem V.slices_ContainsFunc_int_int_ok {a0 a1 : Value} {K : Value → WP} {w : World} (h : V.slices_ContainsFunc_int_int a0 a1 K w) : Cl pg 30 #[a0, a1] K w :=
  cl_of pg_mixed Try.func30 (args := [a0, a1]) (by kernel_rfl) (by rw [show WF pg Try.f30 [a0, a1] K = V.slices_ContainsFunc_int_int a0 a1 K from by kernel_rfl]; exact h)

def V.region_pages_c1 (a0 : Value) (KR : Value → WP) : WP :=
  BinI .lss a0 (.int .i64 0) fun v4 =>
  Grd v4 false (BinI .rem a0 (.int .i64 64) fun v7 =>
  BinI .neq v7 (.int .i64 0) fun v8 =>
  KR v8)
  (KR (.bool true))
theorem V.region_pages_c1_ok {a0 : Value} {K : Value → WP} {w : World} (h : V.region_pages_c1 a0 K w) : Cl pg 31 #[a0] K w :=
  cl_of pg_mixed Try.func31 (args := [a0]) (by kernel_rfl) (by rw [show WF pg Try.f31 [a0] K = V.region_pages_c1 a0 K from by kernel_rfl]; exact h)

def V.region_Region_over_c1 (a0 a1 a2 a3 : Value) (KR : Value → WP) : WP :=
  Ld1 a1 fun v7 =>
  NilC v7 fun v8 =>
  FA v8 2 fun v9 =>
  Ld1 v9 fun v10 =>
  LenS v10 fun v11 =>
  LoopC [(.int .i64 0)] fun vK vs => AllE <|
  UN vs fun v12 _ =>
  BinI .lss v12 v11 fun v13 =>
  Cnd v13 (IA 5 v10 v12 fun v15 =>
  LdN 5 v15 fun v16 =>
  New 27 #[(.int .i64 0), (.int .i64 0), (.int .i64 0), (.int .i64 0), (.int .i64 0)] fun v6 =>
  St 5 v6 v16 fun _ =>
  FA v6 0 fun v17 =>
  Ld1 v17 fun v18 =>
  FA v6 1 fun v19 =>
  Ld1 v19 fun v20 =>
  Ld1 a2 fun v21 =>
  Ld1 a3 fun v22 =>
  FnV pg (.func (.func 33) #[] #[]) #[v18, v20, v21, v22] fun v23 =>
  Grd v23 true (LdN 5 v6 fun v27 =>
  FnV pg a0 #[v12, v27] fun v28 =>
  Un .not v28 fun v29 =>
  Cnd v29 (KR (.tuple #[]))
  (BinI .add v12 (.int .i64 1) fun v31 =>
  vK [v31]))
  (BinI .add v12 (.int .i64 1) fun v31_1 =>
  vK [v31_1]))
  (KR (.tuple #[]))
theorem V.region_Region_over_c1_ok {a0 a1 a2 a3 : Value} {K : Value → WP} {w : World} (h : V.region_Region_over_c1 a0 a1 a2 a3 K w) : Cl pg 32 #[a0, a1, a2, a3] K w :=
  cl_of pg_mixed Try.func32 (args := [a0, a1, a2, a3]) (by kernel_rfl) (by rw [show WF pg Try.f32 [a0, a1, a2, a3] K = V.region_Region_over_c1 a0 a1 a2 a3 K from by kernel_rfl]; exact h)

def V.num_Overlap (a0 a1 a2 a3 : Value) (KR : Value → WP) : WP :=
  Ex pg (Builtin.min_ #[3, 3, 3, 3] 3 #[a0, a1, a2, a3]) fun v13 =>
  BinI .lss v13 (.int .i64 0) fun v14 =>
  Grd v14 false (BinI .eql a1 (.int .i64 0) fun v17 =>
  Grd v17 false (BinI .eql a3 (.int .i64 0) fun v21 =>
  Cnd v21 (KR (.bool false))
  (BinI .leq a0 a2 fun v25 =>
  Cnd v25 (BinI .sub a2 a0 fun v28 =>
  BinI .lss v28 a1 fun v30 =>
  KR v30)
  (BinI .sub a0 a2 fun v33 =>
  BinI .lss v33 a3 fun v35 =>
  KR v35)))
  (KR (.bool false)))
  (KR (.bool false))
theorem V.num_Overlap_ok {a0 a1 a2 a3 : Value} {K : Value → WP} {w : World} (h : V.num_Overlap a0 a1 a2 a3 K w) : Cl pg 33 #[a0, a1, a2, a3] K w :=
  cl_of pg_mixed Try.func33 (args := [a0, a1, a2, a3]) (by kernel_rfl) (by rw [show WF pg Try.f33 [a0, a1, a2, a3] K = V.num_Overlap a0 a1 a2 a3 K from by kernel_rfl]; exact h)

def V.cmp_isNaN_int (a0 : Value) (KR : Value → WP) : WP :=
  BinI .neq a0 a0 fun v5 =>
  KR v5
theorem V.cmp_isNaN_int_ok {a0 : Value} {K : Value → WP} {w : World} (h : V.cmp_isNaN_int a0 K w) : Cl pg 34 #[a0] K w :=
  cl_of pg_mixed Try.func34 (args := [a0]) (by kernel_rfl) (by rw [show WF pg Try.f34 [a0] K = V.cmp_isNaN_int a0 K from by kernel_rfl]; exact h)

def V.slices_rotateRight_Piece (a0 a1 : Value) (KR : Value → WP) : WP :=
  LenS a0 fun v6 =>
  BinI .sub v6 a1 fun v8 =>
  FnV pg (.func (.func 42) #[] #[]) #[a0, v8] fun _ =>
  KR (.tuple #[])
theorem V.slices_rotateRight_Piece_ok {a0 a1 : Value} {K : Value → WP} {w : World} (h : V.slices_rotateRight_Piece a0 a1 K w) : Cl pg 36 #[a0, a1] K w :=
  cl_of pg_mixed Try.func36 (args := [a0, a1]) (by kernel_rfl) (by rw [show WF pg Try.f36 [a0, a1] K = V.slices_rotateRight_Piece a0 a1 K from by kernel_rfl]; exact h)

def V.region_Piece_part (a0 a1 a2 : Value) (KR : Value → WP) : WP :=
  New 27 (Value.cells a0) fun v3 =>
  New 27 #[(.int .i64 0), (.int .i64 0), (.int .i64 0), (.int .i64 0), (.int .i64 0)] fun v6 =>
  Drw <| JoinC (fun vs => AllE (UN vs fun v14 vs =>
  UN vs fun v1 _ =>
  FA v3 3 fun v15 =>
  Ld1 v15 fun v16 =>
  FA v3 0 fun v18 =>
  Ld1 v18 fun v19 =>
  BinI .sub v1 v19 fun v20 =>
  BinI .add v16 v20 fun v21 =>
  FA v3 3 fun v22 =>
  St 1 v22 v21 fun _ =>
  BinI .sub v14 v1 fun v26 =>
  FA v3 0 fun v27 =>
  St 1 v27 v1 fun _ =>
  FA v3 1 fun v28 =>
  St 1 v28 v26 fun _ =>
  LdN 5 v3 fun v29 =>
  St 5 v6 v29 fun _ =>
  LdN 5 v6 fun vr =>
  KR vr))
  fun vK =>
  QtC fun I =>
  QE I (fun KK => FA v3 0 fun v8 =>
  KK v8) fun v8_1 =>
  QE I (fun KK => Ld1 v8_1 fun v9 =>
  KK v9) fun v9_1 =>
  QE I (fun KK => Ex pg (Builtin.max_ #[3, 3] 3 #[a1, v9_1]) fun v10 =>
  KK v10) fun v10_1 =>
  QE I (fun KK => LdN 5 v3 fun v12 =>
  KK v12) fun v12_1 =>
  FnV pg (.func (.func 25) #[] #[]) #[v12_1] fun v13 =>
  CH I <|
  And2 (Ex pg (Builtin.min_ #[3, 3] 3 #[a2, v13]) fun v14_1 =>
  CH I <|
  vK [v14_1, v10_1])
  (Ex pg (Builtin.min_ #[3, 3] 3 #[a2, v13]) fun v14_2 =>
  CH I <|
  vK [v14_2, v10_1])
theorem V.region_Piece_part_ok {a0 a1 a2 : Value} {K : Value → WP} {w : World} (h : V.region_Piece_part a0 a1 a2 K w) : Cl pg 37 #[a0, a1, a2] K w :=
  cl_of pg_mixed Try.func37 (args := [a0, a1, a2]) (by kernel_rfl) (by rw [show WF pg Try.f37 [a0, a1, a2] K = V.region_Piece_part a0 a1 a2 K from by kernel_rfl]; exact h)

def V.slices_Collect_Piece (a0 : Value) (KR : Value → WP) : WP :=
  FnV pg (.func (.func 43) #[] #[]) #[(.slice none 0 0), a0] fun v4 =>
  KR v4
theorem V.slices_Collect_Piece_ok {a0 : Value} {K : Value → WP} {w : World} (h : V.slices_Collect_Piece a0 K w) : Cl pg 38 #[a0] K w :=
  cl_of pg_mixed Try.func38 (args := [a0]) (by kernel_rfl) (by rw [show WF pg Try.f38 [a0] K = V.slices_Collect_Piece a0 K from by kernel_rfl]; exact h)

def V.slices_SortFunc_Piece_Piece (a0 a1 : Value) (KR : Value → WP) : WP :=
  LenS a0 fun v6 =>
  ConvI .u64 v6 fun v10 =>
  FnV pg (.func (.func 45) #[] #[]) #[v10] fun v11 =>
  FnV pg (.func (.func 44) #[] #[]) #[a0, (.int .i64 0), v6, v11, a1] fun _ =>
  KR (.tuple #[])
theorem V.slices_SortFunc_Piece_Piece_ok {a0 a1 : Value} {K : Value → WP} {w : World} (h : V.slices_SortFunc_Piece_Piece a0 a1 K w) : Cl pg 39 #[a0, a1] K w :=
  cl_of pg_mixed Try.func39 (args := [a0, a1]) (by kernel_rfl) (by rw [show WF pg Try.f39 [a0, a1] K = V.slices_SortFunc_Piece_Piece a0 a1 K from by kernel_rfl]; exact h)

def V.slices_Values_c1_Piece_Piece (a0 a1 : Value) (KR : Value → WP) : WP :=
  Ld1 a1 fun v5 =>
  LenS v5 fun v6 =>
  LoopC [(.int .i64 0)] fun vK vs => AllE <|
  UN vs fun v7 _ =>
  BinI .lss v7 v6 fun v8 =>
  Cnd v8 (IA 5 v5 v7 fun v9 =>
  LdN 5 v9 fun v10 =>
  New 27 #[(.int .i64 0), (.int .i64 0), (.int .i64 0), (.int .i64 0), (.int .i64 0)] fun v4 =>
  St 5 v4 v10 fun _ =>
  LdN 5 v4 fun v12 =>
  FnV pg a0 #[v12] fun v13 =>
  Un .not v13 fun v14 =>
  Cnd v14 (KR (.tuple #[]))
  (BinI .add v7 (.int .i64 1) fun v15 =>
  vK [v15]))
  (KR (.tuple #[]))
theorem V.slices_Values_c1_Piece_Piece_ok {a0 a1 : Value} {K : Value → WP} {w : World} (h : V.slices_Values_c1_Piece_Piece a0 a1 K w) : Cl pg 40 #[a0, a1] K w :=
  cl_of pg_mixed Try.func40 (args := [a0, a1]) (by kernel_rfl) (by rw [show WF pg Try.f40 [a0, a1] K = V.slices_Values_c1_Piece_Piece a0 a1 K from by kernel_rfl]; exact h)

def V.slices_IndexFunc_int_int (a0 a1 : Value) (KR : Value → WP) : WP :=
  LenS a0 fun v7 =>
  LoopC [(.int .i64 0), (.int .i64 0)] fun vK vs => AllE <|
  UN vs fun v4 vs =>
  UN vs fun v8 _ =>
  BinI .lss v8 v7 fun v9 =>
  Cnd v9 (IA 1 a0 v8 fun v14 =>
  Ld1 v14 fun v15 =>
  FnV pg a1 #[v15] fun v16 =>
  Cnd v16 (KR v8)
  (BinI .add v8 (.int .i64 1) fun v18 =>
  vK [v4, v18]))
  (KR (.int .i64 (-1)))
theorem V.slices_IndexFunc_int_int_ok {a0 a1 : Value} {K : Value → WP} {w : World} (h : V.slices_IndexFunc_int_int a0 a1 K w) : Cl pg 41 #[a0, a1] K w :=
  cl_of pg_mixed Try.func41 (args := [a0, a1]) (by kernel_rfl) (by rw [show WF pg Try.f41 [a0, a1] K = V.slices_IndexFunc_int_int a0 a1 K from by kernel_rfl]; exact h)

def V.slices_rotateLeft_Piece (a0 a1 : Value) (KR : Value → WP) : WP :=
  SlC 5 a0 none (some a1) fun v6 =>
  FnV pg (.func (.func 46) #[] #[]) #[v6] fun _ =>
  SlC 5 a0 (some a1) none fun v10 =>
  FnV pg (.func (.func 46) #[] #[]) #[v10] fun _ =>
  FnV pg (.func (.func 46) #[] #[]) #[a0] fun _ =>
  KR (.tuple #[])
theorem V.slices_rotateLeft_Piece_ok {a0 a1 : Value} {K : Value → WP} {w : World} (h : V.slices_rotateLeft_Piece a0 a1 K w) : Cl pg 42 #[a0, a1] K w :=
  cl_of pg_mixed Try.func42 (args := [a0, a1]) (by kernel_rfl) (by rw [show WF pg Try.f42 [a0, a1] K = V.slices_rotateLeft_Piece a0 a1 K from by kernel_rfl]; exact h)

def V.slices_AppendSeq_Piece_Piece (a0 a1 : Value) (KR : Value → WP) : WP :=
  New 22 (Value.cells a0) fun v2 =>
  RF0 pg a1 (fun vl vs vK =>
  UN vs fun v7 vs =>
  UNe vs <|
  New 27 #[(.int .i64 0), (.int .i64 0), (.int .i64 0), (.int .i64 0), (.int .i64 0)] fun v5 =>
  St 5 v5 v7 fun _ =>
  RBeg vl <|
  Ld1 v2 fun v8 =>
  LdN 5 v5 fun v9 =>
  BSlC 27 5 #[(.int .i64 0), (.int .i64 0), (.int .i64 0), (.int .i64 0), (.int .i64 0)] 1 #[(0, v9)] fun v10 =>
  AppC 27 5 40 #[(.int .i64 0), (.int .i64 0), (.int .i64 0), (.int .i64 0), (.int .i64 0)] v8 v10 fun v11 =>
  St 1 v2 v11 fun _ =>
  REnd vl none vK)
  fun vm vj =>
  JumpC vj (Ld1 v2 fun v12 =>
  LvC (.tuple #[vm]) <| KR v12)
  (LvC (.tuple #[vm]) <| KR (.slice none 0 0))
  (fun _ => fun _ => False)
theorem V.slices_AppendSeq_Piece_Piece_ok {a0 a1 : Value} {K : Value → WP} {w : World} (h : V.slices_AppendSeq_Piece_Piece a0 a1 K w) : Cl pg 43 #[a0, a1] K w :=
  cl_of pg_mixed Try.func43 (args := [a0, a1]) (by kernel_rfl) (by rw [show WF pg Try.f43 [a0, a1] K = V.slices_AppendSeq_Piece_Piece a0 a1 K from by kernel_rfl]; exact h)

def V.slices_Reverse_Piece_Piece (a0 : Value) (KR : Value → WP) : WP :=
  LenS a0 fun v5 =>
  BinI .sub v5 (.int .i64 1) fun v6 =>
  LoopC [(.int .i64 0), v6] fun vK vs => AllE <|
  UN vs fun v2 vs =>
  UN vs fun v3 _ =>
  BinI .lss v2 v3 fun v9 =>
  Cnd v9 (Drw <| QtC fun I =>
  QE I (fun KK => IA 5 a0 v3 fun v20 =>
  KK v20) fun v20_1 =>
  QE I (fun KK => LdN 5 v20_1 fun v21 =>
  KK v21) fun v21_1 =>
  QE I (fun KK => IA 5 a0 v2 fun v24 =>
  KK v24) fun v24_1 =>
  QE I (fun KK => LdN 5 v24_1 fun v25 =>
  KK v25) fun v25_1 =>
  QE I (fun KK => IA 5 a0 v2 fun v26 =>
  KK v26) fun v26_1 =>
  St 5 v26_1 v21_1 fun _ =>
  IA 5 a0 v3 fun v27 =>
  St 5 v27 v25_1 fun _ =>
  BinI .add v2 (.int .i64 1) fun v11 =>
  BinI .sub v3 (.int .i64 1) fun v13 =>
  vK [v11, v13])
  (KR (.tuple #[]))
theorem V.slices_Reverse_Piece_Piece_ok {a0 : Value} {K : Value → WP} {w : World} (h : V.slices_Reverse_Piece_Piece a0 K w) : Cl pg 46 #[a0] K w :=
  cl_of pg_mixed Try.func46 (args := [a0]) (by kernel_rfl) (by rw [show WF pg Try.f46 [a0] K = V.slices_Reverse_Piece_Piece a0 K from by kernel_rfl]; exact h)
end Go.Proofs.Ytplllehpaimpiaa
