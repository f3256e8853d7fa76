/- What each function asks, printed by a program of this session's own; each is checked against the code. -/
import Derived.Test.YthjkmgckkacegaaBj
import Derived.Test.YthjkmgckkacegaaProg
set_option maxRecDepth 100000
namespace Go.Proofs.Ythjkmgckkacegaa
open Go Go.Jac
noncomputable abbrev pg : Program := Try.prog
theorem pg_mixed : pg.follows .mixedOrders = true := by kernel_rfl
def V.gosem_cut_init (KR : Value → WP) : WP :=
  FnV pg (.func (.func 1) #[] #[]) #[] fun _ =>
  KR (.tuple #[])
theorem V.gosem_cut_init_ok {K : Value → WP} {w : World} (h : V.gosem_cut_init  K w) : Cl pg 2 #[] K w :=
  cl_of pg_mixed Try.func2 (args := []) (by kernel_rfl) (by rw [show WF pg Try.f2 [] K = V.gosem_cut_init  K from by kernel_rfl]; exact h)

def V.jacinthlaw16_WaitsFirst (a0 a1 a2 : Value) (KR : Value → WP) : WP :=
  FnV pg (.func (.func 8) #[] #[]) #[(.int .i64 2)] fun v12 =>
  EqP false v12 (.pointer none) fun v14 =>
  Grd v14 false (LenS a0 fun v17 =>
  BinI .gtr v17 (.int .i64 12) fun v18 =>
  Cnd v18 (EqP true v12 (.pointer none) fun v21 =>
  Grd v21 true (FnV pg (.func (.func 9) #[] #[]) #[] fun v23 =>
  KR v23)
  (KR (.bool false)))
  (FnV pg (.func (.func 11) #[] #[]) #[a0] fun v27 =>
  FnV pg (.func (.func 10) #[] #[]) #[v12, (.int .i64 1), (.int .i64 9), v27] fun v28 =>
  BinI .neq v28 (.int .i64 0) fun v30 =>
  Cnd v30 (FnV pg (.func (.func 12) #[] #[]) #[v12] fun v32 =>
  BinI .eql v32 (.int .i64 0) fun v33 =>
  Grd v33 true (FnV pg (.func (.func 9) #[] #[]) #[] fun v35 =>
  KR v35)
  (KR (.bool false)))
  (LenS a0 fun v38 =>
  BinI .sub v38 (.int .i64 1) fun v39 =>
  LoopC [(.int .i64 (-1)), v39] fun vK vs => AllE <|
  UN vs fun v9 vs =>
  UN vs fun v10 _ =>
  BinI .geq v10 (.int .i64 0) fun v41 =>
  Cnd v41 (IA 2 a0 v10 fun v46 =>
  FA v46 0 fun v47 =>
  Ld1 v47 fun v48 =>
  BinI .eql v48 a1 fun v50 =>
  Grd v50 true (IA 2 a0 v10 fun v54 =>
  FA v54 1 fun v55 =>
  Ld1 v55 fun v56 =>
  BinI .and v56 a2 fun v58 =>
  BinI .neq v58 (.int .i64 0) fun v59 =>
  Cnd v59 (BinI .sub v10 (.int .i64 1) fun v43 =>
  vK [v10, v43])
  (BinI .sub v10 (.int .i64 1) fun v43_1 =>
  vK [v9, v43_1]))
  (BinI .sub v10 (.int .i64 1) fun v43_2 =>
  vK [v9, v43_2]))
  (FnV pg (.func (.func 13) #[] #[]) #[v12, a1, a2] fun v65 =>
  BinI .lss v9 (.int .i64 0) fun v67 =>
  Cnd v67 (LenS v65 fun v69 =>
  BinI .eql v69 (.int .i64 0) fun v70 =>
  Grd v70 true (FnV pg (.func (.func 14) #[] #[]) #[v12, (.int .i64 1)] fun v73 =>
  Grd v73 true (FnV pg (.func (.func 9) #[] #[]) #[] fun v76 =>
  KR v76)
  (KR (.bool false)))
  (KR (.bool false)))
  (LenS v65 fun v79 =>
  BinI .eql v79 (.int .i64 1) fun v80 =>
  Grd v80 true (IA 4 v65 (.int .i64 0) fun v83 =>
  FA v83 1 fun v84 =>
  Ld1 v84 fun v85 =>
  BinI .eql v85 v9 fun v87 =>
  Grd v87 true (FnV pg (.func (.func 14) #[] #[]) #[v12, (.int .i64 1)] fun v91 =>
  Un .not v91 fun v92 =>
  Grd v92 true (FnV pg (.func (.func 9) #[] #[]) #[] fun v95 =>
  KR v95)
  (KR (.bool false)))
  (KR (.bool false)))
  (KR (.bool false)))))))
  (EqP true v12 (.pointer none) fun v21_1 =>
  Grd v21_1 true (FnV pg (.func (.func 9) #[] #[]) #[] fun v23_1 =>
  KR v23_1)
  (KR (.bool false)))
theorem V.jacinthlaw16_WaitsFirst_ok {a0 a1 a2 : Value} {K : Value → WP} {w : World} (h : V.jacinthlaw16_WaitsFirst a0 a1 a2 K w) : Cl pg 3 #[a0, a1, a2] K w :=
  cl_of pg_mixed Try.func3 (args := [a0, a1, a2]) (by kernel_rfl) (by rw [show WF pg Try.f3 [a0, a1, a2] K = V.jacinthlaw16_WaitsFirst a0 a1 a2 K from by kernel_rfl]; exact h)

def V.jacinthlaw16_WaitsForget (a0 a1 : Value) (KR : Value → WP) : WP :=
  FnV pg (.func (.func 8) #[] #[]) #[(.int .i64 100)] fun v14 =>
  EqP false v14 (.pointer none) fun v16 =>
  Grd v16 false (LenS a0 fun v19 =>
  BinI .gtr v19 (.int .i64 60) fun v20 =>
  Cnd v20 (EqP true v14 (.pointer none) fun v23 =>
  Grd v23 true (FnV pg (.func (.func 9) #[] #[]) #[] fun v25 =>
  KR v25)
  (KR (.bool false)))
  (LenS a0 fun v28 =>
  LoopC [(.slice none 0 0), (.int .i64 0)] fun vK vs => AllE <|
  UN vs fun v6 vs =>
  UN vs fun v29 _ =>
  BinI .lss v29 v28 fun v30 =>
  Cnd v30 (IA 1 a0 v29 fun v31 =>
  Ld1 v31 fun v32 =>
  Ex pg (bldS #[(.int .i64 0), (.int .i64 0)] [(0, 1), (1, 1)] #[(0, (.int .i64 2)), (1, (.int .i64 1))]) fun v35 =>
  BSlC 42 2 #[(.int .i64 0), (.int .i64 0)] 1 #[(0, v35)] fun v36 =>
  FnV pg (.func (.func 10) #[] #[]) #[v14, v32, (.int .i64 5), v36] fun v37 =>
  BinI .eql v37 (.int .i64 0) fun v38 =>
  Cnd v38 (BSlC 3 1 #[(.int .i64 0)] 1 #[(0, v32)] fun v41 =>
  AppC 3 1 8 #[(.int .i64 0)] v6 v41 fun v42 =>
  BinI .add v29 (.int .i64 1) fun v43 =>
  vK [v42, v43])
  (BinI .add v29 (.int .i64 1) fun v43_1 =>
  vK [v6, v43_1]))
  (BinI .lss a1 (.int .i64 0) fun v45 =>
  Grd v45 false (LenS v6 fun v49 =>
  BinI .geq a1 v49 fun v50 =>
  Cnd v50 (FnV pg (.func (.func 12) #[] #[]) #[v14] fun v53 =>
  LenS v6 fun v55 =>
  BinI .eql v53 v55 fun v56 =>
  Grd v56 true (FnV pg (.func (.func 9) #[] #[]) #[] fun v58 =>
  KR v58)
  (KR (.bool false)))
  (IA 1 v6 a1 fun v62 =>
  Ld1 v62 fun v63 =>
  FnV pg (.func (.func 15) #[] #[]) #[v14, v63] fun v66 =>
  BinI .neq v66 (.int .i64 0) fun v67 =>
  Grd v67 false (FnV pg (.func (.func 15) #[] #[]) #[v14, v63] fun v71 =>
  BinI .neq v71 (.int .i64 (-25)) fun v72 =>
  Grd v72 false (FnV pg (.func (.func 14) #[] #[]) #[v14, v63] fun v77 =>
  Cnd v77 (KR (.bool false))
  (Ex pg (bldS #[(.int .i64 0), (.int .i64 0)] [(0, 1), (1, 1)] #[(0, (.int .i64 3)), (1, (.int .i64 1))]) fun v81 =>
  BSlC 42 2 #[(.int .i64 0), (.int .i64 0)] 1 #[(0, v81)] fun v82 =>
  FnV pg (.func (.func 10) #[] #[]) #[v14, v63, (.int .i64 9), v82] fun v83 =>
  BinI .neq v83 (.int .i64 0) fun v84 =>
  Cnd v84 (KR (.bool false))
  (FnV pg (.func (.func 13) #[] #[]) #[v14, (.int .i64 2), (.int .i64 1)] fun v86 =>
  LenS v86 fun v88 =>
  LenS v6 fun v90 =>
  BinI .sub v90 (.int .i64 1) fun v91 =>
  BinI .neq v88 v91 fun v92 =>
  Grd v92 false (FnV pg (.func (.func 14) #[] #[]) #[v14, v63] fun v96 =>
  Un .not v96 fun v97 =>
  Grd v97 false (FnV pg (.func (.func 12) #[] #[]) #[v14] fun v101 =>
  BinI .neq v101 (.int .i64 1) fun v102 =>
  Cnd v102 (KR (.bool false))
  (LenS v86 fun v105 =>
  LoopC [(.bool false), (.int .i64 0)] fun vK_1 vs => AllE <|
  UN vs fun v4 vs =>
  UN vs fun v106 _ =>
  BinI .lss v106 v105 fun v107 =>
  Cnd v107 (IA 4 v86 v106 fun v108 =>
  LdN 4 v108 fun v109 =>
  New 38 #[(.int .i64 0), (.int .i64 0), (.int .i64 0), (.int .i64 0)] fun v12 =>
  St 4 v12 v109 fun _ =>
  FA v12 0 fun v110 =>
  Ld1 v110 fun v111 =>
  BinI .eql v111 v63 fun v113 =>
  Cnd v113 (KR (.bool false))
  (BinI .add v106 (.int .i64 1) fun v114 =>
  vK_1 [v4, v114]))
  (FnV pg (.func (.func 16) #[] #[]) #[v14, (.int .i64 3)] fun v116 =>
  LenS v116 fun v118 =>
  BinI .eql v118 (.int .i64 1) fun v119 =>
  Grd v119 true (IA 4 v116 (.int .i64 0) fun v122 =>
  FA v122 0 fun v123 =>
  Ld1 v123 fun v124 =>
  BinI .eql v124 v63 fun v126 =>
  Grd v126 true (IA 4 v116 (.int .i64 0) fun v130 =>
  FA v130 2 fun v131 =>
  Ld1 v131 fun v132 =>
  BinI .eql v132 (.int .i64 (-23)) fun v133 =>
  Grd v133 true (FnV pg (.func (.func 9) #[] #[]) #[] fun v136 =>
  KR v136)
  (KR (.bool false)))
  (KR (.bool false)))
  (KR (.bool false)))))
  (KR (.bool false)))
  (KR (.bool false)))))
  (KR (.bool false)))
  (KR (.bool false))))
  (FnV pg (.func (.func 12) #[] #[]) #[v14] fun v53_1 =>
  LenS v6 fun v55_1 =>
  BinI .eql v53_1 v55_1 fun v56_1 =>
  Grd v56_1 true (FnV pg (.func (.func 9) #[] #[]) #[] fun v58_1 =>
  KR v58_1)
  (KR (.bool false))))))
  (EqP true v14 (.pointer none) fun v23_1 =>
  Grd v23_1 true (FnV pg (.func (.func 9) #[] #[]) #[] fun v25_1 =>
  KR v25_1)
  (KR (.bool false)))
theorem V.jacinthlaw16_WaitsForget_ok {a0 a1 : Value} {K : Value → WP} {w : World} (h : V.jacinthlaw16_WaitsForget a0 a1 K w) : Cl pg 4 #[a0, a1] K w :=
  cl_of pg_mixed Try.func4 (args := [a0, a1]) (by kernel_rfl) (by rw [show WF pg Try.f4 [a0, a1] K = V.jacinthlaw16_WaitsForget a0 a1 K from by kernel_rfl]; exact h)

def V.jacinthlaw16_WaitsOrder (a0 a1 a2 : Value) (KR : Value → WP) : WP :=
  FnV pg (.func (.func 8) #[] #[]) #[(.int .i64 100)] fun v28 =>
  FnV pg (.func (.func 8) #[] #[]) #[(.int .i64 100)] fun v29 =>
  EqP false v28 (.pointer none) fun v31 =>
  Grd v31 false (EqP false v29 (.pointer none) fun v34 =>
  Grd v34 false (LenS a0 fun v38 =>
  BinI .gtr v38 (.int .i64 60) fun v39 =>
  Grd v39 false (LenS a1 fun v43 =>
  LenS a0 fun v45 =>
  BinI .lss v43 v45 fun v46 =>
  Cnd v46 (EqP true v28 (.pointer none) fun v49 =>
  Grd v49 true (EqP true v29 (.pointer none) fun v52 =>
  Grd v52 true (FnV pg (.func (.func 9) #[] #[]) #[] fun v55 =>
  KR v55)
  (KR (.bool false)))
  (KR (.bool false)))
  (LenS a0 fun v58 =>
  LoopC [(.bool false), (.slice none 0 0), (.int .i64 0)] fun vK vs => AllE <|
  UN vs fun v6 vs =>
  UN vs fun v9 vs =>
  UN vs fun v59 _ =>
  BinI .lss v59 v58 fun v60 =>
  Cnd v60 (IA 1 a0 v59 fun v62 =>
  Ld1 v62 fun v63 =>
  IA 1 a1 v59 fun v68 =>
  Ld1 v68 fun v69 =>
  Ex pg (bldS #[(.int .i64 0), (.int .i64 0)] [(0, 1), (1, 1)] #[(0, (.int .i64 4)), (1, (.int .i64 1))]) fun v70 =>
  BSlC 42 2 #[(.int .i64 0), (.int .i64 0)] 1 #[(0, v70)] fun v71 =>
  FnV pg (.func (.func 10) #[] #[]) #[v28, v63, v69, v71] fun v72 =>
  IA 1 a1 v59 fun v78 =>
  Ld1 v78 fun v79 =>
  Ex pg (bldS #[(.int .i64 0), (.int .i64 0)] [(0, 1), (1, 1)] #[(0, (.int .i64 4)), (1, (.int .i64 1))]) fun v80 =>
  BSlC 42 2 #[(.int .i64 0), (.int .i64 0)] 1 #[(0, v80)] fun v81 =>
  FnV pg (.func (.func 10) #[] #[]) #[v29, v63, v79, v81] fun v82 =>
  BinI .neq v72 v82 fun v83 =>
  Cnd v83 (KR (.bool false))
  (BinI .eql v72 (.int .i64 0) fun v85 =>
  Cnd v85 (BSlC 3 1 #[(.int .i64 0)] 1 #[(0, v63)] fun v88 =>
  AppC 3 1 8 #[(.int .i64 0)] v9 v88 fun v89 =>
  BinI .add v59 (.int .i64 1) fun v90 =>
  vK [v6, v89, v90])
  (BinI .add v59 (.int .i64 1) fun v90_1 =>
  vK [v6, v9, v90_1])))
  (FnV pg (.func (.func 13) #[] #[]) #[v28, (.int .i64 4), (.int .i64 3)] fun v92 =>
  LenS v92 fun v94 =>
  LenS v9 fun v96 =>
  BinI .neq v94 v96 fun v97 =>
  Grd v97 false (FnV pg (.func (.func 12) #[] #[]) #[v28] fun v100 =>
  BinI .neq v100 (.int .i64 0) fun v101 =>
  Cnd v101 (KR (.bool false))
  (LenS v92 fun v104 =>
  LoopC [v6, (.int .i64 0)] fun vK_1 vs => AllE <|
  UN vs fun v6_1 vs =>
  UN vs fun v105 _ =>
  BinI .lss v105 v104 fun v106 =>
  Cnd v106 (IA 4 v92 v105 fun v108 =>
  LdN 4 v108 fun v109 =>
  New 38 #[(.int .i64 0), (.int .i64 0), (.int .i64 0), (.int .i64 0)] fun v15 =>
  St 4 v15 v109 fun _ =>
  Drw <| QtC fun I =>
  QE I (fun KK => FA v15 0 fun v110 =>
  KK v110) fun v110_1 =>
  QE I (fun KK => Ld1 v110_1 fun v111 =>
  KK v111) fun v111_1 =>
  QE I (fun KK => IA 1 v9 v105 fun v114 =>
  KK v114) fun v114_1 =>
  QE I (fun KK => Ld1 v114_1 fun v115 =>
  KK v115) fun v115_1 =>
  BinI .neq v111_1 v115_1 fun v116 =>
  Grd v116 false (FA v15 1 fun v118 =>
  Ld1 v118 fun v119 =>
  BinI .neq v119 (.int .i64 0) fun v120 =>
  Grd v120 false (FA v15 3 fun v123 =>
  Ld1 v123 fun v124 =>
  BinI .neq v124 (.int .i64 3) fun v125 =>
  Grd v125 false (FA v15 2 fun v128 =>
  Ld1 v128 fun v129 =>
  BinI .neq v129 (.int .i64 0) fun v130 =>
  Cnd v130 (KR (.bool false))
  (BinI .add v105 (.int .i64 1) fun v132 =>
  vK_1 [v6_1, v132]))
  (KR (.bool false)))
  (KR (.bool false)))
  (KR (.bool false)))
  (Ex pg (Instr.makeMap 46 none) fun v133 =>
  LenS v9 fun v135 =>
  LoopC [(.int .i64 0)] fun vK_2 vs => AllE <|
  UN vs fun v136 _ =>
  BinI .lss v136 v135 fun v137 =>
  Cnd v137 (IA 1 v9 v136 fun v138 =>
  Ld1 v138 fun v139 =>
  FnV pg (.func (.func 17) #[] #[]) #[v29, v139] fun v145 =>
  Ext v145 0 fun v146 =>
  Ext v145 1 fun _ =>
  Ex pg (do Instr.mapUpdate 46 v133 v139 v146; pure undef) fun _ =>
  BinI .add v136 (.int .i64 1) fun v148 =>
  vK_2 [v148])
  (FnV pg (.func (.func 18) #[] #[]) #[v29, a2] fun v151 =>
  LenS v151 fun v153 =>
  LoopC [v6_1, (.int .i64 0), (.int .i64 0), (.int .i64 0)] fun vK_3 vs => AllE <|
  UN vs fun v6_2 vs =>
  UN vs fun v20 vs =>
  UN vs fun v21 vs =>
  UN vs fun v154 _ =>
  BinI .lss v154 v153 fun v155 =>
  Cnd v155 (IA 4 v151 v154 fun v157 =>
  LdN 4 v157 fun v158 =>
  New 38 #[(.int .i64 0), (.int .i64 0), (.int .i64 0), (.int .i64 0)] fun v23 =>
  St 4 v23 v158 fun _ =>
  FA v23 0 fun v161 =>
  Ld1 v161 fun v162 =>
  Ex pg (Instr.lookup 46 v133 v162 true) fun v163 =>
  Ext v163 0 fun v164 =>
  Ext v163 1 fun v165 =>
  Un .not v165 fun v167 =>
  Grd v167 false (BinI .gtr v164 a2 fun v171 =>
  Grd v171 false (FA v23 2 fun v174 =>
  Ld1 v174 fun v175 =>
  BinI .neq v175 (.int .i64 (-21)) fun v176 =>
  Grd v176 false (BinI .gtr v154 (.int .i64 0) fun v180 =>
  Grd v180 true (BinI .gtr v20 v164 fun v184 =>
  Grd v184 false (BinI .eql v20 v164 fun v188 =>
  Grd v188 true (FA v23 0 fun v191 =>
  Ld1 v191 fun v192 =>
  BinI .geq v21 v192 fun v193 =>
  Cnd v193 (KR (.bool false))
  (Drw <| QtC fun I =>
  QE I (fun KK => FA v23 0 fun v199 =>
  KK v199) fun v199_1 =>
  QE I (fun KK => Ld1 v199_1 fun v200 =>
  KK v200) fun v200_1 =>
  FA v23 0 fun v202 =>
  Ld1 v202 fun v203 =>
  Ex pg (Builtin.delete_ #[46, 3] 0 #[v133, v203]) fun _ =>
  BinI .add v154 (.int .i64 1) fun v204 =>
  vK_3 [v6_2, v164, v200_1, v204]))
  (Drw <| QtC fun I =>
  QE I (fun KK => FA v23 0 fun v199_2 =>
  KK v199_2) fun v199_3 =>
  QE I (fun KK => Ld1 v199_3 fun v200_2 =>
  KK v200_2) fun v200_3 =>
  FA v23 0 fun v202_1 =>
  Ld1 v202_1 fun v203_1 =>
  Ex pg (Builtin.delete_ #[46, 3] 0 #[v133, v203_1]) fun _ =>
  BinI .add v154 (.int .i64 1) fun v204_1 =>
  vK_3 [v6_2, v164, v200_3, v204_1]))
  (KR (.bool false)))
  (Drw <| QtC fun I =>
  QE I (fun KK => FA v23 0 fun v199_4 =>
  KK v199_4) fun v199_5 =>
  QE I (fun KK => Ld1 v199_5 fun v200_4 =>
  KK v200_4) fun v200_5 =>
  FA v23 0 fun v202_2 =>
  Ld1 v202_2 fun v203_2 =>
  Ex pg (Builtin.delete_ #[46, 3] 0 #[v133, v203_2]) fun _ =>
  BinI .add v154 (.int .i64 1) fun v204_2 =>
  vK_3 [v6_2, v164, v200_5, v204_2]))
  (KR (.bool false)))
  (KR (.bool false)))
  (KR (.bool false)))
  (Ex pg (Instr.range 46 v133) fun v206 =>
  LoopC [v6_2] fun vK_4 vs => AllE <|
  UN vs fun v6_3 _ =>
  Ex pg (Instr.next v206 false 0) fun v207 =>
  Ext v207 0 fun v208 =>
  Cnd v208 (Ex pg (Instr.entry v206) fun v209 =>
  Ext v209 1 fun v210 =>
  BinI .leq v210 a2 fun v213 =>
  Cnd v213 (KR (.bool false))
  (vK_4 [v6_3]))
  (FnV pg (.func (.func 12) #[] #[]) #[v29] fun v215 =>
  Ex pg (Builtin.len_ #[46] 3 #[v133]) fun v217 =>
  BinI .eql v215 v217 fun v218 =>
  Grd v218 true (FnV pg (.func (.func 9) #[] #[]) #[] fun v220 =>
  KR v220)
  (KR (.bool false))))))))
  (KR (.bool false)))))
  (EqP true v28 (.pointer none) fun v49_1 =>
  Grd v49_1 true (EqP true v29 (.pointer none) fun v52_1 =>
  Grd v52_1 true (FnV pg (.func (.func 9) #[] #[]) #[] fun v55_1 =>
  KR v55_1)
  (KR (.bool false)))
  (KR (.bool false))))
  (EqP true v28 (.pointer none) fun v49_2 =>
  Grd v49_2 true (EqP true v29 (.pointer none) fun v52_2 =>
  Grd v52_2 true (FnV pg (.func (.func 9) #[] #[]) #[] fun v55_2 =>
  KR v55_2)
  (KR (.bool false)))
  (KR (.bool false))))
  (EqP true v28 (.pointer none) fun v49_3 =>
  Grd v49_3 true (EqP true v29 (.pointer none) fun v52_3 =>
  Grd v52_3 true (FnV pg (.func (.func 9) #[] #[]) #[] fun v55_3 =>
  KR v55_3)
  (KR (.bool false)))
  (KR (.bool false)))
theorem V.jacinthlaw16_WaitsOrder_ok {a0 a1 a2 : Value} {K : Value → WP} {w : World} (h : V.jacinthlaw16_WaitsOrder a0 a1 a2 K w) : Cl pg 5 #[a0, a1, a2] K w :=
  cl_of pg_mixed Try.func5 (args := [a0, a1, a2]) (by kernel_rfl) (by rw [show WF pg Try.f5 [a0, a1, a2] K = V.jacinthlaw16_WaitsOrder a0 a1 a2 K from by kernel_rfl]; exact h)

def V.jacinthlaw16_WaitsOnce (a0 : Value) (KR : Value → WP) : WP :=
  FnV pg (.func (.func 8) #[] #[]) #[(.int .i64 50)] fun v16 =>
  EqP false v16 (.pointer none) fun v18 =>
  Grd v18 false (LenS a0 fun v21 =>
  BinI .gtr v21 (.int .i64 120) fun v22 =>
  Cnd v22 (EqP true v16 (.pointer none) fun v25 =>
  Grd v25 true (FnV pg (.func (.func 9) #[] #[]) #[] fun v27 =>
  KR v27)
  (KR (.bool false)))
  (Ex pg (Instr.makeMap 51 none) fun v29 =>
  LenS a0 fun v31 =>
  LoopC [(.bool false), (.int .i64 0)] fun vK vs => AllE <|
  UN vs fun v2 vs =>
  UN vs fun v32 _ =>
  BinI .lss v32 v31 fun v33 =>
  Cnd v33 (IA 5 a0 v32 fun v34 =>
  LdN 5 v34 fun v35 =>
  New 53 #[(.int .i64 0), (.int .i64 0), (.int .i64 0), (.int .i64 0), (.slice none 0 0)] fun v6 =>
  St 5 v6 v35 fun _ =>
  FA v6 4 fun v36 =>
  Ld1 v36 fun v37 =>
  LenS v37 fun v38 =>
  BinI .gtr v38 (.int .i64 12) fun v39 =>
  Cnd v39 (FnV pg (.func (.func 9) #[] #[]) #[] fun v40 =>
  KR v40)
  (JoinC (fun vs => AllE (UN vs fun v7 _ =>
  LenS v7 fun v84 =>
  LoopC [v2, (.int .i64 0)] fun vK_1 vs => AllE <|
  UN vs fun v2_1 vs =>
  UN vs fun v85 _ =>
  BinI .lss v85 v84 fun v86 =>
  Cnd v86 (IA 4 v7 v85 fun v87 =>
  LdN 4 v87 fun v88 =>
  New 38 #[(.int .i64 0), (.int .i64 0), (.int .i64 0), (.int .i64 0)] fun v9 =>
  St 4 v9 v88 fun _ =>
  FA v9 0 fun v91 =>
  Ld1 v91 fun v92 =>
  Ex pg (Instr.lookup 51 v29 v92 true) fun v93 =>
  Ext v93 0 fun v94 =>
  Ext v93 1 fun v95 =>
  New 55 #[(.int .i64 0), (.slice none 0 0)] fun v10 =>
  St 2 v10 v94 fun _ =>
  Un .not v95 fun v97 =>
  Cnd v97 (KR (.bool false))
  (Drw <| FA v6 0 fun v98 =>
  Ld1 v98 fun v99 =>
  BinI .eql v99 (.int .i64 3) fun v100 =>
  QtC fun I =>
  Grd v100 true (QE I (fun KK => FA v10 0 fun v102 =>
  KK v102) fun v102_1 =>
  QE I (fun KK => Ld1 v102_1 fun v103 =>
  KK v103) fun v103_1 =>
  QE I (fun KK => FA v6 3 fun v104 =>
  KK v104) fun v104_1 =>
  QE I (fun KK => Ld1 v104_1 fun v105 =>
  KK v105) fun v105_1 =>
  BinI .gtr v103_1 v105_1 fun v106 =>
  Grd v106 false (FA v6 0 fun v109 =>
  Ld1 v109 fun v110 =>
  BinI .neq v110 (.int .i64 3) fun v111 =>
  Grd v111 true (FA v9 1 fun v113 =>
  Ld1 v113 fun v114 =>
  BinI .lss v114 (.int .i64 0) fun v115 =>
  QtC fun I =>
  Grd v115 false (QE I (fun KK => FA v9 1 fun v117 =>
  KK v117) fun v117_1 =>
  QE I (fun KK => Ld1 v117_1 fun v118 =>
  KK v118) fun v118_1 =>
  QE I (fun KK => FA v10 1 fun v119 =>
  KK v119) fun v119_1 =>
  QE I (fun KK => Ld1 v119_1 fun v120 =>
  KK v120) fun v120_1 =>
  QE I (fun KK => LenS v120_1 fun v121 =>
  KK v121) fun v121_1 =>
  BinI .geq v118_1 v121_1 fun v122 =>
  QtC fun I =>
  Grd v122 false (QE I (fun KK => FA v10 1 fun v125 =>
  KK v125) fun v125_1 =>
  QE I (fun KK => Ld1 v125_1 fun v126 =>
  KK v126) fun v126_1 =>
  QE I (fun KK => FA v9 1 fun v127 =>
  KK v127) fun v127_1 =>
  QE I (fun KK => Ld1 v127_1 fun v128 =>
  KK v128) fun v128_1 =>
  QE I (fun KK => IA 2 v126_1 v128_1 fun v129 =>
  KK v129) fun v129_1 =>
  QE I (fun KK => FA v129_1 0 fun v130 =>
  KK v130) fun v130_1 =>
  QE I (fun KK => Ld1 v130_1 fun v131 =>
  KK v131) fun v131_1 =>
  QE I (fun KK => FA v6 2 fun v132 =>
  KK v132) fun v132_1 =>
  QE I (fun KK => Ld1 v132_1 fun v133 =>
  KK v133) fun v133_1 =>
  BinI .neq v131_1 v133_1 fun v134 =>
  Cnd v134 (KR (.bool false))
  (Drw <| FA v6 0 fun v138 =>
  Ld1 v138 fun v139 =>
  BinI .eql v139 (.int .i64 2) fun v140 =>
  QtC fun I =>
  Grd v140 true (QE I (fun KK => FA v10 1 fun v142 =>
  KK v142) fun v142_1 =>
  QE I (fun KK => Ld1 v142_1 fun v143 =>
  KK v143) fun v143_1 =>
  QE I (fun KK => FA v9 1 fun v144 =>
  KK v144) fun v144_1 =>
  QE I (fun KK => Ld1 v144_1 fun v145 =>
  KK v145) fun v145_1 =>
  QE I (fun KK => IA 2 v143_1 v145_1 fun v146 =>
  KK v146) fun v146_1 =>
  QE I (fun KK => FA v146_1 1 fun v147 =>
  KK v147) fun v147_1 =>
  QE I (fun KK => Ld1 v147_1 fun v148 =>
  KK v148) fun v148_1 =>
  QE I (fun KK => FA v6 3 fun v149 =>
  KK v149) fun v149_1 =>
  QE I (fun KK => Ld1 v149_1 fun v150 =>
  KK v150) fun v150_1 =>
  BinI .and v148_1 v150_1 fun v151 =>
  BinI .eql v151 (.int .i64 0) fun v152 =>
  Cnd v152 (KR (.bool false))
  (FA v9 0 fun v155 =>
  Ld1 v155 fun v156 =>
  Ex pg (Builtin.delete_ #[51, 3] 0 #[v29, v156]) fun _ =>
  BinI .add v85 (.int .i64 1) fun v157 =>
  vK_1 [v2_1, v157]))
  (FA v9 0 fun v155_1 =>
  Ld1 v155_1 fun v156_1 =>
  Ex pg (Builtin.delete_ #[51, 3] 0 #[v29, v156_1]) fun _ =>
  BinI .add v85 (.int .i64 1) fun v157_1 =>
  vK_1 [v2_1, v157_1])))
  (KR (.bool false)))
  (QtC fun I =>
  KR (.bool false)))
  (QtC fun I =>
  QtC fun I =>
  Drw <| FA v6 0 fun v138_1 =>
  Ld1 v138_1 fun v139_1 =>
  BinI .eql v139_1 (.int .i64 2) fun v140_1 =>
  QtC fun I =>
  Grd v140_1 true (QE I (fun KK => FA v10 1 fun v142_2 =>
  KK v142_2) fun v142_3 =>
  QE I (fun KK => Ld1 v142_3 fun v143_2 =>
  KK v143_2) fun v143_3 =>
  QE I (fun KK => FA v9 1 fun v144_2 =>
  KK v144_2) fun v144_3 =>
  QE I (fun KK => Ld1 v144_3 fun v145_2 =>
  KK v145_2) fun v145_3 =>
  QE I (fun KK => IA 2 v143_3 v145_3 fun v146_2 =>
  KK v146_2) fun v146_3 =>
  QE I (fun KK => FA v146_3 1 fun v147_2 =>
  KK v147_2) fun v147_3 =>
  QE I (fun KK => Ld1 v147_3 fun v148_2 =>
  KK v148_2) fun v148_3 =>
  QE I (fun KK => FA v6 3 fun v149_2 =>
  KK v149_2) fun v149_3 =>
  QE I (fun KK => Ld1 v149_3 fun v150_2 =>
  KK v150_2) fun v150_3 =>
  BinI .and v148_3 v150_3 fun v151_1 =>
  BinI .eql v151_1 (.int .i64 0) fun v152_1 =>
  Cnd v152_1 (KR (.bool false))
  (FA v9 0 fun v155_2 =>
  Ld1 v155_2 fun v156_2 =>
  Ex pg (Builtin.delete_ #[51, 3] 0 #[v29, v156_2]) fun _ =>
  BinI .add v85 (.int .i64 1) fun v157_2 =>
  vK_1 [v2_1, v157_2]))
  (FA v9 0 fun v155_3 =>
  Ld1 v155_3 fun v156_3 =>
  Ex pg (Builtin.delete_ #[51, 3] 0 #[v29, v156_3]) fun _ =>
  BinI .add v85 (.int .i64 1) fun v157_3 =>
  vK_1 [v2_1, v157_3])))
  (QtC fun I =>
  QtC fun I =>
  KR (.bool false)))
  (FA v6 0 fun v109_1 =>
  Ld1 v109_1 fun v110_1 =>
  BinI .neq v110_1 (.int .i64 3) fun v111_1 =>
  Grd v111_1 true (FA v9 1 fun v113_1 =>
  Ld1 v113_1 fun v114_1 =>
  BinI .lss v114_1 (.int .i64 0) fun v115_1 =>
  QtC fun I =>
  Grd v115_1 false (QE I (fun KK => FA v9 1 fun v117_2 =>
  KK v117_2) fun v117_3 =>
  QE I (fun KK => Ld1 v117_3 fun v118_2 =>
  KK v118_2) fun v118_3 =>
  QE I (fun KK => FA v10 1 fun v119_2 =>
  KK v119_2) fun v119_3 =>
  QE I (fun KK => Ld1 v119_3 fun v120_2 =>
  KK v120_2) fun v120_3 =>
  QE I (fun KK => LenS v120_3 fun v121_2 =>
  KK v121_2) fun v121_3 =>
  BinI .geq v118_3 v121_3 fun v122_1 =>
  QtC fun I =>
  Grd v122_1 false (QE I (fun KK => FA v10 1 fun v125_2 =>
  KK v125_2) fun v125_3 =>
  QE I (fun KK => Ld1 v125_3 fun v126_2 =>
  KK v126_2) fun v126_3 =>
  QE I (fun KK => FA v9 1 fun v127_2 =>
  KK v127_2) fun v127_3 =>
  QE I (fun KK => Ld1 v127_3 fun v128_2 =>
  KK v128_2) fun v128_3 =>
  QE I (fun KK => IA 2 v126_3 v128_3 fun v129_2 =>
  KK v129_2) fun v129_3 =>
  QE I (fun KK => FA v129_3 0 fun v130_2 =>
  KK v130_2) fun v130_3 =>
  QE I (fun KK => Ld1 v130_3 fun v131_2 =>
  KK v131_2) fun v131_3 =>
  QE I (fun KK => FA v6 2 fun v132_2 =>
  KK v132_2) fun v132_3 =>
  QE I (fun KK => Ld1 v132_3 fun v133_2 =>
  KK v133_2) fun v133_3 =>
  BinI .neq v131_3 v133_3 fun v134_1 =>
  Cnd v134_1 (KR (.bool false))
  (Drw <| FA v6 0 fun v138_2 =>
  Ld1 v138_2 fun v139_2 =>
  BinI .eql v139_2 (.int .i64 2) fun v140_2 =>
  QtC fun I =>
  Grd v140_2 true (QE I (fun KK => FA v10 1 fun v142_4 =>
  KK v142_4) fun v142_5 =>
  QE I (fun KK => Ld1 v142_5 fun v143_4 =>
  KK v143_4) fun v143_5 =>
  QE I (fun KK => FA v9 1 fun v144_4 =>
  KK v144_4) fun v144_5 =>
  QE I (fun KK => Ld1 v144_5 fun v145_4 =>
  KK v145_4) fun v145_5 =>
  QE I (fun KK => IA 2 v143_5 v145_5 fun v146_4 =>
  KK v146_4) fun v146_5 =>
  QE I (fun KK => FA v146_5 1 fun v147_4 =>
  KK v147_4) fun v147_5 =>
  QE I (fun KK => Ld1 v147_5 fun v148_4 =>
  KK v148_4) fun v148_5 =>
  QE I (fun KK => FA v6 3 fun v149_4 =>
  KK v149_4) fun v149_5 =>
  QE I (fun KK => Ld1 v149_5 fun v150_4 =>
  KK v150_4) fun v150_5 =>
  BinI .and v148_5 v150_5 fun v151_2 =>
  BinI .eql v151_2 (.int .i64 0) fun v152_2 =>
  Cnd v152_2 (KR (.bool false))
  (FA v9 0 fun v155_4 =>
  Ld1 v155_4 fun v156_4 =>
  Ex pg (Builtin.delete_ #[51, 3] 0 #[v29, v156_4]) fun _ =>
  BinI .add v85 (.int .i64 1) fun v157_4 =>
  vK_1 [v2_1, v157_4]))
  (FA v9 0 fun v155_5 =>
  Ld1 v155_5 fun v156_5 =>
  Ex pg (Builtin.delete_ #[51, 3] 0 #[v29, v156_5]) fun _ =>
  BinI .add v85 (.int .i64 1) fun v157_5 =>
  vK_1 [v2_1, v157_5])))
  (KR (.bool false)))
  (QtC fun I =>
  KR (.bool false)))
  (QtC fun I =>
  QtC fun I =>
  Drw <| FA v6 0 fun v138_3 =>
  Ld1 v138_3 fun v139_3 =>
  BinI .eql v139_3 (.int .i64 2) fun v140_3 =>
  QtC fun I =>
  Grd v140_3 true (QE I (fun KK => FA v10 1 fun v142_6 =>
  KK v142_6) fun v142_7 =>
  QE I (fun KK => Ld1 v142_7 fun v143_6 =>
  KK v143_6) fun v143_7 =>
  QE I (fun KK => FA v9 1 fun v144_6 =>
  KK v144_6) fun v144_7 =>
  QE I (fun KK => Ld1 v144_7 fun v145_6 =>
  KK v145_6) fun v145_7 =>
  QE I (fun KK => IA 2 v143_7 v145_7 fun v146_6 =>
  KK v146_6) fun v146_7 =>
  QE I (fun KK => FA v146_7 1 fun v147_6 =>
  KK v147_6) fun v147_7 =>
  QE I (fun KK => Ld1 v147_7 fun v148_6 =>
  KK v148_6) fun v148_7 =>
  QE I (fun KK => FA v6 3 fun v149_6 =>
  KK v149_6) fun v149_7 =>
  QE I (fun KK => Ld1 v149_7 fun v150_6 =>
  KK v150_6) fun v150_7 =>
  BinI .and v148_7 v150_7 fun v151_3 =>
  BinI .eql v151_3 (.int .i64 0) fun v152_3 =>
  Cnd v152_3 (KR (.bool false))
  (FA v9 0 fun v155_6 =>
  Ld1 v155_6 fun v156_6 =>
  Ex pg (Builtin.delete_ #[51, 3] 0 #[v29, v156_6]) fun _ =>
  BinI .add v85 (.int .i64 1) fun v157_6 =>
  vK_1 [v2_1, v157_6]))
  (FA v9 0 fun v155_7 =>
  Ld1 v155_7 fun v156_7 =>
  Ex pg (Builtin.delete_ #[51, 3] 0 #[v29, v156_7]) fun _ =>
  BinI .add v85 (.int .i64 1) fun v157_7 =>
  vK_1 [v2_1, v157_7])))))
  (FnV pg (.func (.func 12) #[] #[]) #[v16] fun v159 =>
  Ex pg (Builtin.len_ #[51] 3 #[v29]) fun v161 =>
  BinI .neq v159 v161 fun v162 =>
  Cnd v162 (KR (.bool false))
  (FnV pg (.func (.func 19) #[] #[]) #[v16] fun v164 =>
  LenS v164 fun v165 =>
  LoopC [v2_1, (.int .i64 0)] fun vK_2 vs => AllE <|
  UN vs fun v2_2 vs =>
  UN vs fun v166 _ =>
  BinI .lss v166 v165 fun v167 =>
  Cnd v167 (IA 1 v164 v166 fun v168 =>
  Ld1 v168 fun v169 =>
  Ex pg (Instr.lookup 51 v29 v169 true) fun v173 =>
  Ext v173 0 fun v174 =>
  Ext v173 1 fun v175 =>
  New 55 #[(.int .i64 0), (.slice none 0 0)] fun v14 =>
  St 2 v14 v174 fun _ =>
  Un .not v175 fun v177 =>
  Grd v177 false (FA v6 0 fun v179 =>
  Ld1 v179 fun v180 =>
  BinI .eql v180 (.int .i64 3) fun v181 =>
  Grd v181 true (FA v14 0 fun v183 =>
  Ld1 v183 fun v184 =>
  FA v6 3 fun v185 =>
  Ld1 v185 fun v186 =>
  BinI .leq v184 v186 fun v187 =>
  Cnd v187 (KR (.bool false))
  (BinI .add v166 (.int .i64 1) fun v190 =>
  vK_2 [v2_2, v190]))
  (BinI .add v166 (.int .i64 1) fun v190_1 =>
  vK_2 [v2_2, v190_1]))
  (KR (.bool false)))
  (BinI .add v32 (.int .i64 1) fun v191 =>
  vK [v2_2, v191])))))
  fun vK_3 =>
  FA v6 0 fun v41 =>
  Ld1 v41 fun v42 =>
  BinI .eql v42 (.int .i64 1) fun v44 =>
  Cnd v44 (Drw <| QtC fun I =>
  QE I (fun KK => FA v6 1 fun v46 =>
  KK v46) fun v46_1 =>
  QE I (fun KK => Ld1 v46_1 fun v47 =>
  KK v47) fun v47_1 =>
  QE I (fun KK => FA v6 3 fun v48 =>
  KK v48) fun v48_1 =>
  QE I (fun KK => Ld1 v48_1 fun v49 =>
  KK v49) fun v49_1 =>
  QE I (fun KK => FA v6 4 fun v50 =>
  KK v50) fun v50_1 =>
  QE I (fun KK => Ld1 v50_1 fun v51 =>
  KK v51) fun v51_1 =>
  FnV pg (.func (.func 11) #[] #[]) #[v51_1] fun v52 =>
  CH I <|
  FnV pg (.func (.func 10) #[] #[]) #[v16, v47_1, v49_1, v52] fun v53 =>
  BinI .eql v53 (.int .i64 0) fun v54 =>
  Cnd v54 (FA v6 1 fun v56 =>
  Ld1 v56 fun v57 =>
  FA v6 3 fun v58 =>
  Ld1 v58 fun v59 =>
  FA v6 4 fun v60 =>
  Ld1 v60 fun v61 =>
  Ex pg (bldS #[(.int .i64 0), (.slice none 0 0)] [(0, 1), (1, 1)] #[(0, v59), (1, v61)]) fun v62 =>
  Ex pg (do Instr.mapUpdate 51 v29 v57 v62; pure undef) fun _ =>
  vK_3 [(.slice none 0 0)])
  (vK_3 [(.slice none 0 0)]))
  (BinI .eql v42 (.int .i64 2) fun v64 =>
  Cnd v64 (FA v6 2 fun v66 =>
  Ld1 v66 fun v67 =>
  FA v6 3 fun v68 =>
  Ld1 v68 fun v69 =>
  FnV pg (.func (.func 13) #[] #[]) #[v16, v67, v69] fun v70 =>
  vK_3 [v70])
  (BinI .eql v42 (.int .i64 3) fun v72 =>
  Cnd v72 (FA v6 3 fun v74 =>
  Ld1 v74 fun v75 =>
  FnV pg (.func (.func 18) #[] #[]) #[v16, v75] fun v76 =>
  vK_3 [v76])
  (BinI .eql v42 (.int .i64 4) fun v78 =>
  Cnd v78 (FA v6 2 fun v80 =>
  Ld1 v80 fun v81 =>
  FnV pg (.func (.func 16) #[] #[]) #[v16, v81] fun v82 =>
  vK_3 [v82])
  (vK_3 [(.slice none 0 0)]))))))
  (FnV pg (.func (.func 9) #[] #[]) #[] fun v192 =>
  KR v192)))
  (EqP true v16 (.pointer none) fun v25_1 =>
  Grd v25_1 true (FnV pg (.func (.func 9) #[] #[]) #[] fun v27_1 =>
  KR v27_1)
  (KR (.bool false)))
theorem V.jacinthlaw16_WaitsOnce_ok {a0 : Value} {K : Value → WP} {w : World} (h : V.jacinthlaw16_WaitsOnce a0 K w) : Cl pg 6 #[a0] K w :=
  cl_of pg_mixed Try.func6 (args := [a0]) (by kernel_rfl) (by rw [show WF pg Try.f6 [a0] K = V.jacinthlaw16_WaitsOnce a0 K from by kernel_rfl]; exact h)

def V.jacinthlaw16_WaitsPlays (a0 a1 : Value) (KR : Value → WP) : WP :=
  FnV pg (.func (.func 8) #[] #[]) #[a0] fun v20 =>
  BinI .lss a0 (.int .i64 0) fun v22 =>
  Grd v22 false (BinI .gtr a0 (.int .i64 65536) fun v25 =>
  Cnd v25 (EqP false v20 (.pointer none) fun v28 =>
  Grd v28 true (FnV pg (.func (.func 9) #[] #[]) #[] fun v30 =>
  KR v30)
  (KR (.bool false)))
  (EqP false v20 (.pointer none) fun v33 =>
  Grd v33 false (LenS a1 fun v36 =>
  BinI .gtr v36 (.int .i64 120) fun v37 =>
  Cnd v37 (EqP true v20 (.pointer none) fun v40 =>
  Grd v40 true (FnV pg (.func (.func 9) #[] #[]) #[] fun v42 =>
  KR v42)
  (KR (.bool false)))
  (Ex pg (bldS #[(.slice none 0 0), (.int .i64 0)] [(0, 1), (1, 1)] #[(1, a0)]) fun v45 =>
  New 62 (Value.cells v45) fun v46 =>
  LenS a1 fun v48 =>
  LoopC [(.bool false), (.int .i64 0)] fun vK vs => AllE <|
  UN vs fun v4 vs =>
  UN vs fun v49 _ =>
  BinI .lss v49 v48 fun v50 =>
  Cnd v50 (IA 5 a1 v49 fun v51 =>
  LdN 5 v51 fun v52 =>
  New 53 #[(.int .i64 0), (.int .i64 0), (.int .i64 0), (.int .i64 0), (.slice none 0 0)] fun v8 =>
  St 5 v8 v52 fun _ =>
  FA v8 4 fun v53 =>
  Ld1 v53 fun v54 =>
  LenS v54 fun v55 =>
  BinI .gtr v55 (.int .i64 12) fun v56 =>
  Cnd v56 (FnV pg (.func (.func 9) #[] #[]) #[] fun v57 =>
  KR v57)
  (JoinC (fun vs => AllE (UN vs fun v9 _ =>
  FA v8 1 fun v155 =>
  Ld1 v155 fun v156 =>
  FnV pg (.func (.func 24) #[] #[]) #[v46, v156] fun v157 =>
  FA v8 1 fun v160 =>
  Ld1 v160 fun v161 =>
  FnV pg (.func (.func 17) #[] #[]) #[v20, v161] fun v162 =>
  Ext v162 0 fun v163 =>
  Ext v162 1 fun v164 =>
  FnV pg (.func (.func 19) #[] #[]) #[v20] fun v166 =>
  Drw <| Un .not v9 fun v168 =>
  QtC fun I =>
  Grd v168 false (QE I (fun KK => NilC v46 fun v173 =>
  KK v173) fun v173_1 =>
  QE I (fun KK => FA v173_1 0 fun v174 =>
  KK v174) fun v174_1 =>
  QE I (fun KK => Ld1 v174_1 fun v175 =>
  KK v175) fun v175_1 =>
  QE I (fun KK => LenS v175_1 fun v176 =>
  KK v176) fun v176_1 =>
  FnV pg (.func (.func 12) #[] #[]) #[v20] fun v171 =>
  CH I <|
  BinI .neq v171 v176_1 fun v177 =>
  QtC fun I =>
  Grd v177 false (QE I (fun KK => FA v8 1 fun v181 =>
  KK v181) fun v181_1 =>
  QE I (fun KK => Ld1 v181_1 fun v182 =>
  KK v182) fun v182_1 =>
  QE I (fun KK => BinI .geq v157 (.int .i64 0) fun v185 =>
  KK v185) fun v185_1 =>
  FnV pg (.func (.func 14) #[] #[]) #[v20, v182_1] fun v183 =>
  CH I <|
  EqB true v183 v185_1 fun v186 =>
  QtC fun I =>
  Grd v186 false (QE I (fun KK => BinI .geq v157 (.int .i64 0) fun v191 =>
  KK v191) fun v191_1 =>
  EqB true v164 v191_1 fun v192 =>
  Grd v192 false (QtC fun I =>
  Grd v164 true (QE I (fun KK => NilC v46 fun v199 =>
  KK v199) fun v199_1 =>
  QE I (fun KK => FA v199_1 0 fun v200 =>
  KK v200) fun v200_1 =>
  QE I (fun KK => Ld1 v200_1 fun v201 =>
  KK v201) fun v201_1 =>
  QE I (fun KK => IA 3 v201_1 v157 fun v203 =>
  KK v203) fun v203_1 =>
  QE I (fun KK => FA v203_1 1 fun v204 =>
  KK v204) fun v204_1 =>
  QE I (fun KK => Ld1 v204_1 fun v205 =>
  KK v205) fun v205_1 =>
  BinI .neq v163 v205_1 fun v206 =>
  QtC fun I =>
  Grd v206 false (QE I (fun KK => LenS v166 fun v211 =>
  KK v211) fun v211_1 =>
  QE I (fun KK => NilC v46 fun v213 =>
  KK v213) fun v213_1 =>
  QE I (fun KK => FA v213_1 0 fun v214 =>
  KK v214) fun v214_1 =>
  QE I (fun KK => Ld1 v214_1 fun v215 =>
  KK v215) fun v215_1 =>
  QE I (fun KK => LenS v215_1 fun v216 =>
  KK v216) fun v216_1 =>
  BinI .neq v211_1 v216_1 fun v217 =>
  Cnd v217 (KR (.bool false))
  (LenS v166 fun v220 =>
  LoopC [v4, (.int .i64 0)] fun vK_1 vs => AllE <|
  UN vs fun v4_1 vs =>
  UN vs fun v221 _ =>
  BinI .lss v221 v220 fun v222 =>
  Cnd v222 (Drw <| QtC fun I =>
  QE I (fun KK => IA 1 v166 v221 fun v226 =>
  KK v226) fun v226_1 =>
  QE I (fun KK => Ld1 v226_1 fun v227 =>
  KK v227) fun v227_1 =>
  QE I (fun KK => NilC v46 fun v229 =>
  KK v229) fun v229_1 =>
  QE I (fun KK => FA v229_1 0 fun v230 =>
  KK v230) fun v230_1 =>
  QE I (fun KK => Ld1 v230_1 fun v231 =>
  KK v231) fun v231_1 =>
  QE I (fun KK => IA 3 v231_1 v221 fun v233 =>
  KK v233) fun v233_1 =>
  QE I (fun KK => FA v233_1 0 fun v234 =>
  KK v234) fun v234_1 =>
  QE I (fun KK => Ld1 v234_1 fun v235 =>
  KK v235) fun v235_1 =>
  BinI .neq v227_1 v235_1 fun v236 =>
  Cnd v236 (KR (.bool false))
  (BinI .add v221 (.int .i64 1) fun v237 =>
  vK_1 [v4_1, v237]))
  (BinI .add v49 (.int .i64 1) fun v238 =>
  vK [v4_1, v238])))
  (KR (.bool false)))
  (QtC fun I =>
  QE I (fun KK => LenS v166 fun v211_2 =>
  KK v211_2) fun v211_3 =>
  QE I (fun KK => NilC v46 fun v213_2 =>
  KK v213_2) fun v213_3 =>
  QE I (fun KK => FA v213_3 0 fun v214_2 =>
  KK v214_2) fun v214_3 =>
  QE I (fun KK => Ld1 v214_3 fun v215_2 =>
  KK v215_2) fun v215_3 =>
  QE I (fun KK => LenS v215_3 fun v216_2 =>
  KK v216_2) fun v216_3 =>
  BinI .neq v211_3 v216_3 fun v217_1 =>
  Cnd v217_1 (KR (.bool false))
  (LenS v166 fun v220_1 =>
  LoopC [v4, (.int .i64 0)] fun vK_2 vs => AllE <|
  UN vs fun v4_2 vs =>
  UN vs fun v221_1 _ =>
  BinI .lss v221_1 v220_1 fun v222_1 =>
  Cnd v222_1 (Drw <| QtC fun I =>
  QE I (fun KK => IA 1 v166 v221_1 fun v226_2 =>
  KK v226_2) fun v226_3 =>
  QE I (fun KK => Ld1 v226_3 fun v227_2 =>
  KK v227_2) fun v227_3 =>
  QE I (fun KK => NilC v46 fun v229_2 =>
  KK v229_2) fun v229_3 =>
  QE I (fun KK => FA v229_3 0 fun v230_2 =>
  KK v230_2) fun v230_3 =>
  QE I (fun KK => Ld1 v230_3 fun v231_2 =>
  KK v231_2) fun v231_3 =>
  QE I (fun KK => IA 3 v231_3 v221_1 fun v233_2 =>
  KK v233_2) fun v233_3 =>
  QE I (fun KK => FA v233_3 0 fun v234_2 =>
  KK v234_2) fun v234_3 =>
  QE I (fun KK => Ld1 v234_3 fun v235_2 =>
  KK v235_2) fun v235_3 =>
  BinI .neq v227_3 v235_3 fun v236_1 =>
  Cnd v236_1 (KR (.bool false))
  (BinI .add v221_1 (.int .i64 1) fun v237_1 =>
  vK_2 [v4_2, v237_1]))
  (BinI .add v49 (.int .i64 1) fun v238_1 =>
  vK [v4_2, v238_1]))))
  (QtC fun I =>
  QtC fun I =>
  KR (.bool false)))
  (QtC fun I =>
  QtC fun I =>
  KR (.bool false)))
  (CH I <|
  QtC fun I =>
  QtC fun I =>
  QtC fun I =>
  KR (.bool false)))
  (CH I <|
  QtC fun I =>
  CH I <|
  QtC fun I =>
  QtC fun I =>
  QtC fun I =>
  KR (.bool false))))
  fun vK_3 =>
  FA v8 0 fun v58 =>
  Ld1 v58 fun v59 =>
  BinI .eql v59 (.int .i64 1) fun v61 =>
  Cnd v61 (FA v8 4 fun v62 =>
  Ld1 v62 fun v63 =>
  FnV pg (.func (.func 11) #[] #[]) #[v63] fun v64 =>
  Drw <| QtC fun I =>
  QE I (fun KK => FA v8 1 fun v66 =>
  KK v66) fun v66_1 =>
  QE I (fun KK => Ld1 v66_1 fun v67 =>
  KK v67) fun v67_1 =>
  QE I (fun KK => FA v8 3 fun v68 =>
  KK v68) fun v68_1 =>
  QE I (fun KK => Ld1 v68_1 fun v69 =>
  KK v69) fun v69_1 =>
  QE I (fun KK => FA v8 1 fun v73 =>
  KK v73) fun v73_1 =>
  QE I (fun KK => Ld1 v73_1 fun v74 =>
  KK v74) fun v74_1 =>
  QE I (fun KK => FA v8 3 fun v75 =>
  KK v75) fun v75_1 =>
  QE I (fun KK => Ld1 v75_1 fun v76 =>
  KK v76) fun v76_1 =>
  QE I (fun KK => FA v8 4 fun v77 =>
  KK v77) fun v77_1 =>
  QE I (fun KK => Ld1 v77_1 fun v78 =>
  KK v78) fun v78_1 =>
  FnV pg (.func (.func 10) #[] #[]) #[v20, v67_1, v69_1, v64] fun v71 =>
  CH I <|
  FnV pg (.func (.func 20) #[] #[]) #[v46, v74_1, v76_1, v78_1] fun v79 =>
  BinI .eql v71 v79 fun v80 =>
  LenS v64 fun v82 =>
  LoopC [(.int .i64 0)] fun vK_4 vs => AllE <|
  UN vs fun v83 _ =>
  BinI .lss v83 v82 fun v84 =>
  Cnd v84 (IA 2 v64 v83 fun v88 =>
  FA v88 0 fun v89 =>
  St 1 v89 (.int .i64 99) fun _ =>
  BinI .add v83 (.int .i64 1) fun v90 =>
  vK_4 [v90])
  (vK_3 [v80]))
  (BinI .eql v59 (.int .i64 2) fun v92 =>
  Cnd v92 (Drw <| QtC fun I =>
  QE I (fun KK => FA v8 2 fun v94 =>
  KK v94) fun v94_1 =>
  QE I (fun KK => Ld1 v94_1 fun v95 =>
  KK v95) fun v95_1 =>
  QE I (fun KK => FA v8 3 fun v96 =>
  KK v96) fun v96_1 =>
  QE I (fun KK => Ld1 v96_1 fun v97 =>
  KK v97) fun v97_1 =>
  QE I (fun KK => FA v8 2 fun v100 =>
  KK v100) fun v100_1 =>
  QE I (fun KK => Ld1 v100_1 fun v101 =>
  KK v101) fun v101_1 =>
  QE I (fun KK => FA v8 3 fun v102 =>
  KK v102) fun v102_1 =>
  QE I (fun KK => Ld1 v102_1 fun v103 =>
  KK v103) fun v103_1 =>
  FnV pg (.func (.func 13) #[] #[]) #[v20, v95_1, v97_1] fun v98 =>
  CH I <|
  FnV pg (.func (.func 22) #[] #[]) #[v46, v101_1, v103_1, (.bool false)] fun v104 =>
  FnV pg (.func (.func 21) #[] #[]) #[v98, v104] fun v105 =>
  vK_3 [v105])
  (BinI .eql v59 (.int .i64 3) fun v107 =>
  Cnd v107 (Drw <| QtC fun I =>
  QE I (fun KK => FA v8 3 fun v109 =>
  KK v109) fun v109_1 =>
  QE I (fun KK => Ld1 v109_1 fun v110 =>
  KK v110) fun v110_1 =>
  QE I (fun KK => FA v8 3 fun v113 =>
  KK v113) fun v113_1 =>
  QE I (fun KK => Ld1 v113_1 fun v114 =>
  KK v114) fun v114_1 =>
  FnV pg (.func (.func 18) #[] #[]) #[v20, v110_1] fun v111 =>
  CH I <|
  FnV pg (.func (.func 23) #[] #[]) #[v46, v114_1] fun v115 =>
  FnV pg (.func (.func 21) #[] #[]) #[v111, v115] fun v116 =>
  vK_3 [v116])
  (BinI .eql v59 (.int .i64 4) fun v118 =>
  Cnd v118 (Drw <| QtC fun I =>
  QE I (fun KK => FA v8 2 fun v120 =>
  KK v120) fun v120_1 =>
  QE I (fun KK => Ld1 v120_1 fun v121 =>
  KK v121) fun v121_1 =>
  QE I (fun KK => FA v8 2 fun v124 =>
  KK v124) fun v124_1 =>
  QE I (fun KK => Ld1 v124_1 fun v125 =>
  KK v125) fun v125_1 =>
  FnV pg (.func (.func 16) #[] #[]) #[v20, v121_1] fun v122 =>
  CH I <|
  FnV pg (.func (.func 22) #[] #[]) #[v46, v125_1, (.int .i64 0), (.bool true)] fun v126 =>
  FnV pg (.func (.func 21) #[] #[]) #[v122, v126] fun v127 =>
  vK_3 [v127])
  (BinI .eql v59 (.int .i64 5) fun v129 =>
  Cnd v129 (FA v8 1 fun v131 =>
  Ld1 v131 fun v132 =>
  FnV pg (.func (.func 15) #[] #[]) #[v20, v132] fun v133 =>
  FA v8 1 fun v135 =>
  Ld1 v135 fun v136 =>
  FnV pg (.func (.func 24) #[] #[]) #[v46, v136] fun v137 =>
  BinI .geq v137 (.int .i64 0) fun v138 =>
  BinI .eql v133 (.int .i64 0) fun v140 =>
  EqB false v140 v138 fun v142 =>
  Grd v142 true (Grd v138 false (BinI .eql v133 (.int .i64 (-25)) fun v147 =>
  FA v8 1 fun v151 =>
  Ld1 v151 fun v152 =>
  FnV pg (.func (.func 25) #[] #[]) #[v46, v152] fun _ =>
  vK_3 [v147])
  (FA v8 1 fun v151_1 =>
  Ld1 v151_1 fun v152_1 =>
  FnV pg (.func (.func 25) #[] #[]) #[v46, v152_1] fun _ =>
  vK_3 [(.bool true)]))
  (FA v8 1 fun v151_2 =>
  Ld1 v151_2 fun v152_2 =>
  FnV pg (.func (.func 25) #[] #[]) #[v46, v152_2] fun _ =>
  vK_3 [(.bool false)]))
  (vK_3 [(.bool true)])))))))
  (FnV pg (.func (.func 9) #[] #[]) #[] fun v239 =>
  KR v239)))
  (EqP true v20 (.pointer none) fun v40_1 =>
  Grd v40_1 true (FnV pg (.func (.func 9) #[] #[]) #[] fun v42_1 =>
  KR v42_1)
  (KR (.bool false)))))
  (EqP false v20 (.pointer none) fun v28_1 =>
  Grd v28_1 true (FnV pg (.func (.func 9) #[] #[]) #[] fun v30_1 =>
  KR v30_1)
  (KR (.bool false)))
theorem V.jacinthlaw16_WaitsPlays_ok {a0 a1 : Value} {K : Value → WP} {w : World} (h : V.jacinthlaw16_WaitsPlays a0 a1 K w) : Cl pg 7 #[a0, a1] K w :=
  cl_of pg_mixed Try.func7 (args := [a0, a1]) (by kernel_rfl) (by rw [show WF pg Try.f7 [a0, a1] K = V.jacinthlaw16_WaitsPlays a0 a1 K from by kernel_rfl]; exact h)

def V.waits_New (a0 : Value) (KR : Value → WP) : WP :=
  BinI .lss a0 (.int .i64 0) fun v4 =>
  Grd v4 false (BinI .gtr a0 (.int .i64 65536) fun v7 =>
  Cnd v7 (KR (.pointer none))
  (Ex pg (bldS #[(.slice none 0 0), (.int .i64 0)] [(0, 1), (1, 1)] #[(1, a0)]) fun v10 =>
  New 75 (Value.cells v10) fun v11 =>
  KR v11))
  (KR (.pointer none))
theorem V.waits_New_ok {a0 : Value} {K : Value → WP} {w : World} (h : V.waits_New a0 K w) : Cl pg 8 #[a0] K w :=
  cl_of pg_mixed Try.func8 (args := [a0]) (by kernel_rfl) (by rw [show WF pg Try.f8 [a0] K = V.waits_New a0 K from by kernel_rfl]; exact h)

def V.jacinthlaw16_awake (KR : Value → WP) : WP :=
  FnV pg (.func (.func 8) #[] #[]) #[(.int .i64 4)] fun v3 =>
  EqP false v3 (.pointer none) fun v5 =>
  Grd v5 false (Ex pg (bldS #[(.int .i64 0), (.int .i64 0)] [(0, 1), (1, 1)] #[(0, (.int .i64 5)), (1, (.int .i64 1))]) fun v8 =>
  Ex pg (bldS #[(.int .i64 0), (.int .i64 0)] [(0, 1), (1, 1)] #[(0, (.int .i64 6)), (1, (.int .i64 2))]) fun v9 =>
  BSlC 42 2 #[(.int .i64 0), (.int .i64 0)] 2 #[(0, v8), (1, v9)] fun v10 =>
  FnV pg (.func (.func 10) #[] #[]) #[v3, (.int .i64 3), (.int .i64 10), v10] fun v11 =>
  BinI .neq v11 (.int .i64 0) fun v12 =>
  Cnd v12 (KR (.bool false))
  (FnV pg (.func (.func 13) #[] #[]) #[v3, (.int .i64 6), (.int .i64 2)] fun v15 =>
  LenS v15 fun v17 =>
  BinI .eql v17 (.int .i64 1) fun v18 =>
  Grd v18 true (IA 4 v15 (.int .i64 0) fun v21 =>
  LdN 4 v21 fun v22 =>
  Ex pg (bldS #[(.int .i64 0), (.int .i64 0), (.int .i64 0), (.int .i64 0)] [(0, 1), (1, 1), (2, 1), (3, 1)] #[(0, (.int .i64 3)), (1, (.int .i64 1)), (3, (.int .i64 2))]) fun v23 =>
  EqS 4 false v22 v23 fun v24 =>
  Grd v24 true (FnV pg (.func (.func 12) #[] #[]) #[v3] fun v28 =>
  BinI .eql v28 (.int .i64 0) fun v29 =>
  KR v29)
  (KR (.bool false)))
  (KR (.bool false))))
  (KR (.bool false))
theorem V.jacinthlaw16_awake_ok {K : Value → WP} {w : World} (h : V.jacinthlaw16_awake  K w) : Cl pg 9 #[] K w :=
  cl_of pg_mixed Try.func9 (args := []) (by kernel_rfl) (by rw [show WF pg Try.f9 [] K = V.jacinthlaw16_awake  K from by kernel_rfl]; exact h)

def V.waits_Waits_Block (a0 a1 a2 a3 : Value) (KR : Value → WP) : WP :=
  BinI .lss a1 (.int .i64 0) fun v11 =>
  Grd v11 false (LenS a3 fun v14 =>
  BinI .lss v14 (.int .i64 1) fun v15 =>
  Grd v15 false (LenS a3 fun v19 =>
  BinI .gtr v19 (.int .i64 8) fun v20 =>
  Grd v20 false (FnV pg (.func (.func 26) #[] #[]) #[a3, (.func (.func 27) #[] #[])] fun v24 =>
  Cnd v24 (KR (.int .i64 (-10)))
  (FnV pg (.func (.func 28) #[] #[]) #[a0, a1] fun v29 =>
  BinI .geq v29 (.int .i64 0) fun v30 =>
  Cnd v30 (KR (.int .i64 (-26)))
  (Drw <| QtC fun I =>
  QE I (fun KK => NilC a0 fun v33 =>
  KK v33) fun v33_1 =>
  QE I (fun KK => FA v33_1 0 fun v34 =>
  KK v34) fun v34_1 =>
  QE I (fun KK => Ld1 v34_1 fun v35 =>
  KK v35) fun v35_1 =>
  QE I (fun KK => LenS v35_1 fun v36 =>
  KK v36) fun v36_1 =>
  QE I (fun KK => NilC a0 fun v38 =>
  KK v38) fun v38_1 =>
  QE I (fun KK => FA v38_1 1 fun v39 =>
  KK v39) fun v39_1 =>
  QE I (fun KK => Ld1 v39_1 fun v40 =>
  KK v40) fun v40_1 =>
  BinI .geq v36_1 v40_1 fun v41 =>
  Cnd v41 (KR (.int .i64 (-4)))
  (Drw <| QtC fun I =>
  QE I (fun KK => NilC a0 fun v44 =>
  KK v44) fun v44_1 =>
  QE I (fun KK => FA v44_1 0 fun v45 =>
  KK v45) fun v45_1 =>
  QE I (fun KK => Ld1 v45_1 fun v46 =>
  KK v46) fun v46_1 =>
  FnV pg (.func (.func 29) #[] #[]) #[a3] fun v50 =>
  CH I <|
  Ex pg (bldS #[(.int .i64 0), (.int .i64 0), (.slice none 0 0)] [(0, 1), (1, 1), (2, 1)] #[(0, a1), (1, a2), (2, v50)]) fun v51 =>
  CH I <|
  BSlC 80 3 #[(.int .i64 0), (.int .i64 0), (.slice none 0 0)] 1 #[(0, v51)] fun v52 =>
  CH I <|
  AppC 80 3 40 #[(.int .i64 0), (.int .i64 0), (.slice none 0 0)] v46_1 v52 fun v53 =>
  NilC a0 fun v54 =>
  FA v54 0 fun v55 =>
  St 1 v55 v53 fun _ =>
  KR (.int .i64 0)))))
  (KR (.int .i64 (-10))))
  (KR (.int .i64 (-10))))
  (KR (.int .i64 (-10)))
theorem V.waits_Waits_Block_ok {a0 a1 a2 a3 : Value} {K : Value → WP} {w : World} (h : V.waits_Waits_Block a0 a1 a2 a3 K w) : Cl pg 10 #[a0, a1, a2, a3] K w :=
  cl_of pg_mixed Try.func10 (args := [a0, a1, a2, a3]) (by kernel_rfl) (by rw [show WF pg Try.f10 [a0, a1, a2, a3] K = V.waits_Waits_Block a0 a1 a2 a3 K from by kernel_rfl]; exact h)

def V.jacinthlaw16_itemsOf (a0 : Value) (KR : Value → WP) : WP :=
  LenS a0 fun v7 =>
  LoopC [(.slice none 0 0), (.int .i64 0)] fun vK vs => AllE <|
  UN vs fun v3 vs =>
  UN vs fun v8 _ =>
  BinI .lss v8 v7 fun v9 =>
  Cnd v9 (IA 2 a0 v8 fun v10 =>
  LdN 2 v10 fun v11 =>
  New 32 #[(.int .i64 0), (.int .i64 0)] fun v5 =>
  St 2 v5 v11 fun _ =>
  FA v5 0 fun v13 =>
  Ld1 v13 fun v14 =>
  FA v5 1 fun v15 =>
  Ld1 v15 fun v16 =>
  Ex pg (bldS #[(.int .i64 0), (.int .i64 0)] [(0, 1), (1, 1)] #[(0, v14), (1, v16)]) fun v17 =>
  BSlC 42 2 #[(.int .i64 0), (.int .i64 0)] 1 #[(0, v17)] fun v18 =>
  AppC 42 2 16 #[(.int .i64 0), (.int .i64 0)] v3 v18 fun v19 =>
  BinI .add v8 (.int .i64 1) fun v20 =>
  vK [v19, v20])
  (KR v3)
theorem V.jacinthlaw16_itemsOf_ok {a0 : Value} {K : Value → WP} {w : World} (h : V.jacinthlaw16_itemsOf a0 K w) : Cl pg 11 #[a0] K w :=
  cl_of pg_mixed Try.func11 (args := [a0]) (by kernel_rfl) (by rw [show WF pg Try.f11 [a0] K = V.jacinthlaw16_itemsOf a0 K from by kernel_rfl]; exact h)

def V.waits_Waits_Count (a0 : Value) (KR : Value → WP) : WP :=
  NilC a0 fun v4 =>
  FA v4 0 fun v5 =>
  Ld1 v5 fun v6 =>
  LenS v6 fun v7 =>
  KR v7
theorem V.waits_Waits_Count_ok {a0 : Value} {K : Value → WP} {w : World} (h : V.waits_Waits_Count a0 K w) : Cl pg 12 #[a0] K w :=
  cl_of pg_mixed Try.func12 (args := [a0]) (by kernel_rfl) (by rw [show WF pg Try.f12 [a0] K = V.waits_Waits_Count a0 K from by kernel_rfl]; exact h)

def V.waits_Waits_Tell (a0 a1 a2 : Value) (KR : Value → WP) : WP :=
  New 35 (Value.cells a2) fun v5 =>
  New 33 #[(.slice none 0 0)] fun v7 =>
  FnV pg (.func (.func 30) #[] #[]) #[a0, a1, (.func (.func 31) #[] #[v5])] fun v13 =>
  RF0 pg v13 (fun vl vs vK =>
  UN vs fun v14 vs =>
  UN vs fun v15 vs =>
  UNe vs <|
  New 80 #[(.int .i64 0), (.int .i64 0), (.slice none 0 0)] fun v8 =>
  St 3 v8 v14 fun _ =>
  RBeg vl <|
  Ld1 v7 fun v16 =>
  FA v8 0 fun v17 =>
  Ld1 v17 fun v18 =>
  Ld1 v5 fun v20 =>
  Ex pg (bldS #[(.int .i64 0), (.int .i64 0), (.int .i64 0), (.int .i64 0)] [(0, 1), (1, 1), (2, 1), (3, 1)] #[(0, v18), (1, v15), (2, (.int .i64 0)), (3, v20)]) fun v21 =>
  BSlC 38 4 #[(.int .i64 0), (.int .i64 0), (.int .i64 0), (.int .i64 0)] 1 #[(0, v21)] fun v22 =>
  AppC 38 4 32 #[(.int .i64 0), (.int .i64 0), (.int .i64 0), (.int .i64 0)] v16 v22 fun v23 =>
  St 1 v7 v23 fun _ =>
  REnd vl none vK)
  fun vm vj =>
  JumpC vj (Ld1 v7 fun v25 =>
  FnV pg (.func (.func 33) #[] #[]) #[a0, v25] fun v26 =>
  LvC (.tuple #[vm]) <| KR v26)
  (LvC (.tuple #[vm]) <| KR (.slice none 0 0))
  (fun _ => fun _ => False)
theorem V.waits_Waits_Tell_ok {a0 a1 a2 : Value} {K : Value → WP} {w : World} (h : V.waits_Waits_Tell a0 a1 a2 K w) : Cl pg 13 #[a0, a1, a2] K w :=
  cl_of pg_mixed Try.func13 (args := [a0, a1, a2]) (by kernel_rfl) (by rw [show WF pg Try.f13 [a0, a1, a2] K = V.waits_Waits_Tell a0 a1 a2 K from by kernel_rfl]; exact h)

def V.waits_Waits_Blocked (a0 a1 : Value) (KR : Value → WP) : WP :=
  FnV pg (.func (.func 28) #[] #[]) #[a0, a1] fun v7 =>
  BinI .geq v7 (.int .i64 0) fun v8 =>
  KR v8
theorem V.waits_Waits_Blocked_ok {a0 a1 : Value} {K : Value → WP} {w : World} (h : V.waits_Waits_Blocked a0 a1 K w) : Cl pg 14 #[a0, a1] K w :=
  cl_of pg_mixed Try.func14 (args := [a0, a1]) (by kernel_rfl) (by rw [show WF pg Try.f14 [a0, a1] K = V.waits_Waits_Blocked a0 a1 K from by kernel_rfl]; exact h)

def V.waits_Waits_Forget (a0 a1 : Value) (KR : Value → WP) : WP :=
  FnV pg (.func (.func 28) #[] #[]) #[a0, a1] fun v8 =>
  BinI .lss v8 (.int .i64 0) fun v10 =>
  Cnd v10 (KR (.int .i64 (-25)))
  (NilC a0 fun v13 =>
  FA v13 0 fun v14 =>
  Ld1 v14 fun v15 =>
  BinI .add v8 (.int .i64 1) fun v18 =>
  FnV pg (.func (.func 34) #[] #[]) #[v15, v8, v18] fun v19 =>
  NilC a0 fun v20 =>
  FA v20 0 fun v21 =>
  St 1 v21 v19 fun _ =>
  KR (.int .i64 0))
theorem V.waits_Waits_Forget_ok {a0 a1 : Value} {K : Value → WP} {w : World} (h : V.waits_Waits_Forget a0 a1 K w) : Cl pg 15 #[a0, a1] K w :=
  cl_of pg_mixed Try.func15 (args := [a0, a1]) (by kernel_rfl) (by rw [show WF pg Try.f15 [a0, a1] K = V.waits_Waits_Forget a0 a1 K from by kernel_rfl]; exact h)

def V.waits_Waits_Cancel (a0 a1 : Value) (KR : Value → WP) : WP :=
  New 33 #[(.slice none 0 0)] fun v5 =>
  FnV pg (.func (.func 30) #[] #[]) #[a0, a1, (.func (.func 35) #[] #[])] fun v10 =>
  RF0 pg v10 (fun vl vs vK =>
  UN vs fun v11 vs =>
  UN vs fun v12 vs =>
  UNe vs <|
  New 80 #[(.int .i64 0), (.int .i64 0), (.slice none 0 0)] fun v6 =>
  St 3 v6 v11 fun _ =>
  RBeg vl <|
  Ld1 v5 fun v13 =>
  FA v6 0 fun v14 =>
  Ld1 v14 fun v15 =>
  Ex pg (bldS #[(.int .i64 0), (.int .i64 0), (.int .i64 0), (.int .i64 0)] [(0, 1), (1, 1), (2, 1), (3, 1)] #[(0, v15), (1, v12), (2, (.int .i64 (-23))), (3, (.int .i64 0))]) fun v17 =>
  BSlC 38 4 #[(.int .i64 0), (.int .i64 0), (.int .i64 0), (.int .i64 0)] 1 #[(0, v17)] fun v18 =>
  AppC 38 4 32 #[(.int .i64 0), (.int .i64 0), (.int .i64 0), (.int .i64 0)] v13 v18 fun v19 =>
  St 1 v5 v19 fun _ =>
  REnd vl none vK)
  fun vm vj =>
  JumpC vj (Ld1 v5 fun v21 =>
  FnV pg (.func (.func 33) #[] #[]) #[a0, v21] fun v22 =>
  LvC (.tuple #[vm]) <| KR v22)
  (LvC (.tuple #[vm]) <| KR (.slice none 0 0))
  (fun _ => fun _ => False)
theorem V.waits_Waits_Cancel_ok {a0 a1 : Value} {K : Value → WP} {w : World} (h : V.waits_Waits_Cancel a0 a1 K w) : Cl pg 16 #[a0, a1] K w :=
  cl_of pg_mixed Try.func16 (args := [a0, a1]) (by kernel_rfl) (by rw [show WF pg Try.f16 [a0, a1] K = V.waits_Waits_Cancel a0 a1 K from by kernel_rfl]; exact h)

def V.waits_Waits_Deadline (a0 a1 : Value) (KR : Value → WP) : WP :=
  FnV pg (.func (.func 28) #[] #[]) #[a0, a1] fun v9 =>
  BinI .lss v9 (.int .i64 0) fun v11 =>
  Cnd v11 (KR (.tuple #[(.int .i64 0), (.bool false)]))
  (NilC a0 fun v13 =>
  FA v13 0 fun v14 =>
  Ld1 v14 fun v15 =>
  IA 3 v15 v9 fun v17 =>
  FA v17 1 fun v18 =>
  Ld1 v18 fun v19 =>
  KR (.tuple #[v19, (.bool true)]))
theorem V.waits_Waits_Deadline_ok {a0 a1 : Value} {K : Value → WP} {w : World} (h : V.waits_Waits_Deadline a0 a1 K w) : Cl pg 17 #[a0, a1] K w :=
  cl_of pg_mixed Try.func17 (args := [a0, a1]) (by kernel_rfl) (by rw [show WF pg Try.f17 [a0, a1] K = V.waits_Waits_Deadline a0 a1 K from by kernel_rfl]; exact h)

def V.waits_Waits_Expire (a0 a1 : Value) (KR : Value → WP) : WP :=
  New 3 (Value.cells a1) fun v3 =>
  NilC a0 fun v10 =>
  FA v10 0 fun v11 =>
  Ld1 v11 fun v12 =>
  FnV pg (.func (.func 37) #[] #[]) #[v12] fun v13 =>
  FnV pg (.func (.func 36) #[] #[]) #[v13, (.func (.func 38) #[] #[v3])] fun v15 =>
  FnV pg (.func (.func 39) #[] #[]) #[v15, (.func (.func 40) #[] #[])] fun _ =>
  LenS v15 fun v19 =>
  LoopC [(.slice none 0 0), (.int .i64 0)] fun vK vs => AllE <|
  UN vs fun v6 vs =>
  UN vs fun v20 _ =>
  BinI .lss v20 v19 fun v21 =>
  Cnd v21 (IA 3 v15 v20 fun v22 =>
  LdN 3 v22 fun v23 =>
  New 80 #[(.int .i64 0), (.int .i64 0), (.slice none 0 0)] fun v8 =>
  St 3 v8 v23 fun _ =>
  FA v8 0 fun v25 =>
  Ld1 v25 fun v26 =>
  Ex pg (bldS #[(.int .i64 0), (.int .i64 0), (.int .i64 0), (.int .i64 0)] [(0, 1), (1, 1), (2, 1), (3, 1)] #[(0, v26), (1, (.int .i64 (-1))), (2, (.int .i64 (-21))), (3, (.int .i64 0))]) fun v27 =>
  BSlC 38 4 #[(.int .i64 0), (.int .i64 0), (.int .i64 0), (.int .i64 0)] 1 #[(0, v27)] fun v28 =>
  AppC 38 4 32 #[(.int .i64 0), (.int .i64 0), (.int .i64 0), (.int .i64 0)] v6 v28 fun v29 =>
  BinI .add v20 (.int .i64 1) fun v30 =>
  vK [v29, v30])
  (FnV pg (.func (.func 33) #[] #[]) #[a0, v6] fun v33 =>
  KR v33)
theorem V.waits_Waits_Expire_ok {a0 a1 : Value} {K : Value → WP} {w : World} (h : V.waits_Waits_Expire a0 a1 K w) : Cl pg 18 #[a0, a1] K w :=
  cl_of pg_mixed Try.func18 (args := [a0, a1]) (by kernel_rfl) (by rw [show WF pg Try.f18 [a0, a1] K = V.waits_Waits_Expire a0 a1 K from by kernel_rfl]; exact h)

def V.waits_Waits_Threads (a0 : Value) (KR : Value → WP) : WP :=
  NilC a0 fun v7 =>
  FA v7 0 fun v8 =>
  Ld1 v8 fun v9 =>
  LenS v9 fun v10 =>
  LoopC [(.slice none 0 0), (.int .i64 0)] fun vK vs => AllE <|
  UN vs fun v3 vs =>
  UN vs fun v11 _ =>
  BinI .lss v11 v10 fun v12 =>
  Cnd v12 (IA 3 v9 v11 fun v13 =>
  LdN 3 v13 fun v14 =>
  New 80 #[(.int .i64 0), (.int .i64 0), (.slice none 0 0)] fun v5 =>
  St 3 v5 v14 fun _ =>
  FA v5 0 fun v16 =>
  Ld1 v16 fun v17 =>
  BSlC 3 1 #[(.int .i64 0)] 1 #[(0, v17)] fun v18 =>
  AppC 3 1 8 #[(.int .i64 0)] v3 v18 fun v19 =>
  BinI .add v11 (.int .i64 1) fun v20 =>
  vK [v19, v20])
  (KR v3)
theorem V.waits_Waits_Threads_ok {a0 : Value} {K : Value → WP} {w : World} (h : V.waits_Waits_Threads a0 K w) : Cl pg 19 #[a0] K w :=
  cl_of pg_mixed Try.func19 (args := [a0]) (by kernel_rfl) (by rw [show WF pg Try.f19 [a0] K = V.waits_Waits_Threads a0 K from by kernel_rfl]; exact h)

def V.jacinthref16_Waits_Block (a0 a1 a2 a3 : Value) (KR : Value → WP) : WP :=
  BinI .lss a1 (.int .i64 0) fun v11 =>
  Grd v11 false (LenS a3 fun v14 =>
  BinI .lss v14 (.int .i64 1) fun v15 =>
  Grd v15 false (LenS a3 fun v19 =>
  BinI .gtr v19 (.int .i64 8) fun v20 =>
  Cnd v20 (KR (.int .i64 (-10)))
  (LoopC [(.int .i64 0), (.int .i64 0)] fun vK vs => AllE <|
  UN vs fun v8 vs =>
  UN vs fun v9 _ =>
  LenS a3 fun v24 =>
  BinI .lss v9 v24 fun v25 =>
  Cnd v25 (IA 2 a3 v9 fun v30 =>
  FA v30 0 fun v31 =>
  Ld1 v31 fun v32 =>
  BinI .lss v32 (.int .i64 1) fun v33 =>
  Cnd v33 (KR (.int .i64 (-10)))
  (BinI .add v9 (.int .i64 1) fun v27 =>
  vK [v8, v27]))
  (FnV pg (.func (.func 24) #[] #[]) #[a0, a1] fun v36 =>
  BinI .geq v36 (.int .i64 0) fun v37 =>
  Cnd v37 (KR (.int .i64 (-26)))
  (Drw <| QtC fun I =>
  QE I (fun KK => NilC a0 fun v39 =>
  KK v39) fun v39_1 =>
  QE I (fun KK => FA v39_1 0 fun v40 =>
  KK v40) fun v40_1 =>
  QE I (fun KK => Ld1 v40_1 fun v41 =>
  KK v41) fun v41_1 =>
  QE I (fun KK => LenS v41_1 fun v42 =>
  KK v42) fun v42_1 =>
  QE I (fun KK => NilC a0 fun v44 =>
  KK v44) fun v44_1 =>
  QE I (fun KK => FA v44_1 1 fun v45 =>
  KK v45) fun v45_1 =>
  QE I (fun KK => Ld1 v45_1 fun v46 =>
  KK v46) fun v46_1 =>
  BinI .geq v42_1 v46_1 fun v47 =>
  Cnd v47 (KR (.int .i64 (-4)))
  (NilC a0 fun v50 =>
  FA v50 0 fun v51 =>
  Ld1 v51 fun v52 =>
  Ex pg (bldS #[(.int .i64 0), (.int .i64 0), (.slice none 0 0)] [(0, 1), (1, 1), (2, 1)] #[(0, a1), (1, a2), (2, a3)]) fun v56 =>
  BSlC 71 3 #[(.int .i64 0), (.int .i64 0), (.slice none 0 0)] 1 #[(0, v56)] fun v57 =>
  AppC 71 3 40 #[(.int .i64 0), (.int .i64 0), (.slice none 0 0)] v52 v57 fun v58 =>
  NilC a0 fun v59 =>
  FA v59 0 fun v60 =>
  St 1 v60 v58 fun _ =>
  KR (.int .i64 0))))))
  (KR (.int .i64 (-10))))
  (KR (.int .i64 (-10)))
theorem V.jacinthref16_Waits_Block_ok {a0 a1 a2 a3 : Value} {K : Value → WP} {w : World} (h : V.jacinthref16_Waits_Block a0 a1 a2 a3 K w) : Cl pg 20 #[a0, a1, a2, a3] K w :=
  cl_of pg_mixed Try.func20 (args := [a0, a1, a2, a3]) (by kernel_rfl) (by rw [show WF pg Try.f20 [a0, a1, a2, a3] K = V.jacinthref16_Waits_Block a0 a1 a2 a3 K from by kernel_rfl]; exact h)

def V.jacinthlaw16_same (a0 a1 : Value) (KR : Value → WP) : WP :=
  LenS a0 fun v7 =>
  LenS a1 fun v9 =>
  BinI .neq v7 v9 fun v10 =>
  Cnd v10 (KR (.bool false))
  (LenS a0 fun v12 =>
  LoopC [(.bool false), (.int .i64 0)] fun vK vs => AllE <|
  UN vs fun v4 vs =>
  UN vs fun v13 _ =>
  BinI .lss v13 v12 fun v14 =>
  Cnd v14 (Drw <| QtC fun I =>
  QE I (fun KK => IA 4 a0 v13 fun v18 =>
  KK v18) fun v18_1 =>
  QE I (fun KK => FA v18_1 0 fun v19 =>
  KK v19) fun v19_1 =>
  QE I (fun KK => Ld1 v19_1 fun v20 =>
  KK v20) fun v20_1 =>
  QE I (fun KK => IA 4 a1 v13 fun v23 =>
  KK v23) fun v23_1 =>
  QE I (fun KK => FA v23_1 0 fun v24 =>
  KK v24) fun v24_1 =>
  QE I (fun KK => Ld1 v24_1 fun v25 =>
  KK v25) fun v25_1 =>
  BinI .neq v20_1 v25_1 fun v26 =>
  QtC fun I =>
  Grd v26 false (QE I (fun KK => IA 4 a0 v13 fun v30 =>
  KK v30) fun v30_1 =>
  QE I (fun KK => FA v30_1 1 fun v31 =>
  KK v31) fun v31_1 =>
  QE I (fun KK => Ld1 v31_1 fun v32 =>
  KK v32) fun v32_1 =>
  QE I (fun KK => IA 4 a1 v13 fun v35 =>
  KK v35) fun v35_1 =>
  QE I (fun KK => FA v35_1 1 fun v36 =>
  KK v36) fun v36_1 =>
  QE I (fun KK => Ld1 v36_1 fun v37 =>
  KK v37) fun v37_1 =>
  BinI .neq v32_1 v37_1 fun v38 =>
  QtC fun I =>
  Grd v38 false (QE I (fun KK => IA 4 a0 v13 fun v43 =>
  KK v43) fun v43_1 =>
  QE I (fun KK => FA v43_1 2 fun v44 =>
  KK v44) fun v44_1 =>
  QE I (fun KK => Ld1 v44_1 fun v45 =>
  KK v45) fun v45_1 =>
  QE I (fun KK => IA 4 a1 v13 fun v48 =>
  KK v48) fun v48_1 =>
  QE I (fun KK => FA v48_1 2 fun v49 =>
  KK v49) fun v49_1 =>
  QE I (fun KK => Ld1 v49_1 fun v50 =>
  KK v50) fun v50_1 =>
  BinI .neq v45_1 v50_1 fun v51 =>
  QtC fun I =>
  Grd v51 false (QE I (fun KK => IA 4 a0 v13 fun v56 =>
  KK v56) fun v56_1 =>
  QE I (fun KK => FA v56_1 3 fun v57 =>
  KK v57) fun v57_1 =>
  QE I (fun KK => Ld1 v57_1 fun v58 =>
  KK v58) fun v58_1 =>
  QE I (fun KK => IA 4 a1 v13 fun v61 =>
  KK v61) fun v61_1 =>
  QE I (fun KK => FA v61_1 3 fun v62 =>
  KK v62) fun v62_1 =>
  QE I (fun KK => Ld1 v62_1 fun v63 =>
  KK v63) fun v63_1 =>
  BinI .neq v58_1 v63_1 fun v64 =>
  Cnd v64 (KR (.bool false))
  (BinI .add v13 (.int .i64 1) fun v66 =>
  vK [v4, v66]))
  (KR (.bool false)))
  (QtC fun I =>
  KR (.bool false)))
  (QtC fun I =>
  QtC fun I =>
  KR (.bool false)))
  (KR (.bool true)))
theorem V.jacinthlaw16_same_ok {a0 a1 : Value} {K : Value → WP} {w : World} (h : V.jacinthlaw16_same a0 a1 K w) : Cl pg 21 #[a0, a1] K w :=
  cl_of pg_mixed Try.func21 (args := [a0, a1]) (by kernel_rfl) (by rw [show WF pg Try.f21 [a0, a1] K = V.jacinthlaw16_same a0 a1 K from by kernel_rfl]; exact h)

def V.jacinthref16_Waits_On (a0 a1 a2 a3 : Value) (KR : Value → WP) : WP :=
  LoopC [(.slice none 0 0), (.int .i64 0)] fun vK vs => AllE <|
  UN vs fun v9 vs =>
  UN vs fun v10 _ =>
  NilC a0 fun v16 =>
  FA v16 0 fun v17 =>
  Ld1 v17 fun v18 =>
  LenS v18 fun v19 =>
  BinI .lss v10 v19 fun v20 =>
  Cnd v20 (JoinC (fun vs => AllE (UN vs fun v11 _ =>
  BinI .geq v11 (.int .i64 0) fun v93 =>
  Grd v93 true (Cnd a3 (NilC a0 fun v99 =>
  FA v99 0 fun v100 =>
  Ld1 v100 fun v101 =>
  IA 3 v101 v10 fun v103 =>
  FA v103 0 fun v104 =>
  Ld1 v104 fun v105 =>
  Ex pg (bldS #[(.int .i64 0), (.int .i64 0), (.int .i64 0), (.int .i64 0)] [(0, 1), (1, 1), (2, 1), (3, 1)] #[(0, v105), (1, v11), (2, (.int .i64 (-23))), (3, (.int .i64 0))]) fun v107 =>
  BSlC 95 4 #[(.int .i64 0), (.int .i64 0), (.int .i64 0), (.int .i64 0)] 1 #[(0, v107)] fun v108 =>
  AppC 95 4 32 #[(.int .i64 0), (.int .i64 0), (.int .i64 0), (.int .i64 0)] v9 v108 fun v109 =>
  BinI .add v10 (.int .i64 1) fun v22 =>
  vK [v109, v22])
  (BinI .geq v11 (.int .i64 0) fun v111 =>
  Cnd v111 (NilC a0 fun v114 =>
  FA v114 0 fun v115 =>
  Ld1 v115 fun v116 =>
  IA 3 v116 v10 fun v118 =>
  FA v118 0 fun v119 =>
  Ld1 v119 fun v120 =>
  Ex pg (bldS #[(.int .i64 0), (.int .i64 0), (.int .i64 0), (.int .i64 0)] [(0, 1), (1, 1), (2, 1), (3, 1)] #[(0, v120), (1, v11), (2, (.int .i64 0)), (3, a2)]) fun v123 =>
  BSlC 95 4 #[(.int .i64 0), (.int .i64 0), (.int .i64 0), (.int .i64 0)] 1 #[(0, v123)] fun v124 =>
  AppC 95 4 32 #[(.int .i64 0), (.int .i64 0), (.int .i64 0), (.int .i64 0)] v9 v124 fun v125 =>
  BinI .add v10 (.int .i64 1) fun v22_1 =>
  vK [v125, v22_1])
  (BinI .add v10 (.int .i64 1) fun v22_2 =>
  vK [v9, v22_2])))
  (BinI .geq v11 (.int .i64 0) fun v111_1 =>
  Cnd v111_1 (NilC a0 fun v114_1 =>
  FA v114_1 0 fun v115_1 =>
  Ld1 v115_1 fun v116_1 =>
  IA 3 v116_1 v10 fun v118_1 =>
  FA v118_1 0 fun v119_1 =>
  Ld1 v119_1 fun v120_1 =>
  Ex pg (bldS #[(.int .i64 0), (.int .i64 0), (.int .i64 0), (.int .i64 0)] [(0, 1), (1, 1), (2, 1), (3, 1)] #[(0, v120_1), (1, v11), (2, (.int .i64 0)), (3, a2)]) fun v123_1 =>
  BSlC 95 4 #[(.int .i64 0), (.int .i64 0), (.int .i64 0), (.int .i64 0)] 1 #[(0, v123_1)] fun v124_1 =>
  AppC 95 4 32 #[(.int .i64 0), (.int .i64 0), (.int .i64 0), (.int .i64 0)] v9 v124_1 fun v125_1 =>
  BinI .add v10 (.int .i64 1) fun v22_3 =>
  vK [v125_1, v22_3])
  (BinI .add v10 (.int .i64 1) fun v22_4 =>
  vK [v9, v22_4]))))
  fun vK_1 =>
  Cnd a3 (NilC a0 fun v25 =>
  FA v25 0 fun v26 =>
  Ld1 v26 fun v27 =>
  IA 3 v27 v10 fun v29 =>
  LdN 3 v29 fun v30 =>
  FnV pg (.func (.func 43) #[] #[]) #[v30, a1, (.int .i64 (-1))] fun v32 =>
  vK_1 [v32])
  (BinI .neq a2 (.int .i64 (-1)) fun v34 =>
  Cnd v34 (NilC a0 fun v36 =>
  FA v36 0 fun v37 =>
  Ld1 v37 fun v38 =>
  IA 3 v38 v10 fun v40 =>
  LdN 3 v40 fun v41 =>
  FnV pg (.func (.func 43) #[] #[]) #[v41, a1, a2] fun v44 =>
  vK_1 [v44])
  (LoopC [(.int .i64 (-1)), (.int .i64 0)] fun vK_2 vs => AllE <|
  UN vs fun v11_1 vs =>
  UN vs fun v12 _ =>
  NilC a0 fun v47 =>
  FA v47 0 fun v48 =>
  Ld1 v48 fun v49 =>
  IA 3 v49 v10 fun v51 =>
  FA v51 2 fun v52 =>
  Ld1 v52 fun v53 =>
  LenS v53 fun v54 =>
  BinI .lss v12 v54 fun v55 =>
  Cnd v55 (BinI .lss v11_1 (.int .i64 0) fun v59 =>
  Grd v59 true (NilC a0 fun v62 =>
  FA v62 0 fun v63 =>
  Ld1 v63 fun v64 =>
  IA 3 v64 v10 fun v66 =>
  FA v66 2 fun v67 =>
  Ld1 v67 fun v68 =>
  IA 2 v68 v12 fun v70 =>
  FA v70 0 fun v71 =>
  Ld1 v71 fun v72 =>
  BinI .eql v72 a1 fun v74 =>
  Grd v74 true (NilC a0 fun v78 =>
  FA v78 0 fun v79 =>
  Ld1 v79 fun v80 =>
  IA 3 v80 v10 fun v82 =>
  FA v82 2 fun v83 =>
  Ld1 v83 fun v84 =>
  IA 2 v84 v12 fun v86 =>
  FA v86 1 fun v87 =>
  Ld1 v87 fun v88 =>
  BinI .neq v88 (.int .i64 0) fun v89 =>
  Cnd v89 (BinI .add v12 (.int .i64 1) fun v57 =>
  vK_2 [v12, v57])
  (BinI .add v12 (.int .i64 1) fun v57_1 =>
  vK_2 [v11_1, v57_1]))
  (BinI .add v12 (.int .i64 1) fun v57_2 =>
  vK_2 [v11_1, v57_2]))
  (BinI .add v12 (.int .i64 1) fun v57_3 =>
  vK_2 [v11_1, v57_3]))
  (vK_1 [v11_1]))))
  (LoopC [(.int .i64 0)] fun vK_3 vs => AllE <|
  UN vs fun v13 _ =>
  LenS v9 fun v128 =>
  BinI .lss v13 v128 fun v129 =>
  Cnd v129 (IA 4 v9 v13 fun v135 =>
  FA v135 0 fun v136 =>
  Ld1 v136 fun v137 =>
  FnV pg (.func (.func 25) #[] #[]) #[a0, v137] fun _ =>
  BinI .add v13 (.int .i64 1) fun v131 =>
  vK_3 [v131])
  (KR v9))
theorem V.jacinthref16_Waits_On_ok {a0 a1 a2 a3 : Value} {K : Value → WP} {w : World} (h : V.jacinthref16_Waits_On a0 a1 a2 a3 K w) : Cl pg 22 #[a0, a1, a2, a3] K w :=
  cl_of pg_mixed Try.func22 (args := [a0, a1, a2, a3]) (by kernel_rfl) (by rw [show WF pg Try.f22 [a0, a1, a2, a3] K = V.jacinthref16_Waits_On a0 a1 a2 a3 K from by kernel_rfl]; exact h)

def V.jacinthref16_Waits_Expire (a0 a1 : Value) (KR : Value → WP) : WP :=
  LoopC [(.slice none 0 0), (.slice none 0 0)] fun vK vs => AllE <|
  UN vs fun v4 vs =>
  UN vs fun v5 _ =>
  LoopC [(.int .i64 (-1)), (.int .i64 0)] fun vK_1 vs => AllE <|
  UN vs fun v6 vs =>
  UN vs fun v7 _ =>
  NilC a0 fun v11 =>
  FA v11 0 fun v12 =>
  Ld1 v12 fun v13 =>
  LenS v13 fun v14 =>
  BinI .lss v7 v14 fun v15 =>
  Cnd v15 (NilC a0 fun v19 =>
  FA v19 0 fun v20 =>
  Ld1 v20 fun v21 =>
  IA 3 v21 v7 fun v23 =>
  LdN 3 v23 fun v24 =>
  New 71 #[(.int .i64 0), (.int .i64 0), (.slice none 0 0)] fun v8 =>
  St 3 v8 v24 fun _ =>
  Drw <| QtC fun I =>
  QE I (fun KK => FA v8 1 fun v25 =>
  KK v25) fun v25_1 =>
  QE I (fun KK => Ld1 v25_1 fun v26 =>
  KK v26) fun v26_1 =>
  BinI .leq v26_1 a1 fun v28 =>
  Grd v28 true (BinI .lss v6 (.int .i64 0) fun v31 =>
  QtC fun I =>
  Grd v31 false (QE I (fun KK => FA v8 1 fun v33 =>
  KK v33) fun v33_1 =>
  QE I (fun KK => Ld1 v33_1 fun v34 =>
  KK v34) fun v34_1 =>
  QE I (fun KK => NilC a0 fun v36 =>
  KK v36) fun v36_1 =>
  QE I (fun KK => FA v36_1 0 fun v37 =>
  KK v37) fun v37_1 =>
  QE I (fun KK => Ld1 v37_1 fun v38 =>
  KK v38) fun v38_1 =>
  QE I (fun KK => IA 3 v38_1 v6 fun v40 =>
  KK v40) fun v40_1 =>
  QE I (fun KK => FA v40_1 1 fun v41 =>
  KK v41) fun v41_1 =>
  QE I (fun KK => Ld1 v41_1 fun v42 =>
  KK v42) fun v42_1 =>
  BinI .lss v34_1 v42_1 fun v43 =>
  QtC fun I =>
  Grd v43 false (QE I (fun KK => FA v8 1 fun v46 =>
  KK v46) fun v46_1 =>
  QE I (fun KK => Ld1 v46_1 fun v47 =>
  KK v47) fun v47_1 =>
  QE I (fun KK => NilC a0 fun v49 =>
  KK v49) fun v49_1 =>
  QE I (fun KK => FA v49_1 0 fun v50 =>
  KK v50) fun v50_1 =>
  QE I (fun KK => Ld1 v50_1 fun v51 =>
  KK v51) fun v51_1 =>
  QE I (fun KK => IA 3 v51_1 v6 fun v53 =>
  KK v53) fun v53_1 =>
  QE I (fun KK => FA v53_1 1 fun v54 =>
  KK v54) fun v54_1 =>
  QE I (fun KK => Ld1 v54_1 fun v55 =>
  KK v55) fun v55_1 =>
  BinI .eql v47_1 v55_1 fun v56 =>
  QtC fun I =>
  Grd v56 true (QE I (fun KK => FA v8 0 fun v58 =>
  KK v58) fun v58_1 =>
  QE I (fun KK => Ld1 v58_1 fun v59 =>
  KK v59) fun v59_1 =>
  QE I (fun KK => NilC a0 fun v61 =>
  KK v61) fun v61_1 =>
  QE I (fun KK => FA v61_1 0 fun v62 =>
  KK v62) fun v62_1 =>
  QE I (fun KK => Ld1 v62_1 fun v63 =>
  KK v63) fun v63_1 =>
  QE I (fun KK => IA 3 v63_1 v6 fun v65 =>
  KK v65) fun v65_1 =>
  QE I (fun KK => FA v65_1 0 fun v66 =>
  KK v66) fun v66_1 =>
  QE I (fun KK => Ld1 v66_1 fun v67 =>
  KK v67) fun v67_1 =>
  BinI .lss v59_1 v67_1 fun v68 =>
  Cnd v68 (BinI .add v7 (.int .i64 1) fun v17 =>
  vK_1 [v7, v17])
  (BinI .add v7 (.int .i64 1) fun v17_1 =>
  vK_1 [v6, v17_1]))
  (BinI .add v7 (.int .i64 1) fun v17_2 =>
  vK_1 [v6, v17_2]))
  (QtC fun I =>
  BinI .add v7 (.int .i64 1) fun v17_3 =>
  vK_1 [v7, v17_3]))
  (QtC fun I =>
  QtC fun I =>
  BinI .add v7 (.int .i64 1) fun v17_4 =>
  vK_1 [v7, v17_4]))
  (QtC fun I =>
  QtC fun I =>
  QtC fun I =>
  BinI .add v7 (.int .i64 1) fun v17_5 =>
  vK_1 [v6, v17_5]))
  (BinI .lss v6 (.int .i64 0) fun v74 =>
  Cnd v74 (KR v5)
  (NilC a0 fun v78 =>
  FA v78 0 fun v79 =>
  Ld1 v79 fun v80 =>
  IA 3 v80 v6 fun v82 =>
  FA v82 0 fun v83 =>
  Ld1 v83 fun v84 =>
  Ex pg (bldS #[(.int .i64 0), (.int .i64 0), (.int .i64 0), (.int .i64 0)] [(0, 1), (1, 1), (2, 1), (3, 1)] #[(0, v84), (1, (.int .i64 (-1))), (2, (.int .i64 (-21))), (3, (.int .i64 0))]) fun v85 =>
  BSlC 95 4 #[(.int .i64 0), (.int .i64 0), (.int .i64 0), (.int .i64 0)] 1 #[(0, v85)] fun v86 =>
  AppC 95 4 32 #[(.int .i64 0), (.int .i64 0), (.int .i64 0), (.int .i64 0)] v5 v86 fun v87 =>
  NilC a0 fun v90 =>
  FA v90 0 fun v91 =>
  Ld1 v91 fun v92 =>
  IA 3 v92 v6 fun v94 =>
  FA v94 0 fun v95 =>
  Ld1 v95 fun v96 =>
  FnV pg (.func (.func 25) #[] #[]) #[a0, v96] fun _ =>
  vK [v4, v87]))
theorem V.jacinthref16_Waits_Expire_ok {a0 a1 : Value} {K : Value → WP} {w : World} (h : V.jacinthref16_Waits_Expire a0 a1 K w) : Cl pg 23 #[a0, a1] K w :=
  cl_of pg_mixed Try.func23 (args := [a0, a1]) (by kernel_rfl) (by rw [show WF pg Try.f23 [a0, a1] K = V.jacinthref16_Waits_Expire a0 a1 K from by kernel_rfl]; exact h)

def V.jacinthref16_Waits_Find (a0 a1 : Value) (KR : Value → WP) : WP :=
  LoopC [(.int .i64 0), (.int .i64 0)] fun vK vs => AllE <|
  UN vs fun v4 vs =>
  UN vs fun v5 _ =>
  NilC a0 fun v8 =>
  FA v8 0 fun v9 =>
  Ld1 v9 fun v10 =>
  LenS v10 fun v11 =>
  BinI .lss v5 v11 fun v12 =>
  Cnd v12 (NilC a0 fun v16 =>
  FA v16 0 fun v17 =>
  Ld1 v17 fun v18 =>
  IA 3 v18 v5 fun v20 =>
  FA v20 0 fun v21 =>
  Ld1 v21 fun v22 =>
  BinI .eql v22 a1 fun v24 =>
  Cnd v24 (KR v5)
  (BinI .add v5 (.int .i64 1) fun v14 =>
  vK [v4, v14]))
  (KR (.int .i64 (-1)))
theorem V.jacinthref16_Waits_Find_ok {a0 a1 : Value} {K : Value → WP} {w : World} (h : V.jacinthref16_Waits_Find a0 a1 K w) : Cl pg 24 #[a0, a1] K w :=
  cl_of pg_mixed Try.func24 (args := [a0, a1]) (by kernel_rfl) (by rw [show WF pg Try.f24 [a0, a1] K = V.jacinthref16_Waits_Find a0 a1 K from by kernel_rfl]; exact h)

def V.jacinthref16_Waits_Drop (a0 a1 : Value) (KR : Value → WP) : WP :=
  LoopC [(.slice none 0 0), (.int .i64 0)] fun vK vs => AllE <|
  UN vs fun v4 vs =>
  UN vs fun v5 _ =>
  NilC a0 fun v8 =>
  FA v8 0 fun v9 =>
  Ld1 v9 fun v10 =>
  LenS v10 fun v11 =>
  BinI .lss v5 v11 fun v12 =>
  Cnd v12 (NilC a0 fun v16 =>
  FA v16 0 fun v17 =>
  Ld1 v17 fun v18 =>
  IA 3 v18 v5 fun v20 =>
  FA v20 0 fun v21 =>
  Ld1 v21 fun v22 =>
  BinI .neq v22 a1 fun v24 =>
  Cnd v24 (NilC a0 fun v27 =>
  FA v27 0 fun v28 =>
  Ld1 v28 fun v29 =>
  IA 3 v29 v5 fun v31 =>
  LdN 3 v31 fun v32 =>
  BSlC 71 3 #[(.int .i64 0), (.int .i64 0), (.slice none 0 0)] 1 #[(0, v32)] fun v33 =>
  AppC 71 3 40 #[(.int .i64 0), (.int .i64 0), (.slice none 0 0)] v4 v33 fun v34 =>
  BinI .add v5 (.int .i64 1) fun v14 =>
  vK [v34, v14])
  (BinI .add v5 (.int .i64 1) fun v14_1 =>
  vK [v4, v14_1]))
  (NilC a0 fun v37 =>
  FA v37 0 fun v38 =>
  St 1 v38 v4 fun _ =>
  KR (.tuple #[]))
theorem V.jacinthref16_Waits_Drop_ok {a0 a1 : Value} {K : Value → WP} {w : World} (h : V.jacinthref16_Waits_Drop a0 a1 K w) : Cl pg 25 #[a0, a1] K w :=
  cl_of pg_mixed Try.func25 (args := [a0, a1]) (by kernel_rfl) (by rw [show WF pg Try.f25 [a0, a1] K = V.jacinthref16_Waits_Drop a0 a1 K from by kernel_rfl]; exact h)

def V.slices_ContainsFunc_Item_Item (a0 a1 : Value) (KR : Value → WP) : WP :=
  FnV pg (.func (.func 44) #[] #[]) #[a0, a1] fun v7 =>
  BinI .geq v7 (.int .i64 0) fun v8 =>
  KR v8
theorem V.slices_ContainsFunc_Item_Item_ok {a0 a1 : Value} {K : Value → WP} {w : World} (h : V.slices_ContainsFunc_Item_Item a0 a1 K w) : Cl pg 26 #[a0, a1] K w :=
  cl_of pg_mixed Try.func26 (args := [a0, a1]) (by kernel_rfl) (by rw [show WF pg Try.f26 [a0, a1] K = V.slices_ContainsFunc_Item_Item a0 a1 K from by kernel_rfl]; exact h)

def V.waits_Waits_Block_c1 (a0 : Value) (KR : Value → WP) : WP :=
  New 42 (Value.cells a0) fun v1 =>
  FA v1 0 fun v3 =>
  Ld1 v3 fun v4 =>
  BinI .lss v4 (.int .i64 1) fun v5 =>
  KR v5
theorem V.waits_Waits_Block_c1_ok {a0 : Value} {K : Value → WP} {w : World} (h : V.waits_Waits_Block_c1 a0 K w) : Cl pg 27 #[a0] K w :=
  cl_of pg_mixed Try.func27 (args := [a0]) (by kernel_rfl) (by rw [show WF pg Try.f27 [a0] K = V.waits_Waits_Block_c1 a0 K from by kernel_rfl]; exact h)

def V.waits_Waits_find (a0 a1 : Value) (KR : Value → WP) : WP :=
  New 3 (Value.cells a1) fun v3 =>
  NilC a0 fun v6 =>
  FA v6 0 fun v7 =>
  Ld1 v7 fun v8 =>
  FnV pg (.func (.func 45) #[] #[]) #[v8, (.func (.func 46) #[] #[v3])] fun v10 =>
  KR v10
theorem V.waits_Waits_find_ok {a0 a1 : Value} {K : Value → WP} {w : World} (h : V.waits_Waits_find a0 a1 K w) : Cl pg 28 #[a0, a1] K w :=
  cl_of pg_mixed Try.func28 (args := [a0, a1]) (by kernel_rfl) (by rw [show WF pg Try.f28 [a0, a1] K = V.waits_Waits_find a0 a1 K from by kernel_rfl]; exact h)

def V.slices_Clone_Item_Item (a0 : Value) (KR : Value → WP) : WP :=
  BinX pg .eql 28 (.tmp 3) (.const (.slice none 0 0)) a0 (.slice none 0 0) fun v4 =>
  Cnd v4 (KR (.slice none 0 0))
  (BSlC 42 2 #[(.int .i64 0), (.int .i64 0)] 0 #[] fun v5 =>
  AppC 42 2 16 #[(.int .i64 0), (.int .i64 0)] v5 a0 fun v7 =>
  KR v7)
theorem V.slices_Clone_Item_Item_ok {a0 : Value} {K : Value → WP} {w : World} (h : V.slices_Clone_Item_Item a0 K w) : Cl pg 29 #[a0] K w :=
  cl_of pg_mixed Try.func29 (args := [a0]) (by kernel_rfl) (by rw [show WF pg Try.f29 [a0] K = V.slices_Clone_Item_Item a0 K from by kernel_rfl]; exact h)

def V.waits_Waits_on (a0 a1 a2 : Value) (KR : Value → WP) : WP :=
  New 23 (Value.cells a0) fun v3 =>
  New 3 (Value.cells a1) fun v4 =>
  New 77 (Value.cells a2) fun v5 =>
  KR (.func (.func 47) #[] #[v3, v4, v5])
theorem V.waits_Waits_on_ok {a0 a1 a2 : Value} {K : Value → WP} {w : World} (h : V.waits_Waits_on a0 a1 a2 K w) : Cl pg 30 #[a0, a1, a2] K w :=
  cl_of pg_mixed Try.func30 (args := [a0, a1, a2]) (by kernel_rfl) (by rw [show WF pg Try.f30 [a0, a1, a2] K = V.waits_Waits_on a0 a1 a2 K from by kernel_rfl]; exact h)

def V.waits_Waits_Tell_c1 (a0 a1 : Value) (KR : Value → WP) : WP :=
  New 42 (Value.cells a0) fun v2 =>
  Ld1 a1 fun v4 =>
  FA v2 1 fun v5 =>
  Ld1 v5 fun v6 =>
  FnV pg (.func (.func 32) #[] #[]) #[v4, v6] fun v7 =>
  BinI .neq v7 (.int .i64 0) fun v8 =>
  KR v8
theorem V.waits_Waits_Tell_c1_ok {a0 a1 : Value} {K : Value → WP} {w : World} (h : V.waits_Waits_Tell_c1 a0 a1 K w) : Cl pg 31 #[a0, a1] K w :=
  cl_of pg_mixed Try.func31 (args := [a0, a1]) (by kernel_rfl) (by rw [show WF pg Try.f31 [a0, a1] K = V.waits_Waits_Tell_c1 a0 a1 K from by kernel_rfl]; exact h)

def V.signal_Set_Meets (a0 a1 : Value) (KR : Value → WP) : WP :=
  BinI .and a0 a1 fun v7 =>
  KR v7
theorem V.signal_Set_Meets_ok {a0 a1 : Value} {K : Value → WP} {w : World} (h : V.signal_Set_Meets a0 a1 K w) : Cl pg 32 #[a0, a1] K w :=
  cl_of pg_mixed Try.func32 (args := [a0, a1]) (by kernel_rfl) (by rw [show WF pg Try.f32 [a0, a1] K = V.signal_Set_Meets a0 a1 K from by kernel_rfl]; exact h)

def V.waits_Waits_wake (a0 a1 : Value) (KR : Value → WP) : WP :=
  LenS a1 fun v8 =>
  LoopC [(.int .i64 0)] fun vK vs => AllE <|
  UN vs fun v9 _ =>
  BinI .lss v9 v8 fun v10 =>
  Cnd v10 (IA 4 a1 v9 fun v11 =>
  LdN 4 v11 fun v12 =>
  New 38 #[(.int .i64 0), (.int .i64 0), (.int .i64 0), (.int .i64 0)] fun v6 =>
  St 4 v6 v12 fun _ =>
  FA v6 0 fun v14 =>
  Ld1 v14 fun v15 =>
  FnV pg (.func (.func 15) #[] #[]) #[a0, v15] fun _ =>
  BinI .add v9 (.int .i64 1) fun v17 =>
  vK [v17])
  (KR a1)
theorem V.waits_Waits_wake_ok {a0 a1 : Value} {K : Value → WP} {w : World} (h : V.waits_Waits_wake a0 a1 K w) : Cl pg 33 #[a0, a1] K w :=
  cl_of pg_mixed Try.func33 (args := [a0, a1]) (by kernel_rfl) (by rw [show WF pg Try.f33 [a0, a1] K = V.waits_Waits_wake a0 a1 K from by kernel_rfl]; exact h)

def V.slices_Delete_wait_wait (a0 a1 a2 : Value) (KR : Value → WP) : WP :=
  LenS a0 fun v12 =>
  Ex pg (Instr.sliceAt 73 a0 (some a1) (some a2) (some v12)) fun _ =>
  BinI .eql a1 a2 fun v16 =>
  Cnd v16 (KR a0)
  (LenS a0 fun v19 =>
  Drw <| QtC fun I =>
  QE I (fun KK => SlC 3 a0 none (some a1) fun v22 =>
  KK v22) fun v22_1 =>
  QE I (fun KK => SlC 3 a0 (some a2) none fun v25 =>
  KK v25) fun v25_1 =>
  AppC 80 3 40 #[(.int .i64 0), (.int .i64 0), (.slice none 0 0)] v22_1 v25_1 fun v26 =>
  LenS v26 fun v29 =>
  SlC 3 v26 (some v29) (some v19) fun v31 =>
  Ex pg (clrS #[(.int .i64 0), (.int .i64 0), (.slice none 0 0)] v31) fun _ =>
  KR v26)
theorem V.slices_Delete_wait_wait_ok {a0 a1 a2 : Value} {K : Value → WP} {w : World} (h : V.slices_Delete_wait_wait a0 a1 a2 K w) : Cl pg 34 #[a0, a1, a2] K w :=
  cl_of pg_mixed Try.func34 (args := [a0, a1, a2]) (by kernel_rfl) (by rw [show WF pg Try.f34 [a0, a1, a2] K = V.slices_Delete_wait_wait a0 a1 a2 K from by kernel_rfl]; exact h)

def V.waits_Waits_Cancel_c1 (a0 : Value) (KR : Value → WP) : WP :=
  New 42 (Value.cells a0) fun _ =>
  KR (.bool true)
theorem V.waits_Waits_Cancel_c1_ok {a0 : Value} {K : Value → WP} {w : World} (h : V.waits_Waits_Cancel_c1 a0 K w) : Cl pg 35 #[a0] K w :=
  cl_of pg_mixed Try.func35 (args := [a0]) (by kernel_rfl) (by rw [show WF pg Try.f35 [a0] K = V.waits_Waits_Cancel_c1 a0 K from by kernel_rfl]; exact h)

def V.slices_DeleteFunc_wait_wait (a0 a1 : Value) (KR : Value → WP) : WP :=
  FnV pg (.func (.func 45) #[] #[]) #[a0, a1] fun v10 =>
  BinI .eql v10 (.int .i64 (-1)) fun v12 =>
  Cnd v12 (KR a0)
  (BinI .add v10 (.int .i64 1) fun v15 =>
  LoopC [v10, v15] fun vK vs => AllE <|
  UN vs fun v5 vs =>
  UN vs fun v6 _ =>
  LenS a0 fun v18 =>
  BinI .lss v6 v18 fun v19 =>
  Cnd v19 (IA 3 a0 v6 fun v24 =>
  LdN 3 v24 fun v25 =>
  New 80 #[(.int .i64 0), (.int .i64 0), (.slice none 0 0)] fun v7 =>
  St 3 v7 v25 fun _ =>
  LdN 3 v7 fun v27 =>
  FnV pg a1 #[v27] fun v28 =>
  Un .not v28 fun v29 =>
  Cnd v29 (LdN 3 v7 fun v32 =>
  IA 3 a0 v5 fun v33 =>
  St 3 v33 v32 fun _ =>
  BinI .add v5 (.int .i64 1) fun v35 =>
  BinI .add v6 (.int .i64 1) fun v21 =>
  vK [v35, v21])
  (BinI .add v6 (.int .i64 1) fun v21_1 =>
  vK [v5, v21_1]))
  (SlC 3 a0 (some v5) none fun v38 =>
  Ex pg (clrS #[(.int .i64 0), (.int .i64 0), (.slice none 0 0)] v38) fun _ =>
  SlC 3 a0 none (some v5) fun v41 =>
  KR v41))
theorem V.slices_DeleteFunc_wait_wait_ok {a0 a1 : Value} {K : Value → WP} {w : World} (h : V.slices_DeleteFunc_wait_wait a0 a1 K w) : Cl pg 36 #[a0, a1] K w :=
  cl_of pg_mixed Try.func36 (args := [a0, a1]) (by kernel_rfl) (by rw [show WF pg Try.f36 [a0, a1] K = V.slices_DeleteFunc_wait_wait a0 a1 K from by kernel_rfl]; exact h)

def V.slices_Clone_wait_wait (a0 : Value) (KR : Value → WP) : WP :=
  BinX pg .eql 73 (.tmp 3) (.const (.slice none 0 0)) a0 (.slice none 0 0) fun v4 =>
  Cnd v4 (KR (.slice none 0 0))
  (BSlC 80 3 #[(.int .i64 0), (.int .i64 0), (.slice none 0 0)] 0 #[] fun v5 =>
  AppC 80 3 40 #[(.int .i64 0), (.int .i64 0), (.slice none 0 0)] v5 a0 fun v7 =>
  KR v7)
theorem V.slices_Clone_wait_wait_ok {a0 : Value} {K : Value → WP} {w : World} (h : V.slices_Clone_wait_wait a0 K w) : Cl pg 37 #[a0] K w :=
  cl_of pg_mixed Try.func37 (args := [a0]) (by kernel_rfl) (by rw [show WF pg Try.f37 [a0] K = V.slices_Clone_wait_wait a0 K from by kernel_rfl]; exact h)

def V.waits_Waits_Expire_c1 (a0 a1 : Value) (KR : Value → WP) : WP :=
  New 80 (Value.cells a0) fun v2 =>
  FA v2 1 fun v4 =>
  Ld1 v4 fun v5 =>
  Ld1 a1 fun v6 =>
  BinI .gtr v5 v6 fun v7 =>
  KR v7
theorem V.waits_Waits_Expire_c1_ok {a0 a1 : Value} {K : Value → WP} {w : World} (h : V.waits_Waits_Expire_c1 a0 a1 K w) : Cl pg 38 #[a0, a1] K w :=
  cl_of pg_mixed Try.func38 (args := [a0, a1]) (by kernel_rfl) (by rw [show WF pg Try.f38 [a0, a1] K = V.waits_Waits_Expire_c1 a0 a1 K from by kernel_rfl]; exact h)

def V.slices_SortFunc_wait_wait (a0 a1 : Value) (KR : Value → WP) : WP :=
  LenS a0 fun v6 =>
  ConvI .u64 v6 fun v10 =>
  FnV pg (.func (.func 49) #[] #[]) #[v10] fun v11 =>
  FnV pg (.func (.func 48) #[] #[]) #[a0, (.int .i64 0), v6, v11, a1] fun _ =>
  KR (.tuple #[])
theorem V.slices_SortFunc_wait_wait_ok {a0 a1 : Value} {K : Value → WP} {w : World} (h : V.slices_SortFunc_wait_wait a0 a1 K w) : Cl pg 39 #[a0, a1] K w :=
  cl_of pg_mixed Try.func39 (args := [a0, a1]) (by kernel_rfl) (by rw [show WF pg Try.f39 [a0, a1] K = V.slices_SortFunc_wait_wait a0 a1 K from by kernel_rfl]; exact h)

def V.waits_Waits_Expire_c2 (a0 a1 : Value) (KR : Value → WP) : WP :=
  New 80 (Value.cells a0) fun v2 =>
  New 80 (Value.cells a1) fun v3 =>
  Drw <| QtC fun I =>
  QE I (fun KK => FA v2 1 fun v5 =>
  KK v5) fun v5_1 =>
  QE I (fun KK => Ld1 v5_1 fun v6 =>
  KK v6) fun v6_1 =>
  QE I (fun KK => FA v3 1 fun v7 =>
  KK v7) fun v7_1 =>
  QE I (fun KK => Ld1 v7_1 fun v8 =>
  KK v8) fun v8_1 =>
  QE I (fun KK => FA v2 0 fun v10 =>
  KK v10) fun v10_1 =>
  QE I (fun KK => Ld1 v10_1 fun v11 =>
  KK v11) fun v11_1 =>
  QE I (fun KK => FA v3 0 fun v12 =>
  KK v12) fun v12_1 =>
  QE I (fun KK => Ld1 v12_1 fun v13 =>
  KK v13) fun v13_1 =>
  FnV pg (.func (.func 42) #[] #[]) #[v6_1, v8_1] fun v9 =>
  CH I <|
  FnV pg (.func (.func 42) #[] #[]) #[v11_1, v13_1] fun v14 =>
  BSlC 3 1 #[(.int .i64 0)] 2 #[(0, v9), (1, v14)] fun v15 =>
  FnV pg (.func (.func 41) #[] #[]) #[v15] fun v16 =>
  KR v16
theorem V.waits_Waits_Expire_c2_ok {a0 a1 : Value} {K : Value → WP} {w : World} (h : V.waits_Waits_Expire_c2 a0 a1 K w) : Cl pg 40 #[a0, a1] K w :=
  cl_of pg_mixed Try.func40 (args := [a0, a1]) (by kernel_rfl) (by rw [show WF pg Try.f40 [a0, a1] K = V.waits_Waits_Expire_c2 a0 a1 K from by kernel_rfl]; exact h)

def V.cmp_Or_int (a0 : Value) (KR : Value → WP) : WP :=
  LenS a0 fun v7 =>
  LoopC [(.int .i64 0), (.int .i64 0)] fun vK vs => AllE <|
  UN vs fun v2 vs =>
  UN vs fun v8 _ =>
  BinI .lss v8 v7 fun v9 =>
  Cnd v9 (IA 1 a0 v8 fun v10 =>
  Ld1 v10 fun v11 =>
  BinI .neq v11 (.int .i64 0) fun v14 =>
  Cnd v14 (KR v11)
  (BinI .add v8 (.int .i64 1) fun v16 =>
  vK [v2, v16]))
  (KR (.int .i64 0))
theorem V.cmp_Or_int_ok {a0 : Value} {K : Value → WP} {w : World} (h : V.cmp_Or_int a0 K w) : Cl pg 41 #[a0] K w :=
  cl_of pg_mixed Try.func41 (args := [a0]) (by kernel_rfl) (by rw [show WF pg Try.f41 [a0] K = V.cmp_Or_int a0 K from by kernel_rfl]; exact h)

def V.cmp_Compare_int (a0 a1 : Value) (KR : Value → WP) : WP :=
  FnV pg (.func (.func 50) #[] #[]) #[a0] fun v8 =>
  FnV pg (.func (.func 50) #[] #[]) #[a1] fun v10 =>
  Cnd v8 (Cnd v10 (KR (.int .i64 0))
  (KR (.int .i64 (-1))))
  (Cnd v10 (KR (.int .i64 1))
  (BinI .lss a0 a1 fun v16 =>
  Cnd v16 (KR (.int .i64 (-1)))
  (BinI .gtr a0 a1 fun v19 =>
  Cnd v19 (KR (.int .i64 1))
  (KR (.int .i64 0)))))
theorem V.cmp_Compare_int_ok {a0 a1 : Value} {K : Value → WP} {w : World} (h : V.cmp_Compare_int a0 a1 K w) : Cl pg 42 #[a0, a1] K w :=
  cl_of pg_mixed Try.func42 (args := [a0, a1]) (by kernel_rfl) (by rw [show WF pg Try.f42 [a0, a1] K = V.cmp_Compare_int a0 a1 K from by kernel_rfl]; exact h)

def V.jacinthref16_item (a0 a1 a2 : Value) (KR : Value → WP) : WP :=
  New 71 (Value.cells a0) fun v3 =>
  LoopC [(.int .i64 0), (.int .i64 0)] fun vK vs => AllE <|
  UN vs fun v6 vs =>
  UN vs fun v7 _ =>
  FA v3 2 fun v9 =>
  Ld1 v9 fun v10 =>
  LenS v10 fun v11 =>
  BinI .lss v7 v11 fun v12 =>
  Cnd v12 (FA v3 2 fun v15 =>
  Ld1 v15 fun v16 =>
  IA 2 v16 v7 fun v18 =>
  FA v18 0 fun v19 =>
  Ld1 v19 fun v20 =>
  BinI .eql v20 a1 fun v22 =>
  Grd v22 true (BinI .eql a2 (.int .i64 (-1)) fun v25 =>
  Grd v25 false (FA v3 2 fun v27 =>
  Ld1 v27 fun v28 =>
  IA 2 v28 v7 fun v30 =>
  FA v30 1 fun v31 =>
  Ld1 v31 fun v32 =>
  BinI .and v32 a2 fun v34 =>
  BinI .neq v34 (.int .i64 0) fun v35 =>
  Cnd v35 (KR v7)
  (BinI .add v7 (.int .i64 1) fun v14 =>
  vK [v6, v14]))
  (KR v7))
  (BinI .add v7 (.int .i64 1) fun v14_1 =>
  vK [v6, v14_1]))
  (KR (.int .i64 (-1)))
theorem V.jacinthref16_item_ok {a0 a1 a2 : Value} {K : Value → WP} {w : World} (h : V.jacinthref16_item a0 a1 a2 K w) : Cl pg 43 #[a0, a1, a2] K w :=
  cl_of pg_mixed Try.func43 (args := [a0, a1, a2]) (by kernel_rfl) (by rw [show WF pg Try.f43 [a0, a1, a2] K = V.jacinthref16_item a0 a1 a2 K from by kernel_rfl]; exact h)

def V.slices_IndexFunc_Item_Item (a0 a1 : Value) (KR : Value → WP) : WP :=
  LenS a0 fun v7 =>
  LoopC [(.int .i64 0), (.int .i64 0)] fun vK vs => AllE <|
  UN vs fun v4 vs =>
  UN vs fun v8 _ =>
  BinI .lss v8 v7 fun v9 =>
  Cnd v9 (IA 2 a0 v8 fun v14 =>
  LdN 2 v14 fun v15 =>
  FnV pg a1 #[v15] fun v16 =>
  Cnd v16 (KR v8)
  (BinI .add v8 (.int .i64 1) fun v18 =>
  vK [v4, v18]))
  (KR (.int .i64 (-1)))
theorem V.slices_IndexFunc_Item_Item_ok {a0 a1 : Value} {K : Value → WP} {w : World} (h : V.slices_IndexFunc_Item_Item a0 a1 K w) : Cl pg 44 #[a0, a1] K w :=
  cl_of pg_mixed Try.func44 (args := [a0, a1]) (by kernel_rfl) (by rw [show WF pg Try.f44 [a0, a1] K = V.slices_IndexFunc_Item_Item a0 a1 K from by kernel_rfl]; exact h)

def V.slices_IndexFunc_wait_wait (a0 a1 : Value) (KR : Value → WP) : WP :=
  LenS a0 fun v7 =>
  LoopC [(.int .i64 0), (.int .i64 0)] fun vK vs => AllE <|
  UN vs fun v4 vs =>
  UN vs fun v8 _ =>
  BinI .lss v8 v7 fun v9 =>
  Cnd v9 (IA 3 a0 v8 fun v14 =>
  LdN 3 v14 fun v15 =>
  FnV pg a1 #[v15] fun v16 =>
  Cnd v16 (KR v8)
  (BinI .add v8 (.int .i64 1) fun v18 =>
  vK [v4, v18]))
  (KR (.int .i64 (-1)))
theorem V.slices_IndexFunc_wait_wait_ok {a0 a1 : Value} {K : Value → WP} {w : World} (h : V.slices_IndexFunc_wait_wait a0 a1 K w) : Cl pg 45 #[a0, a1] K w :=
  cl_of pg_mixed Try.func45 (args := [a0, a1]) (by kernel_rfl) (by rw [show WF pg Try.f45 [a0, a1] K = V.slices_IndexFunc_wait_wait a0 a1 K from by kernel_rfl]; exact h)

def V.waits_Waits_find_c1 (a0 a1 : Value) (KR : Value → WP) : WP :=
  New 80 (Value.cells a0) fun v2 =>
  FA v2 0 fun v4 =>
  Ld1 v4 fun v5 =>
  Ld1 a1 fun v6 =>
  BinI .eql v5 v6 fun v7 =>
  KR v7
theorem V.waits_Waits_find_c1_ok {a0 a1 : Value} {K : Value → WP} {w : World} (h : V.waits_Waits_find_c1 a0 a1 K w) : Cl pg 46 #[a0, a1] K w :=
  cl_of pg_mixed Try.func46 (args := [a0, a1]) (by kernel_rfl) (by rw [show WF pg Try.f46 [a0, a1] K = V.waits_Waits_find_c1 a0 a1 K from by kernel_rfl]; exact h)

def V.waits_Waits_on_c1 (a0 a1 a2 a3 : Value) (KR : Value → WP) : WP :=
  Ld1 a1 fun v9 =>
  NilC v9 fun v10 =>
  FA v10 0 fun v11 =>
  Ld1 v11 fun v12 =>
  LenS v12 fun v13 =>
  LoopC [(.int .i64 0)] fun vK vs => AllE <|
  UN vs fun v14 _ =>
  BinI .lss v14 v13 fun v15 =>
  Cnd v15 (IA 3 v12 v14 fun v16 =>
  LdN 3 v16 fun v17 =>
  New 80 #[(.int .i64 0), (.int .i64 0), (.slice none 0 0)] fun v6 =>
  St 3 v6 v17 fun _ =>
  FA v6 2 fun v18 =>
  Ld1 v18 fun v19 =>
  LenS v19 fun v20 =>
  LoopC [(.int .i64 0)] fun vK_1 vs => AllE <|
  UN vs fun v21 _ =>
  BinI .lss v21 v20 fun v22 =>
  Cnd v22 (IA 2 v19 v21 fun v24 =>
  LdN 2 v24 fun v25 =>
  New 42 #[(.int .i64 0), (.int .i64 0)] fun v8 =>
  St 2 v8 v25 fun _ =>
  FA v8 0 fun v26 =>
  Ld1 v26 fun v27 =>
  Ld1 a2 fun v28 =>
  BinI .eql v27 v28 fun v29 =>
  Grd v29 true (Ld1 a3 fun v31 =>
  LdN 2 v8 fun v32 =>
  FnV pg v31 #[v32] fun v33 =>
  Cnd v33 (LdN 3 v6 fun v36 =>
  FnV pg a0 #[v36, v21] fun v38 =>
  Un .not v38 fun v39 =>
  Cnd v39 (KR (.tuple #[]))
  (BinI .add v14 (.int .i64 1) fun v41 =>
  vK [v41]))
  (BinI .add v21 (.int .i64 1) fun v40 =>
  vK_1 [v40]))
  (BinI .add v21 (.int .i64 1) fun v40_1 =>
  vK_1 [v40_1]))
  (BinI .add v14 (.int .i64 1) fun v41_1 =>
  vK [v41_1]))
  (KR (.tuple #[]))
theorem V.waits_Waits_on_c1_ok {a0 a1 a2 a3 : Value} {K : Value → WP} {w : World} (h : V.waits_Waits_on_c1 a0 a1 a2 a3 K w) : Cl pg 47 #[a0, a1, a2, a3] K w :=
  cl_of pg_mixed Try.func47 (args := [a0, a1, a2, a3]) (by kernel_rfl) (by rw [show WF pg Try.f47 [a0, a1, a2, a3] K = V.waits_Waits_on_c1 a0 a1 a2 a3 K from by kernel_rfl]; exact h)

def V.slices_pdqsortCmpFunc_wait (a0 a1 a2 a3 a4 : Value) (KR : Value → WP) : WP :=
  LoopC [a3, (.bool true), a1, (.bool true), a2] fun vK vs => AllE <|
  UN vs fun v3 vs =>
  UN vs fun v11 vs =>
  UN vs fun v1 vs =>
  UN vs fun v10 vs =>
  UN vs fun v2 _ =>
  BinI .sub v2 v1 fun v23 =>
  BinI .leq v23 (.int .i64 12) fun v25 =>
  Cnd v25 (FnV pg (.func (.func 51) #[] #[]) #[a0, v1, v2, a4] fun _ =>
  KR (.tuple #[]))
  (BinI .eql v3 (.int .i64 0) fun v32 =>
  Cnd v32 (FnV pg (.func (.func 52) #[] #[]) #[a0, v1, v2, a4] fun _ =>
  KR (.tuple #[]))
  (JoinC (fun vs => AllE (UN vs fun v3_1 _ =>
  FnV pg (.func (.func 54) #[] #[]) #[a0, v1, v2, a4] fun v52 =>
  Ext v52 0 fun v53 =>
  Ext v52 1 fun v54 =>
  JoinC (fun vs => AllE (UN vs fun v13 vs =>
  UN vs fun v14 _ =>
  JoinC (fun _ => AllE (Drw <| BinI .gtr v1 (.int .i64 0) fun v82 =>
  QtC fun I =>
  Grd v82 true (QE I (fun KK => BinI .sub v1 (.int .i64 1) fun v87 =>
  KK v87) fun v87_1 =>
  QE I (fun KK => IA 3 a0 v87_1 fun v88 =>
  KK v88) fun v88_1 =>
  QE I (fun KK => LdN 3 v88_1 fun v89 =>
  KK v89) fun v89_1 =>
  QE I (fun KK => IA 3 a0 v13 fun v92 =>
  KK v92) fun v92_1 =>
  QE I (fun KK => LdN 3 v92_1 fun v93 =>
  KK v93) fun v93_1 =>
  FnV pg a4 #[v89_1, v93_1] fun v94 =>
  BinI .lss v94 (.int .i64 0) fun v95 =>
  Un .not v95 fun v96 =>
  Cnd v96 (FnV pg (.func (.func 57) #[] #[]) #[a0, v1, v2, v13, a4] fun v103 =>
  vK [v3_1, v11, v103, v10, v2])
  (FnV pg (.func (.func 58) #[] #[]) #[a0, v1, v2, v13, a4] fun v111 =>
  Ext v111 0 fun v112 =>
  Ext v111 1 fun v113 =>
  BinI .sub v112 v1 fun v117 =>
  BinI .sub v2 v112 fun v120 =>
  BinI .quo v23 (.int .i64 8) fun v122 =>
  BinI .lss v117 v120 fun v125 =>
  Cnd v125 (BinI .geq v117 v122 fun v128 =>
  FnV pg (.func (.func 48) #[] #[]) #[a0, v1, v112, v3_1, a4] fun _ =>
  BinI .add v112 (.int .i64 1) fun v136 =>
  vK [v3_1, v113, v136, v128, v2])
  (BinI .geq v120 v122 fun v139 =>
  BinI .add v112 (.int .i64 1) fun v142 =>
  FnV pg (.func (.func 48) #[] #[]) #[a0, v142, v2, v3_1, a4] fun _ =>
  vK [v3_1, v113, v1, v139, v112])))
  (FnV pg (.func (.func 58) #[] #[]) #[a0, v1, v2, v13, a4] fun v111_1 =>
  Ext v111_1 0 fun v112_1 =>
  Ext v111_1 1 fun v113_1 =>
  BinI .sub v112_1 v1 fun v117_1 =>
  BinI .sub v2 v112_1 fun v120_1 =>
  BinI .quo v23 (.int .i64 8) fun v122_1 =>
  BinI .lss v117_1 v120_1 fun v125_1 =>
  Cnd v125_1 (BinI .geq v117_1 v122_1 fun v128_1 =>
  FnV pg (.func (.func 48) #[] #[]) #[a0, v1, v112_1, v3_1, a4] fun _ =>
  BinI .add v112_1 (.int .i64 1) fun v136_1 =>
  vK [v3_1, v113_1, v136_1, v128_1, v2])
  (BinI .geq v120_1 v122_1 fun v139_1 =>
  BinI .add v112_1 (.int .i64 1) fun v142_1 =>
  FnV pg (.func (.func 48) #[] #[]) #[a0, v142_1, v2, v3_1, a4] fun _ =>
  vK [v3_1, v113_1, v1, v139_1, v112_1]))))
  fun vK_1 =>
  Grd v10 true (Grd v11 true (BinI .eql v14 (.int .i64 1) fun v74 =>
  Cnd v74 (FnV pg (.func (.func 56) #[] #[]) #[a0, v1, v2, a4] fun v80 =>
  Cnd v80 (KR (.tuple #[]))
  (vK_1 []))
  (vK_1 []))
  (vK_1 []))
  (vK_1 [])))
  fun vK_2 =>
  BinI .eql v54 (.int .i64 2) fun v56 =>
  Cnd v56 (FnV pg (.func (.func 55) #[] #[]) #[a0, v1, v2, a4] fun _ =>
  BinI .sub v2 (.int .i64 1) fun v63 =>
  BinI .sub v53 v1 fun v66 =>
  BinI .sub v63 v66 fun v67 =>
  vK_2 [v67, (.int .i64 1)])
  (vK_2 [v53, v54])))
  fun vK_3 =>
  Un .not v10 fun v39 =>
  Cnd v39 (FnV pg (.func (.func 53) #[] #[]) #[a0, v1, v2, a4] fun _ =>
  BinI .sub v3 (.int .i64 1) fun v46 =>
  vK_3 [v46])
  (vK_3 [v3])))
theorem V.slices_pdqsortCmpFunc_wait_ok {a0 a1 a2 a3 a4 : Value} {K : Value → WP} {w : World} (h : V.slices_pdqsortCmpFunc_wait a0 a1 a2 a3 a4 K w) : Cl pg 48 #[a0, a1, a2, a3, a4] K w :=
  cl_of pg_mixed Try.func48 (args := [a0, a1, a2, a3, a4]) (by kernel_rfl) (by rw [show WF pg Try.f48 [a0, a1, a2, a3, a4] K = V.slices_pdqsortCmpFunc_wait a0 a1 a2 a3 a4 K from by kernel_rfl]; exact h)

def V.math_bits_Len (a0 : Value) (KR : Value → WP) : WP :=
  FnV pg (.func (.func 60) #[] #[]) #[a0] fun v7 =>
  KR v7
theorem V.math_bits_Len_ok {a0 : Value} {K : Value → WP} {w : World} (h : V.math_bits_Len a0 K w) : Cl pg 49 #[a0] K w :=
  cl_of pg_mixed Try.func49 (args := [a0]) (by kernel_rfl) (by rw [show WF pg Try.f49 [a0] K = V.math_bits_Len a0 K from by kernel_rfl]; exact h)

def V.cmp_isNaN_int (a0 : Value) (KR : Value → WP) : WP :=
  BinI .neq a0 a0 fun v5 =>
  KR v5
theorem V.cmp_isNaN_int_ok {a0 : Value} {K : Value → WP} {w : World} (h : V.cmp_isNaN_int a0 K w) : Cl pg 50 #[a0] K w :=
  cl_of pg_mixed Try.func50 (args := [a0]) (by kernel_rfl) (by rw [show WF pg Try.f50 [a0] K = V.cmp_isNaN_int a0 K from by kernel_rfl]; exact h)

def V.slices_insertionSortCmpFunc_wait (a0 a1 a2 a3 : Value) (KR : Value → WP) : WP :=
  BinI .add a1 (.int .i64 1) fun v11 =>
  LoopC [v11] fun vK vs => AllE <|
  UN vs fun v8 _ =>
  BinI .lss v8 a2 fun v14 =>
  Cnd v14 (LoopC [v8] fun vK_1 vs => AllE <|
  UN vs fun v9 _ =>
  Drw <| QtC fun I =>
  BinI .gtr v9 a1 fun v20 =>
  QtC fun I =>
  Grd v20 true (QE I (fun KK => IA 3 a0 v9 fun v25 =>
  KK v25) fun v25_1 =>
  QE I (fun KK => LdN 3 v25_1 fun v26 =>
  KK v26) fun v26_1 =>
  QE I (fun KK => BinI .sub v9 (.int .i64 1) fun v29 =>
  KK v29) fun v29_1 =>
  QE I (fun KK => IA 3 a0 v29_1 fun v30 =>
  KK v30) fun v30_1 =>
  QE I (fun KK => LdN 3 v30_1 fun v31 =>
  KK v31) fun v31_1 =>
  FnV pg a3 #[v26_1, v31_1] fun v32 =>
  BinI .lss v32 (.int .i64 0) fun v33 =>
  Cnd v33 (Drw <| QtC fun I =>
  QE I (fun KK => BinI .sub v9 (.int .i64 1) fun v41 =>
  KK v41) fun v41_1 =>
  QE I (fun KK => BinI .sub v9 (.int .i64 1) fun v44 =>
  KK v44) fun v44_1 =>
  QE I (fun KK => IA 3 a0 v44_1 fun v45 =>
  KK v45) fun v45_1 =>
  QE I (fun KK => LdN 3 v45_1 fun v46 =>
  KK v46) fun v46_1 =>
  QE I (fun KK => IA 3 a0 v9 fun v49 =>
  KK v49) fun v49_1 =>
  QE I (fun KK => LdN 3 v49_1 fun v50 =>
  KK v50) fun v50_1 =>
  QE I (fun KK => IA 3 a0 v9 fun v51 =>
  KK v51) fun v51_1 =>
  St 3 v51_1 v46_1 fun _ =>
  CH I <|
  IA 3 a0 v41_1 fun v52 =>
  St 3 v52 v50_1 fun _ =>
  BinI .sub v9 (.int .i64 1) fun v36 =>
  vK_1 [v36])
  (BinI .add v8 (.int .i64 1) fun v16 =>
  vK [v16]))
  (BinI .add v8 (.int .i64 1) fun v16_1 =>
  vK [v16_1]))
  (KR (.tuple #[]))
theorem V.slices_insertionSortCmpFunc_wait_ok {a0 a1 a2 a3 : Value} {K : Value → WP} {w : World} (h : V.slices_insertionSortCmpFunc_wait a0 a1 a2 a3 K w) : Cl pg 51 #[a0, a1, a2, a3] K w :=
  cl_of pg_mixed Try.func51 (args := [a0, a1, a2, a3]) (by kernel_rfl) (by rw [show WF pg Try.f51 [a0, a1, a2, a3] K = V.slices_insertionSortCmpFunc_wait a0 a1 a2 a3 K from by kernel_rfl]; exact h)

def V.slices_heapSortCmpFunc_wait (a0 a1 a2 a3 : Value) (KR : Value → WP) : WP :=
  BinI .sub a2 a1 fun v16 =>
  BinI .sub v16 (.int .i64 1) fun v18 =>
  BinI .quo v18 (.int .i64 2) fun v19 =>
  LoopC [v19] fun vK vs => AllE <|
  UN vs fun v11 _ =>
  BinI .geq v11 (.int .i64 0) fun v21 =>
  Cnd v21 (FnV pg (.func (.func 61) #[] #[]) #[a0, v11, v16, a1, a3] fun _ =>
  BinI .sub v11 (.int .i64 1) fun v23 =>
  vK [v23])
  (BinI .sub v16 (.int .i64 1) fun v31 =>
  LoopC [v31] fun vK_1 vs => AllE <|
  UN vs fun v12 _ =>
  BinI .geq v12 (.int .i64 0) fun v33 =>
  Cnd v33 (Drw <| QtC fun I =>
  QE I (fun KK => BinI .add a1 v12 fun v41 =>
  KK v41) fun v41_1 =>
  QE I (fun KK => BinI .add a1 v12 fun v45 =>
  KK v45) fun v45_1 =>
  QE I (fun KK => IA 3 a0 v45_1 fun v46 =>
  KK v46) fun v46_1 =>
  QE I (fun KK => LdN 3 v46_1 fun v47 =>
  KK v47) fun v47_1 =>
  QE I (fun KK => IA 3 a0 a1 fun v50 =>
  KK v50) fun v50_1 =>
  QE I (fun KK => LdN 3 v50_1 fun v51 =>
  KK v51) fun v51_1 =>
  QE I (fun KK => IA 3 a0 a1 fun v52 =>
  KK v52) fun v52_1 =>
  St 3 v52_1 v47_1 fun _ =>
  CH I <|
  IA 3 a0 v41_1 fun v53 =>
  St 3 v53 v51_1 fun _ =>
  FnV pg (.func (.func 61) #[] #[]) #[a0, (.int .i64 0), v12, a1, a3] fun _ =>
  BinI .sub v12 (.int .i64 1) fun v35 =>
  vK_1 [v35])
  (KR (.tuple #[])))
theorem V.slices_heapSortCmpFunc_wait_ok {a0 a1 a2 a3 : Value} {K : Value → WP} {w : World} (h : V.slices_heapSortCmpFunc_wait a0 a1 a2 a3 K w) : Cl pg 52 #[a0, a1, a2, a3] K w :=
  cl_of pg_mixed Try.func52 (args := [a0, a1, a2, a3]) (by kernel_rfl) (by rw [show WF pg Try.f52 [a0, a1, a2, a3] K = V.slices_heapSortCmpFunc_wait a0 a1 a2 a3 K from by kernel_rfl]; exact h)

def V.slices_breakPatternsCmpFunc_wait (a0 a1 a2 _a3 : Value) (KR : Value → WP) : WP :=
  BinI .sub a2 a1 fun v15 =>
  BinI .geq v15 (.int .i64 8) fun v17 =>
  Cnd v17 (ConvI .u64 v15 fun v19 =>
  New 114 #[(.int .u64 0)] fun v9 =>
  St 1 v9 v19 fun _ =>
  FnV pg (.func (.func 62) #[] #[]) #[v15] fun v21 =>
  BinI .quo v15 (.int .i64 4) fun v24 =>
  BinI .mul v24 (.int .i64 2) fun v25 =>
  BinI .add a1 v25 fun v26 =>
  BinI .sub v26 (.int .i64 1) fun v27 =>
  LoopC [v27] fun vK vs => AllE <|
  UN vs fun v11 _ =>
  BinI .quo v15 (.int .i64 4) fun v31 =>
  BinI .mul v31 (.int .i64 2) fun v32 =>
  BinI .add a1 v32 fun v33 =>
  BinI .add v33 (.int .i64 1) fun v34 =>
  BinI .leq v11 v34 fun v35 =>
  Cnd v35 (FnV pg (.func (.func 63) #[] #[]) #[v9] fun v38 =>
  BinI .sub v21 (.int .u64 1) fun v40 =>
  BinI .and v38 v40 fun v41 =>
  ConvI .i64 v41 fun v42 =>
  JoinC (fun vs => AllE (UN vs fun v12 _ =>
  Drw <| QtC fun I =>
  QE I (fun KK => BinI .add a1 v12 fun v54 =>
  KK v54) fun v54_1 =>
  QE I (fun KK => BinI .add a1 v12 fun v58 =>
  KK v58) fun v58_1 =>
  QE I (fun KK => IA 3 a0 v58_1 fun v59 =>
  KK v59) fun v59_1 =>
  QE I (fun KK => LdN 3 v59_1 fun v60 =>
  KK v60) fun v60_1 =>
  QE I (fun KK => IA 3 a0 v11 fun v63 =>
  KK v63) fun v63_1 =>
  QE I (fun KK => LdN 3 v63_1 fun v64 =>
  KK v64) fun v64_1 =>
  QE I (fun KK => IA 3 a0 v11 fun v65 =>
  KK v65) fun v65_1 =>
  St 3 v65_1 v60_1 fun _ =>
  CH I <|
  IA 3 a0 v54_1 fun v66 =>
  St 3 v66 v64_1 fun _ =>
  BinI .add v11 (.int .i64 1) fun v37 =>
  vK [v37]))
  fun vK_1 =>
  BinI .geq v42 v15 fun v45 =>
  Cnd v45 (BinI .sub v42 v15 fun v48 =>
  vK_1 [v48])
  (vK_1 [v42]))
  (KR (.tuple #[])))
  (KR (.tuple #[]))
theorem V.slices_breakPatternsCmpFunc_wait_ok {a0 a1 a2 a3 : Value} {K : Value → WP} {w : World} (h : V.slices_breakPatternsCmpFunc_wait a0 a1 a2 a3 K w) : Cl pg 53 #[a0, a1, a2, a3] K w :=
  cl_of pg_mixed Try.func53 (args := [a0, a1, a2, a3]) (by kernel_rfl) (by rw [show WF pg Try.f53 [a0, a1, a2, a3] K = V.slices_breakPatternsCmpFunc_wait a0 a1 a2 a3 K from by kernel_rfl]; exact h)

def V.slices_choosePivotCmpFunc_wait (a0 a1 a2 a3 : Value) (KR : Value → WP) : WP :=
  BinI .sub a2 a1 fun v17 =>
  New 3 #[(.int .i64 0)] fun v11 =>
  BinI .quo v17 (.int .i64 4) fun v20 =>
  BinI .mul v20 (.int .i64 1) fun v21 =>
  BinI .add a1 v21 fun v22 =>
  BinI .quo v17 (.int .i64 4) fun v25 =>
  BinI .mul v25 (.int .i64 2) fun v26 =>
  BinI .add a1 v26 fun v27 =>
  BinI .quo v17 (.int .i64 4) fun v30 =>
  BinI .mul v30 (.int .i64 3) fun v31 =>
  BinI .add a1 v31 fun v32 =>
  BinI .geq v17 (.int .i64 8) fun v34 =>
  Cnd v34 (BinI .geq v17 (.int .i64 50) fun v36 =>
  Cnd v36 (FnV pg (.func (.func 64) #[] #[]) #[a0, v22, v11, a3] fun v40 =>
  FnV pg (.func (.func 64) #[] #[]) #[a0, v27, v11, a3] fun v44 =>
  FnV pg (.func (.func 64) #[] #[]) #[a0, v32, v11, a3] fun v48 =>
  FnV pg (.func (.func 65) #[] #[]) #[a0, v40, v44, v48, v11, a3] fun v54 =>
  Ld1 v11 fun v55 =>
  BinI .eql v55 (.int .i64 0) fun v58 =>
  Cnd v58 (KR (.tuple #[v54, (.int .i64 1)]))
  (BinI .eql v55 (.int .i64 12) fun v61 =>
  Cnd v61 (KR (.tuple #[v54, (.int .i64 2)]))
  (KR (.tuple #[v54, (.int .i64 0)]))))
  (FnV pg (.func (.func 65) #[] #[]) #[a0, v22, v27, v32, v11, a3] fun v54_1 =>
  Ld1 v11 fun v55_1 =>
  BinI .eql v55_1 (.int .i64 0) fun v58_1 =>
  Cnd v58_1 (KR (.tuple #[v54_1, (.int .i64 1)]))
  (BinI .eql v55_1 (.int .i64 12) fun v61_1 =>
  Cnd v61_1 (KR (.tuple #[v54_1, (.int .i64 2)]))
  (KR (.tuple #[v54_1, (.int .i64 0)])))))
  (Ld1 v11 fun v55_2 =>
  BinI .eql v55_2 (.int .i64 0) fun v58_2 =>
  Cnd v58_2 (KR (.tuple #[v27, (.int .i64 1)]))
  (BinI .eql v55_2 (.int .i64 12) fun v61_2 =>
  Cnd v61_2 (KR (.tuple #[v27, (.int .i64 2)]))
  (KR (.tuple #[v27, (.int .i64 0)]))))
theorem V.slices_choosePivotCmpFunc_wait_ok {a0 a1 a2 a3 : Value} {K : Value → WP} {w : World} (h : V.slices_choosePivotCmpFunc_wait a0 a1 a2 a3 K w) : Cl pg 54 #[a0, a1, a2, a3] K w :=
  cl_of pg_mixed Try.func54 (args := [a0, a1, a2, a3]) (by kernel_rfl) (by rw [show WF pg Try.f54 [a0, a1, a2, a3] K = V.slices_choosePivotCmpFunc_wait a0 a1 a2 a3 K from by kernel_rfl]; exact h)

def V.slices_reverseRangeCmpFunc_wait (a0 a1 a2 _a3 : Value) (KR : Value → WP) : WP :=
  BinI .sub a2 (.int .i64 1) fun v12 =>
  LoopC [a1, v12] fun vK vs => AllE <|
  UN vs fun v8 vs =>
  UN vs fun v9 _ =>
  BinI .lss v8 v9 fun v15 =>
  Cnd v15 (Drw <| QtC fun I =>
  QE I (fun KK => IA 3 a0 v9 fun v22 =>
  KK v22) fun v22_1 =>
  QE I (fun KK => LdN 3 v22_1 fun v23 =>
  KK v23) fun v23_1 =>
  QE I (fun KK => IA 3 a0 v8 fun v26 =>
  KK v26) fun v26_1 =>
  QE I (fun KK => LdN 3 v26_1 fun v27 =>
  KK v27) fun v27_1 =>
  QE I (fun KK => IA 3 a0 v8 fun v28 =>
  KK v28) fun v28_1 =>
  St 3 v28_1 v23_1 fun _ =>
  IA 3 a0 v9 fun v29 =>
  St 3 v29 v27_1 fun _ =>
  BinI .add v8 (.int .i64 1) fun v31 =>
  BinI .sub v9 (.int .i64 1) fun v33 =>
  vK [v31, v33])
  (KR (.tuple #[]))
theorem V.slices_reverseRangeCmpFunc_wait_ok {a0 a1 a2 a3 : Value} {K : Value → WP} {w : World} (h : V.slices_reverseRangeCmpFunc_wait a0 a1 a2 a3 K w) : Cl pg 55 #[a0, a1, a2, a3] K w :=
  cl_of pg_mixed Try.func55 (args := [a0, a1, a2, a3]) (by kernel_rfl) (by rw [show WF pg Try.f55 [a0, a1, a2, a3] K = V.slices_reverseRangeCmpFunc_wait a0 a1 a2 a3 K from by kernel_rfl]; exact h)

def V.slices_partialInsertionSortCmpFunc_wait (a0 a1 a2 a3 : Value) (KR : Value → WP) : WP :=
  BinI .add a1 (.int .i64 1) fun v14 =>
  LoopC [v14, (.bool false), (.int .i64 0)] fun vK vs => AllE <|
  UN vs fun v9 vs =>
  UN vs fun v8 vs =>
  UN vs fun v10 _ =>
  BinI .lss v10 (.int .i64 5) fun v16 =>
  Cnd v16 (LoopC [v9] fun vK_1 vs => AllE <|
  UN vs fun v9_1 _ =>
  Drw <| QtC fun I =>
  BinI .lss v9_1 a2 fun v21 =>
  QtC fun I =>
  Grd v21 true (QE I (fun KK => IA 3 a0 v9_1 fun v26 =>
  KK v26) fun v26_1 =>
  QE I (fun KK => LdN 3 v26_1 fun v27 =>
  KK v27) fun v27_1 =>
  QE I (fun KK => BinI .sub v9_1 (.int .i64 1) fun v30 =>
  KK v30) fun v30_1 =>
  QE I (fun KK => IA 3 a0 v30_1 fun v31 =>
  KK v31) fun v31_1 =>
  QE I (fun KK => LdN 3 v31_1 fun v32 =>
  KK v32) fun v32_1 =>
  FnV pg a3 #[v27_1, v32_1] fun v33 =>
  BinI .lss v33 (.int .i64 0) fun v34 =>
  Un .not v34 fun v35 =>
  Cnd v35 (BinI .add v9_1 (.int .i64 1) fun v38 =>
  vK_1 [v38])
  (BinI .eql v9_1 a2 fun v41 =>
  Cnd v41 (KR (.bool true))
  (BinI .sub a2 a1 fun v44 =>
  BinI .lss v44 (.int .i64 50) fun v45 =>
  Cnd v45 (KR (.bool false))
  (Drw <| QtC fun I =>
  QE I (fun KK => BinI .sub v9_1 (.int .i64 1) fun v50 =>
  KK v50) fun v50_1 =>
  QE I (fun KK => BinI .sub v9_1 (.int .i64 1) fun v53 =>
  KK v53) fun v53_1 =>
  QE I (fun KK => IA 3 a0 v53_1 fun v54 =>
  KK v54) fun v54_1 =>
  QE I (fun KK => LdN 3 v54_1 fun v55 =>
  KK v55) fun v55_1 =>
  QE I (fun KK => IA 3 a0 v9_1 fun v58 =>
  KK v58) fun v58_1 =>
  QE I (fun KK => LdN 3 v58_1 fun v59 =>
  KK v59) fun v59_1 =>
  QE I (fun KK => IA 3 a0 v9_1 fun v60 =>
  KK v60) fun v60_1 =>
  St 3 v60_1 v55_1 fun _ =>
  CH I <|
  IA 3 a0 v50_1 fun v61 =>
  St 3 v61 v59_1 fun _ =>
  JoinC (fun _ => AllE (BinI .sub a2 v9_1 fun v103 =>
  BinI .geq v103 (.int .i64 2) fun v104 =>
  Cnd v104 (BinI .add v9_1 (.int .i64 1) fun v106 =>
  LoopC [v106] fun vK_2 vs => AllE <|
  UN vs fun v12 _ =>
  BinI .lss v12 a2 fun v109 =>
  Cnd v109 (Drw <| QtC fun I =>
  QE I (fun KK => IA 3 a0 v12 fun v115 =>
  KK v115) fun v115_1 =>
  QE I (fun KK => LdN 3 v115_1 fun v116 =>
  KK v116) fun v116_1 =>
  QE I (fun KK => BinI .sub v12 (.int .i64 1) fun v119 =>
  KK v119) fun v119_1 =>
  QE I (fun KK => IA 3 a0 v119_1 fun v120 =>
  KK v120) fun v120_1 =>
  QE I (fun KK => LdN 3 v120_1 fun v121 =>
  KK v121) fun v121_1 =>
  FnV pg a3 #[v116_1, v121_1] fun v122 =>
  BinI .lss v122 (.int .i64 0) fun v123 =>
  Un .not v123 fun v124 =>
  Cnd v124 (BinI .add v10 (.int .i64 1) fun v18 =>
  vK [v9_1, v8, v18])
  (Drw <| QtC fun I =>
  QE I (fun KK => BinI .sub v12 (.int .i64 1) fun v129 =>
  KK v129) fun v129_1 =>
  QE I (fun KK => BinI .sub v12 (.int .i64 1) fun v132 =>
  KK v132) fun v132_1 =>
  QE I (fun KK => IA 3 a0 v132_1 fun v133 =>
  KK v133) fun v133_1 =>
  QE I (fun KK => LdN 3 v133_1 fun v134 =>
  KK v134) fun v134_1 =>
  QE I (fun KK => IA 3 a0 v12 fun v137 =>
  KK v137) fun v137_1 =>
  QE I (fun KK => LdN 3 v137_1 fun v138 =>
  KK v138) fun v138_1 =>
  QE I (fun KK => IA 3 a0 v12 fun v139 =>
  KK v139) fun v139_1 =>
  St 3 v139_1 v134_1 fun _ =>
  CH I <|
  IA 3 a0 v129_1 fun v140 =>
  St 3 v140 v138_1 fun _ =>
  BinI .add v12 (.int .i64 1) fun v111 =>
  vK_2 [v111]))
  (BinI .add v10 (.int .i64 1) fun v18_1 =>
  vK [v9_1, v8, v18_1]))
  (BinI .add v10 (.int .i64 1) fun v18_2 =>
  vK [v9_1, v8, v18_2])))
  fun vK_3 =>
  BinI .sub v9_1 a1 fun v64 =>
  BinI .geq v64 (.int .i64 2) fun v65 =>
  Cnd v65 (BinI .sub v9_1 (.int .i64 1) fun v67 =>
  LoopC [v67] fun vK_4 vs => AllE <|
  UN vs fun v11 _ =>
  BinI .geq v11 (.int .i64 1) fun v69 =>
  Cnd v69 (Drw <| QtC fun I =>
  QE I (fun KK => IA 3 a0 v11 fun v75 =>
  KK v75) fun v75_1 =>
  QE I (fun KK => LdN 3 v75_1 fun v76 =>
  KK v76) fun v76_1 =>
  QE I (fun KK => BinI .sub v11 (.int .i64 1) fun v79 =>
  KK v79) fun v79_1 =>
  QE I (fun KK => IA 3 a0 v79_1 fun v80 =>
  KK v80) fun v80_1 =>
  QE I (fun KK => LdN 3 v80_1 fun v81 =>
  KK v81) fun v81_1 =>
  FnV pg a3 #[v76_1, v81_1] fun v82 =>
  BinI .lss v82 (.int .i64 0) fun v83 =>
  Un .not v83 fun v84 =>
  Cnd v84 (vK_3 [])
  (Drw <| QtC fun I =>
  QE I (fun KK => BinI .sub v11 (.int .i64 1) fun v89 =>
  KK v89) fun v89_1 =>
  QE I (fun KK => BinI .sub v11 (.int .i64 1) fun v92 =>
  KK v92) fun v92_1 =>
  QE I (fun KK => IA 3 a0 v92_1 fun v93 =>
  KK v93) fun v93_1 =>
  QE I (fun KK => LdN 3 v93_1 fun v94 =>
  KK v94) fun v94_1 =>
  QE I (fun KK => IA 3 a0 v11 fun v97 =>
  KK v97) fun v97_1 =>
  QE I (fun KK => LdN 3 v97_1 fun v98 =>
  KK v98) fun v98_1 =>
  QE I (fun KK => IA 3 a0 v11 fun v99 =>
  KK v99) fun v99_1 =>
  St 3 v99_1 v94_1 fun _ =>
  CH I <|
  IA 3 a0 v89_1 fun v100 =>
  St 3 v100 v98_1 fun _ =>
  BinI .sub v11 (.int .i64 1) fun v71 =>
  vK_4 [v71]))
  (vK_3 []))
  (vK_3 [])))))
  (BinI .eql v9_1 a2 fun v41_1 =>
  Cnd v41_1 (KR (.bool true))
  (BinI .sub a2 a1 fun v44_1 =>
  BinI .lss v44_1 (.int .i64 50) fun v45_1 =>
  Cnd v45_1 (KR (.bool false))
  (Drw <| QtC fun I =>
  QE I (fun KK => BinI .sub v9_1 (.int .i64 1) fun v50_2 =>
  KK v50_2) fun v50_3 =>
  QE I (fun KK => BinI .sub v9_1 (.int .i64 1) fun v53_2 =>
  KK v53_2) fun v53_3 =>
  QE I (fun KK => IA 3 a0 v53_3 fun v54_2 =>
  KK v54_2) fun v54_3 =>
  QE I (fun KK => LdN 3 v54_3 fun v55_2 =>
  KK v55_2) fun v55_3 =>
  QE I (fun KK => IA 3 a0 v9_1 fun v58_2 =>
  KK v58_2) fun v58_3 =>
  QE I (fun KK => LdN 3 v58_3 fun v59_2 =>
  KK v59_2) fun v59_3 =>
  QE I (fun KK => IA 3 a0 v9_1 fun v60_2 =>
  KK v60_2) fun v60_3 =>
  St 3 v60_3 v55_3 fun _ =>
  CH I <|
  IA 3 a0 v50_3 fun v61_1 =>
  St 3 v61_1 v59_3 fun _ =>
  JoinC (fun _ => AllE (BinI .sub a2 v9_1 fun v103_1 =>
  BinI .geq v103_1 (.int .i64 2) fun v104_1 =>
  Cnd v104_1 (BinI .add v9_1 (.int .i64 1) fun v106_1 =>
  LoopC [v106_1] fun vK_5 vs => AllE <|
  UN vs fun v12_1 _ =>
  BinI .lss v12_1 a2 fun v109_1 =>
  Cnd v109_1 (Drw <| QtC fun I =>
  QE I (fun KK => IA 3 a0 v12_1 fun v115_2 =>
  KK v115_2) fun v115_3 =>
  QE I (fun KK => LdN 3 v115_3 fun v116_2 =>
  KK v116_2) fun v116_3 =>
  QE I (fun KK => BinI .sub v12_1 (.int .i64 1) fun v119_2 =>
  KK v119_2) fun v119_3 =>
  QE I (fun KK => IA 3 a0 v119_3 fun v120_2 =>
  KK v120_2) fun v120_3 =>
  QE I (fun KK => LdN 3 v120_3 fun v121_2 =>
  KK v121_2) fun v121_3 =>
  FnV pg a3 #[v116_3, v121_3] fun v122_1 =>
  BinI .lss v122_1 (.int .i64 0) fun v123_1 =>
  Un .not v123_1 fun v124_1 =>
  Cnd v124_1 (BinI .add v10 (.int .i64 1) fun v18_3 =>
  vK [v9_1, v8, v18_3])
  (Drw <| QtC fun I =>
  QE I (fun KK => BinI .sub v12_1 (.int .i64 1) fun v129_2 =>
  KK v129_2) fun v129_3 =>
  QE I (fun KK => BinI .sub v12_1 (.int .i64 1) fun v132_2 =>
  KK v132_2) fun v132_3 =>
  QE I (fun KK => IA 3 a0 v132_3 fun v133_2 =>
  KK v133_2) fun v133_3 =>
  QE I (fun KK => LdN 3 v133_3 fun v134_2 =>
  KK v134_2) fun v134_3 =>
  QE I (fun KK => IA 3 a0 v12_1 fun v137_2 =>
  KK v137_2) fun v137_3 =>
  QE I (fun KK => LdN 3 v137_3 fun v138_2 =>
  KK v138_2) fun v138_3 =>
  QE I (fun KK => IA 3 a0 v12_1 fun v139_2 =>
  KK v139_2) fun v139_3 =>
  St 3 v139_3 v134_3 fun _ =>
  CH I <|
  IA 3 a0 v129_3 fun v140_1 =>
  St 3 v140_1 v138_3 fun _ =>
  BinI .add v12_1 (.int .i64 1) fun v111_1 =>
  vK_5 [v111_1]))
  (BinI .add v10 (.int .i64 1) fun v18_4 =>
  vK [v9_1, v8, v18_4]))
  (BinI .add v10 (.int .i64 1) fun v18_5 =>
  vK [v9_1, v8, v18_5])))
  fun vK_6 =>
  BinI .sub v9_1 a1 fun v64_1 =>
  BinI .geq v64_1 (.int .i64 2) fun v65_1 =>
  Cnd v65_1 (BinI .sub v9_1 (.int .i64 1) fun v67_1 =>
  LoopC [v67_1] fun vK_7 vs => AllE <|
  UN vs fun v11_1 _ =>
  BinI .geq v11_1 (.int .i64 1) fun v69_1 =>
  Cnd v69_1 (Drw <| QtC fun I =>
  QE I (fun KK => IA 3 a0 v11_1 fun v75_2 =>
  KK v75_2) fun v75_3 =>
  QE I (fun KK => LdN 3 v75_3 fun v76_2 =>
  KK v76_2) fun v76_3 =>
  QE I (fun KK => BinI .sub v11_1 (.int .i64 1) fun v79_2 =>
  KK v79_2) fun v79_3 =>
  QE I (fun KK => IA 3 a0 v79_3 fun v80_2 =>
  KK v80_2) fun v80_3 =>
  QE I (fun KK => LdN 3 v80_3 fun v81_2 =>
  KK v81_2) fun v81_3 =>
  FnV pg a3 #[v76_3, v81_3] fun v82_1 =>
  BinI .lss v82_1 (.int .i64 0) fun v83_1 =>
  Un .not v83_1 fun v84_1 =>
  Cnd v84_1 (vK_6 [])
  (Drw <| QtC fun I =>
  QE I (fun KK => BinI .sub v11_1 (.int .i64 1) fun v89_2 =>
  KK v89_2) fun v89_3 =>
  QE I (fun KK => BinI .sub v11_1 (.int .i64 1) fun v92_2 =>
  KK v92_2) fun v92_3 =>
  QE I (fun KK => IA 3 a0 v92_3 fun v93_2 =>
  KK v93_2) fun v93_3 =>
  QE I (fun KK => LdN 3 v93_3 fun v94_2 =>
  KK v94_2) fun v94_3 =>
  QE I (fun KK => IA 3 a0 v11_1 fun v97_2 =>
  KK v97_2) fun v97_3 =>
  QE I (fun KK => LdN 3 v97_3 fun v98_2 =>
  KK v98_2) fun v98_3 =>
  QE I (fun KK => IA 3 a0 v11_1 fun v99_2 =>
  KK v99_2) fun v99_3 =>
  St 3 v99_3 v94_3 fun _ =>
  CH I <|
  IA 3 a0 v89_3 fun v100_1 =>
  St 3 v100_1 v98_3 fun _ =>
  BinI .sub v11_1 (.int .i64 1) fun v71_1 =>
  vK_7 [v71_1]))
  (vK_6 []))
  (vK_6 [])))))
  (KR (.bool false))
theorem V.slices_partialInsertionSortCmpFunc_wait_ok {a0 a1 a2 a3 : Value} {K : Value → WP} {w : World} (h : V.slices_partialInsertionSortCmpFunc_wait a0 a1 a2 a3 K w) : Cl pg 56 #[a0, a1, a2, a3] K w :=
  cl_of pg_mixed Try.func56 (args := [a0, a1, a2, a3]) (by kernel_rfl) (by rw [show WF pg Try.f56 [a0, a1, a2, a3] K = V.slices_partialInsertionSortCmpFunc_wait a0 a1 a2 a3 K from by kernel_rfl]; exact h)

def V.slices_partitionEqualCmpFunc_wait (a0 a1 a2 a3 a4 : Value) (KR : Value → WP) : WP :=
  Drw <| QtC fun I =>
  QE I (fun KK => IA 3 a0 a3 fun v19 =>
  KK v19) fun v19_1 =>
  QE I (fun KK => LdN 3 v19_1 fun v20 =>
  KK v20) fun v20_1 =>
  QE I (fun KK => IA 3 a0 a1 fun v23 =>
  KK v23) fun v23_1 =>
  QE I (fun KK => LdN 3 v23_1 fun v24 =>
  KK v24) fun v24_1 =>
  QE I (fun KK => IA 3 a0 a1 fun v25 =>
  KK v25) fun v25_1 =>
  St 3 v25_1 v20_1 fun _ =>
  IA 3 a0 a3 fun v26 =>
  St 3 v26 v24_1 fun _ =>
  BinI .add a1 (.int .i64 1) fun v28 =>
  BinI .sub a2 (.int .i64 1) fun v30 =>
  LoopC [v28, v30] fun vK vs => AllE <|
  UN vs fun v11 vs =>
  UN vs fun v12 _ =>
  LoopC [v11] fun vK_1 vs => AllE <|
  UN vs fun v11_1 _ =>
  Drw <| QtC fun I =>
  BinI .leq v11_1 v12 fun v33 =>
  QtC fun I =>
  Grd v33 true (QE I (fun KK => IA 3 a0 a1 fun v38 =>
  KK v38) fun v38_1 =>
  QE I (fun KK => LdN 3 v38_1 fun v39 =>
  KK v39) fun v39_1 =>
  QE I (fun KK => IA 3 a0 v11_1 fun v42 =>
  KK v42) fun v42_1 =>
  QE I (fun KK => LdN 3 v42_1 fun v43 =>
  KK v43) fun v43_1 =>
  FnV pg a4 #[v39_1, v43_1] fun v44 =>
  BinI .lss v44 (.int .i64 0) fun v45 =>
  Un .not v45 fun v46 =>
  Cnd v46 (BinI .add v11_1 (.int .i64 1) fun v49 =>
  vK_1 [v49])
  (LoopC [v12] fun vK_2 vs => AllE <|
  UN vs fun v12_1 _ =>
  Drw <| QtC fun I =>
  BinI .leq v11_1 v12_1 fun v52 =>
  QtC fun I =>
  Grd v52 true (QE I (fun KK => IA 3 a0 a1 fun v57 =>
  KK v57) fun v57_1 =>
  QE I (fun KK => LdN 3 v57_1 fun v58 =>
  KK v58) fun v58_1 =>
  QE I (fun KK => IA 3 a0 v12_1 fun v61 =>
  KK v61) fun v61_1 =>
  QE I (fun KK => LdN 3 v61_1 fun v62 =>
  KK v62) fun v62_1 =>
  FnV pg a4 #[v58_1, v62_1] fun v63 =>
  BinI .lss v63 (.int .i64 0) fun v64 =>
  Cnd v64 (BinI .sub v12_1 (.int .i64 1) fun v67 =>
  vK_2 [v67])
  (BinI .gtr v11_1 v12_1 fun v70 =>
  Cnd v70 (KR v11_1)
  (Drw <| QtC fun I =>
  QE I (fun KK => IA 3 a0 v12_1 fun v77 =>
  KK v77) fun v77_1 =>
  QE I (fun KK => LdN 3 v77_1 fun v78 =>
  KK v78) fun v78_1 =>
  QE I (fun KK => IA 3 a0 v11_1 fun v81 =>
  KK v81) fun v81_1 =>
  QE I (fun KK => LdN 3 v81_1 fun v82 =>
  KK v82) fun v82_1 =>
  QE I (fun KK => IA 3 a0 v11_1 fun v83 =>
  KK v83) fun v83_1 =>
  St 3 v83_1 v78_1 fun _ =>
  IA 3 a0 v12_1 fun v84 =>
  St 3 v84 v82_1 fun _ =>
  BinI .add v11_1 (.int .i64 1) fun v86 =>
  BinI .sub v12_1 (.int .i64 1) fun v88 =>
  vK [v86, v88])))
  (BinI .gtr v11_1 v12_1 fun v70_1 =>
  Cnd v70_1 (KR v11_1)
  (Drw <| QtC fun I =>
  QE I (fun KK => IA 3 a0 v12_1 fun v77_2 =>
  KK v77_2) fun v77_3 =>
  QE I (fun KK => LdN 3 v77_3 fun v78_2 =>
  KK v78_2) fun v78_3 =>
  QE I (fun KK => IA 3 a0 v11_1 fun v81_2 =>
  KK v81_2) fun v81_3 =>
  QE I (fun KK => LdN 3 v81_3 fun v82_2 =>
  KK v82_2) fun v82_3 =>
  QE I (fun KK => IA 3 a0 v11_1 fun v83_2 =>
  KK v83_2) fun v83_3 =>
  St 3 v83_3 v78_3 fun _ =>
  IA 3 a0 v12_1 fun v84_1 =>
  St 3 v84_1 v82_3 fun _ =>
  BinI .add v11_1 (.int .i64 1) fun v86_1 =>
  BinI .sub v12_1 (.int .i64 1) fun v88_1 =>
  vK [v86_1, v88_1]))))
  (LoopC [v12] fun vK_3 vs => AllE <|
  UN vs fun v12_2 _ =>
  Drw <| QtC fun I =>
  BinI .leq v11_1 v12_2 fun v52_1 =>
  QtC fun I =>
  Grd v52_1 true (QE I (fun KK => IA 3 a0 a1 fun v57_2 =>
  KK v57_2) fun v57_3 =>
  QE I (fun KK => LdN 3 v57_3 fun v58_2 =>
  KK v58_2) fun v58_3 =>
  QE I (fun KK => IA 3 a0 v12_2 fun v61_2 =>
  KK v61_2) fun v61_3 =>
  QE I (fun KK => LdN 3 v61_3 fun v62_2 =>
  KK v62_2) fun v62_3 =>
  FnV pg a4 #[v58_3, v62_3] fun v63_1 =>
  BinI .lss v63_1 (.int .i64 0) fun v64_1 =>
  Cnd v64_1 (BinI .sub v12_2 (.int .i64 1) fun v67_1 =>
  vK_3 [v67_1])
  (BinI .gtr v11_1 v12_2 fun v70_2 =>
  Cnd v70_2 (KR v11_1)
  (Drw <| QtC fun I =>
  QE I (fun KK => IA 3 a0 v12_2 fun v77_4 =>
  KK v77_4) fun v77_5 =>
  QE I (fun KK => LdN 3 v77_5 fun v78_4 =>
  KK v78_4) fun v78_5 =>
  QE I (fun KK => IA 3 a0 v11_1 fun v81_4 =>
  KK v81_4) fun v81_5 =>
  QE I (fun KK => LdN 3 v81_5 fun v82_4 =>
  KK v82_4) fun v82_5 =>
  QE I (fun KK => IA 3 a0 v11_1 fun v83_4 =>
  KK v83_4) fun v83_5 =>
  St 3 v83_5 v78_5 fun _ =>
  IA 3 a0 v12_2 fun v84_2 =>
  St 3 v84_2 v82_5 fun _ =>
  BinI .add v11_1 (.int .i64 1) fun v86_2 =>
  BinI .sub v12_2 (.int .i64 1) fun v88_2 =>
  vK [v86_2, v88_2])))
  (BinI .gtr v11_1 v12_2 fun v70_3 =>
  Cnd v70_3 (KR v11_1)
  (Drw <| QtC fun I =>
  QE I (fun KK => IA 3 a0 v12_2 fun v77_6 =>
  KK v77_6) fun v77_7 =>
  QE I (fun KK => LdN 3 v77_7 fun v78_6 =>
  KK v78_6) fun v78_7 =>
  QE I (fun KK => IA 3 a0 v11_1 fun v81_6 =>
  KK v81_6) fun v81_7 =>
  QE I (fun KK => LdN 3 v81_7 fun v82_6 =>
  KK v82_6) fun v82_7 =>
  QE I (fun KK => IA 3 a0 v11_1 fun v83_6 =>
  KK v83_6) fun v83_7 =>
  St 3 v83_7 v78_7 fun _ =>
  IA 3 a0 v12_2 fun v84_3 =>
  St 3 v84_3 v82_7 fun _ =>
  BinI .add v11_1 (.int .i64 1) fun v86_3 =>
  BinI .sub v12_2 (.int .i64 1) fun v88_3 =>
  vK [v86_3, v88_3])))
theorem V.slices_partitionEqualCmpFunc_wait_ok {a0 a1 a2 a3 a4 : Value} {K : Value → WP} {w : World} (h : V.slices_partitionEqualCmpFunc_wait a0 a1 a2 a3 a4 K w) : Cl pg 57 #[a0, a1, a2, a3, a4] K w :=
  cl_of pg_mixed Try.func57 (args := [a0, a1, a2, a3, a4]) (by kernel_rfl) (by rw [show WF pg Try.f57 [a0, a1, a2, a3, a4] K = V.slices_partitionEqualCmpFunc_wait a0 a1 a2 a3 a4 K from by kernel_rfl]; exact h)

def V.slices_partitionCmpFunc_wait (a0 a1 a2 a3 a4 : Value) (KR : Value → WP) : WP :=
  Drw <| QtC fun I =>
  QE I (fun KK => IA 3 a0 a3 fun v20 =>
  KK v20) fun v20_1 =>
  QE I (fun KK => LdN 3 v20_1 fun v21 =>
  KK v21) fun v21_1 =>
  QE I (fun KK => IA 3 a0 a1 fun v24 =>
  KK v24) fun v24_1 =>
  QE I (fun KK => LdN 3 v24_1 fun v25 =>
  KK v25) fun v25_1 =>
  QE I (fun KK => IA 3 a0 a1 fun v26 =>
  KK v26) fun v26_1 =>
  St 3 v26_1 v21_1 fun _ =>
  IA 3 a0 a3 fun v27 =>
  St 3 v27 v25_1 fun _ =>
  BinI .add a1 (.int .i64 1) fun v29 =>
  BinI .sub a2 (.int .i64 1) fun v31 =>
  LoopC [v29] fun vK vs => AllE <|
  UN vs fun v12 _ =>
  Drw <| QtC fun I =>
  BinI .leq v12 v31 fun v34 =>
  QtC fun I =>
  Grd v34 true (QE I (fun KK => IA 3 a0 v12 fun v39 =>
  KK v39) fun v39_1 =>
  QE I (fun KK => LdN 3 v39_1 fun v40 =>
  KK v40) fun v40_1 =>
  QE I (fun KK => IA 3 a0 a1 fun v43 =>
  KK v43) fun v43_1 =>
  QE I (fun KK => LdN 3 v43_1 fun v44 =>
  KK v44) fun v44_1 =>
  FnV pg a4 #[v40_1, v44_1] fun v45 =>
  BinI .lss v45 (.int .i64 0) fun v46 =>
  Cnd v46 (BinI .add v12 (.int .i64 1) fun v49 =>
  vK [v49])
  (LoopC [v31] fun vK_1 vs => AllE <|
  UN vs fun v13 _ =>
  Drw <| QtC fun I =>
  BinI .leq v12 v13 fun v52 =>
  QtC fun I =>
  Grd v52 true (QE I (fun KK => IA 3 a0 v13 fun v57 =>
  KK v57) fun v57_1 =>
  QE I (fun KK => LdN 3 v57_1 fun v58 =>
  KK v58) fun v58_1 =>
  QE I (fun KK => IA 3 a0 a1 fun v61 =>
  KK v61) fun v61_1 =>
  QE I (fun KK => LdN 3 v61_1 fun v62 =>
  KK v62) fun v62_1 =>
  FnV pg a4 #[v58_1, v62_1] fun v63 =>
  BinI .lss v63 (.int .i64 0) fun v64 =>
  Un .not v64 fun v65 =>
  Cnd v65 (BinI .sub v13 (.int .i64 1) fun v68 =>
  vK_1 [v68])
  (BinI .gtr v12 v13 fun v71 =>
  Cnd v71 (Drw <| QtC fun I =>
  QE I (fun KK => IA 3 a0 a1 fun v78 =>
  KK v78) fun v78_1 =>
  QE I (fun KK => LdN 3 v78_1 fun v79 =>
  KK v79) fun v79_1 =>
  QE I (fun KK => IA 3 a0 v13 fun v82 =>
  KK v82) fun v82_1 =>
  QE I (fun KK => LdN 3 v82_1 fun v83 =>
  KK v83) fun v83_1 =>
  QE I (fun KK => IA 3 a0 v13 fun v84 =>
  KK v84) fun v84_1 =>
  St 3 v84_1 v79_1 fun _ =>
  IA 3 a0 a1 fun v85 =>
  St 3 v85 v83_1 fun _ =>
  KR (.tuple #[v13, (.bool true)]))
  (Drw <| QtC fun I =>
  QE I (fun KK => IA 3 a0 v13 fun v93 =>
  KK v93) fun v93_1 =>
  QE I (fun KK => LdN 3 v93_1 fun v94 =>
  KK v94) fun v94_1 =>
  QE I (fun KK => IA 3 a0 v12 fun v97 =>
  KK v97) fun v97_1 =>
  QE I (fun KK => LdN 3 v97_1 fun v98 =>
  KK v98) fun v98_1 =>
  QE I (fun KK => IA 3 a0 v12 fun v99 =>
  KK v99) fun v99_1 =>
  St 3 v99_1 v94_1 fun _ =>
  IA 3 a0 v13 fun v100 =>
  St 3 v100 v98_1 fun _ =>
  BinI .add v12 (.int .i64 1) fun v102 =>
  BinI .sub v13 (.int .i64 1) fun v104 =>
  LoopC [v102, v104] fun vK_2 vs => AllE <|
  UN vs fun v12_1 vs =>
  UN vs fun v13_1 _ =>
  LoopC [v12_1] fun vK_3 vs => AllE <|
  UN vs fun v12_2 _ =>
  Drw <| QtC fun I =>
  BinI .leq v12_2 v13_1 fun v107 =>
  QtC fun I =>
  Grd v107 true (QE I (fun KK => IA 3 a0 v12_2 fun v112 =>
  KK v112) fun v112_1 =>
  QE I (fun KK => LdN 3 v112_1 fun v113 =>
  KK v113) fun v113_1 =>
  QE I (fun KK => IA 3 a0 a1 fun v116 =>
  KK v116) fun v116_1 =>
  QE I (fun KK => LdN 3 v116_1 fun v117 =>
  KK v117) fun v117_1 =>
  FnV pg a4 #[v113_1, v117_1] fun v118 =>
  BinI .lss v118 (.int .i64 0) fun v119 =>
  Cnd v119 (BinI .add v12_2 (.int .i64 1) fun v122 =>
  vK_3 [v122])
  (LoopC [v13_1] fun vK_4 vs => AllE <|
  UN vs fun v13_2 _ =>
  Drw <| QtC fun I =>
  BinI .leq v12_2 v13_2 fun v125 =>
  QtC fun I =>
  Grd v125 true (QE I (fun KK => IA 3 a0 v13_2 fun v130 =>
  KK v130) fun v130_1 =>
  QE I (fun KK => LdN 3 v130_1 fun v131 =>
  KK v131) fun v131_1 =>
  QE I (fun KK => IA 3 a0 a1 fun v134 =>
  KK v134) fun v134_1 =>
  QE I (fun KK => LdN 3 v134_1 fun v135 =>
  KK v135) fun v135_1 =>
  FnV pg a4 #[v131_1, v135_1] fun v136 =>
  BinI .lss v136 (.int .i64 0) fun v137 =>
  Un .not v137 fun v138 =>
  Cnd v138 (BinI .sub v13_2 (.int .i64 1) fun v141 =>
  vK_4 [v141])
  (BinI .gtr v12_2 v13_2 fun v144 =>
  Cnd v144 (Drw <| QtC fun I =>
  QE I (fun KK => IA 3 a0 a1 fun v169 =>
  KK v169) fun v169_1 =>
  QE I (fun KK => LdN 3 v169_1 fun v170 =>
  KK v170) fun v170_1 =>
  QE I (fun KK => IA 3 a0 v13_2 fun v173 =>
  KK v173) fun v173_1 =>
  QE I (fun KK => LdN 3 v173_1 fun v174 =>
  KK v174) fun v174_1 =>
  QE I (fun KK => IA 3 a0 v13_2 fun v175 =>
  KK v175) fun v175_1 =>
  St 3 v175_1 v170_1 fun _ =>
  IA 3 a0 a1 fun v176 =>
  St 3 v176 v174_1 fun _ =>
  KR (.tuple #[v13_2, (.bool false)]))
  (Drw <| QtC fun I =>
  QE I (fun KK => IA 3 a0 v13_2 fun v151 =>
  KK v151) fun v151_1 =>
  QE I (fun KK => LdN 3 v151_1 fun v152 =>
  KK v152) fun v152_1 =>
  QE I (fun KK => IA 3 a0 v12_2 fun v155 =>
  KK v155) fun v155_1 =>
  QE I (fun KK => LdN 3 v155_1 fun v156 =>
  KK v156) fun v156_1 =>
  QE I (fun KK => IA 3 a0 v12_2 fun v157 =>
  KK v157) fun v157_1 =>
  St 3 v157_1 v152_1 fun _ =>
  IA 3 a0 v13_2 fun v158 =>
  St 3 v158 v156_1 fun _ =>
  BinI .add v12_2 (.int .i64 1) fun v160 =>
  BinI .sub v13_2 (.int .i64 1) fun v162 =>
  vK_2 [v160, v162])))
  (BinI .gtr v12_2 v13_2 fun v144_1 =>
  Cnd v144_1 (Drw <| QtC fun I =>
  QE I (fun KK => IA 3 a0 a1 fun v169_2 =>
  KK v169_2) fun v169_3 =>
  QE I (fun KK => LdN 3 v169_3 fun v170_2 =>
  KK v170_2) fun v170_3 =>
  QE I (fun KK => IA 3 a0 v13_2 fun v173_2 =>
  KK v173_2) fun v173_3 =>
  QE I (fun KK => LdN 3 v173_3 fun v174_2 =>
  KK v174_2) fun v174_3 =>
  QE I (fun KK => IA 3 a0 v13_2 fun v175_2 =>
  KK v175_2) fun v175_3 =>
  St 3 v175_3 v170_3 fun _ =>
  IA 3 a0 a1 fun v176_1 =>
  St 3 v176_1 v174_3 fun _ =>
  KR (.tuple #[v13_2, (.bool false)]))
  (Drw <| QtC fun I =>
  QE I (fun KK => IA 3 a0 v13_2 fun v151_2 =>
  KK v151_2) fun v151_3 =>
  QE I (fun KK => LdN 3 v151_3 fun v152_2 =>
  KK v152_2) fun v152_3 =>
  QE I (fun KK => IA 3 a0 v12_2 fun v155_2 =>
  KK v155_2) fun v155_3 =>
  QE I (fun KK => LdN 3 v155_3 fun v156_2 =>
  KK v156_2) fun v156_3 =>
  QE I (fun KK => IA 3 a0 v12_2 fun v157_2 =>
  KK v157_2) fun v157_3 =>
  St 3 v157_3 v152_3 fun _ =>
  IA 3 a0 v13_2 fun v158_1 =>
  St 3 v158_1 v156_3 fun _ =>
  BinI .add v12_2 (.int .i64 1) fun v160_1 =>
  BinI .sub v13_2 (.int .i64 1) fun v162_1 =>
  vK_2 [v160_1, v162_1]))))
  (LoopC [v13_1] fun vK_5 vs => AllE <|
  UN vs fun v13_3 _ =>
  Drw <| QtC fun I =>
  BinI .leq v12_2 v13_3 fun v125_1 =>
  QtC fun I =>
  Grd v125_1 true (QE I (fun KK => IA 3 a0 v13_3 fun v130_2 =>
  KK v130_2) fun v130_3 =>
  QE I (fun KK => LdN 3 v130_3 fun v131_2 =>
  KK v131_2) fun v131_3 =>
  QE I (fun KK => IA 3 a0 a1 fun v134_2 =>
  KK v134_2) fun v134_3 =>
  QE I (fun KK => LdN 3 v134_3 fun v135_2 =>
  KK v135_2) fun v135_3 =>
  FnV pg a4 #[v131_3, v135_3] fun v136_1 =>
  BinI .lss v136_1 (.int .i64 0) fun v137_1 =>
  Un .not v137_1 fun v138_1 =>
  Cnd v138_1 (BinI .sub v13_3 (.int .i64 1) fun v141_1 =>
  vK_5 [v141_1])
  (BinI .gtr v12_2 v13_3 fun v144_2 =>
  Cnd v144_2 (Drw <| QtC fun I =>
  QE I (fun KK => IA 3 a0 a1 fun v169_4 =>
  KK v169_4) fun v169_5 =>
  QE I (fun KK => LdN 3 v169_5 fun v170_4 =>
  KK v170_4) fun v170_5 =>
  QE I (fun KK => IA 3 a0 v13_3 fun v173_4 =>
  KK v173_4) fun v173_5 =>
  QE I (fun KK => LdN 3 v173_5 fun v174_4 =>
  KK v174_4) fun v174_5 =>
  QE I (fun KK => IA 3 a0 v13_3 fun v175_4 =>
  KK v175_4) fun v175_5 =>
  St 3 v175_5 v170_5 fun _ =>
  IA 3 a0 a1 fun v176_2 =>
  St 3 v176_2 v174_5 fun _ =>
  KR (.tuple #[v13_3, (.bool false)]))
  (Drw <| QtC fun I =>
  QE I (fun KK => IA 3 a0 v13_3 fun v151_4 =>
  KK v151_4) fun v151_5 =>
  QE I (fun KK => LdN 3 v151_5 fun v152_4 =>
  KK v152_4) fun v152_5 =>
  QE I (fun KK => IA 3 a0 v12_2 fun v155_4 =>
  KK v155_4) fun v155_5 =>
  QE I (fun KK => LdN 3 v155_5 fun v156_4 =>
  KK v156_4) fun v156_5 =>
  QE I (fun KK => IA 3 a0 v12_2 fun v157_4 =>
  KK v157_4) fun v157_5 =>
  St 3 v157_5 v152_5 fun _ =>
  IA 3 a0 v13_3 fun v158_2 =>
  St 3 v158_2 v156_5 fun _ =>
  BinI .add v12_2 (.int .i64 1) fun v160_2 =>
  BinI .sub v13_3 (.int .i64 1) fun v162_2 =>
  vK_2 [v160_2, v162_2])))
  (BinI .gtr v12_2 v13_3 fun v144_3 =>
  Cnd v144_3 (Drw <| QtC fun I =>
  QE I (fun KK => IA 3 a0 a1 fun v169_6 =>
  KK v169_6) fun v169_7 =>
  QE I (fun KK => LdN 3 v169_7 fun v170_6 =>
  KK v170_6) fun v170_7 =>
  QE I (fun KK => IA 3 a0 v13_3 fun v173_6 =>
  KK v173_6) fun v173_7 =>
  QE I (fun KK => LdN 3 v173_7 fun v174_6 =>
  KK v174_6) fun v174_7 =>
  QE I (fun KK => IA 3 a0 v13_3 fun v175_6 =>
  KK v175_6) fun v175_7 =>
  St 3 v175_7 v170_7 fun _ =>
  IA 3 a0 a1 fun v176_3 =>
  St 3 v176_3 v174_7 fun _ =>
  KR (.tuple #[v13_3, (.bool false)]))
  (Drw <| QtC fun I =>
  QE I (fun KK => IA 3 a0 v13_3 fun v151_6 =>
  KK v151_6) fun v151_7 =>
  QE I (fun KK => LdN 3 v151_7 fun v152_6 =>
  KK v152_6) fun v152_7 =>
  QE I (fun KK => IA 3 a0 v12_2 fun v155_6 =>
  KK v155_6) fun v155_7 =>
  QE I (fun KK => LdN 3 v155_7 fun v156_6 =>
  KK v156_6) fun v156_7 =>
  QE I (fun KK => IA 3 a0 v12_2 fun v157_6 =>
  KK v157_6) fun v157_7 =>
  St 3 v157_7 v152_7 fun _ =>
  IA 3 a0 v13_3 fun v158_3 =>
  St 3 v158_3 v156_7 fun _ =>
  BinI .add v12_2 (.int .i64 1) fun v160_3 =>
  BinI .sub v13_3 (.int .i64 1) fun v162_3 =>
  vK_2 [v160_3, v162_3]))))))
  (BinI .gtr v12 v13 fun v71_1 =>
  Cnd v71_1 (Drw <| QtC fun I =>
  QE I (fun KK => IA 3 a0 a1 fun v78_2 =>
  KK v78_2) fun v78_3 =>
  QE I (fun KK => LdN 3 v78_3 fun v79_2 =>
  KK v79_2) fun v79_3 =>
  QE I (fun KK => IA 3 a0 v13 fun v82_2 =>
  KK v82_2) fun v82_3 =>
  QE I (fun KK => LdN 3 v82_3 fun v83_2 =>
  KK v83_2) fun v83_3 =>
  QE I (fun KK => IA 3 a0 v13 fun v84_2 =>
  KK v84_2) fun v84_3 =>
  St 3 v84_3 v79_3 fun _ =>
  IA 3 a0 a1 fun v85_1 =>
  St 3 v85_1 v83_3 fun _ =>
  KR (.tuple #[v13, (.bool true)]))
  (Drw <| QtC fun I =>
  QE I (fun KK => IA 3 a0 v13 fun v93_2 =>
  KK v93_2) fun v93_3 =>
  QE I (fun KK => LdN 3 v93_3 fun v94_2 =>
  KK v94_2) fun v94_3 =>
  QE I (fun KK => IA 3 a0 v12 fun v97_2 =>
  KK v97_2) fun v97_3 =>
  QE I (fun KK => LdN 3 v97_3 fun v98_2 =>
  KK v98_2) fun v98_3 =>
  QE I (fun KK => IA 3 a0 v12 fun v99_2 =>
  KK v99_2) fun v99_3 =>
  St 3 v99_3 v94_3 fun _ =>
  IA 3 a0 v13 fun v100_1 =>
  St 3 v100_1 v98_3 fun _ =>
  BinI .add v12 (.int .i64 1) fun v102_1 =>
  BinI .sub v13 (.int .i64 1) fun v104_1 =>
  LoopC [v102_1, v104_1] fun vK_6 vs => AllE <|
  UN vs fun v12_3 vs =>
  UN vs fun v13_4 _ =>
  LoopC [v12_3] fun vK_7 vs => AllE <|
  UN vs fun v12_4 _ =>
  Drw <| QtC fun I =>
  BinI .leq v12_4 v13_4 fun v107_1 =>
  QtC fun I =>
  Grd v107_1 true (QE I (fun KK => IA 3 a0 v12_4 fun v112_2 =>
  KK v112_2) fun v112_3 =>
  QE I (fun KK => LdN 3 v112_3 fun v113_2 =>
  KK v113_2) fun v113_3 =>
  QE I (fun KK => IA 3 a0 a1 fun v116_2 =>
  KK v116_2) fun v116_3 =>
  QE I (fun KK => LdN 3 v116_3 fun v117_2 =>
  KK v117_2) fun v117_3 =>
  FnV pg a4 #[v113_3, v117_3] fun v118_1 =>
  BinI .lss v118_1 (.int .i64 0) fun v119_1 =>
  Cnd v119_1 (BinI .add v12_4 (.int .i64 1) fun v122_1 =>
  vK_7 [v122_1])
  (LoopC [v13_4] fun vK_8 vs => AllE <|
  UN vs fun v13_5 _ =>
  Drw <| QtC fun I =>
  BinI .leq v12_4 v13_5 fun v125_2 =>
  QtC fun I =>
  Grd v125_2 true (QE I (fun KK => IA 3 a0 v13_5 fun v130_4 =>
  KK v130_4) fun v130_5 =>
  QE I (fun KK => LdN 3 v130_5 fun v131_4 =>
  KK v131_4) fun v131_5 =>
  QE I (fun KK => IA 3 a0 a1 fun v134_4 =>
  KK v134_4) fun v134_5 =>
  QE I (fun KK => LdN 3 v134_5 fun v135_4 =>
  KK v135_4) fun v135_5 =>
  FnV pg a4 #[v131_5, v135_5] fun v136_2 =>
  BinI .lss v136_2 (.int .i64 0) fun v137_2 =>
  Un .not v137_2 fun v138_2 =>
  Cnd v138_2 (BinI .sub v13_5 (.int .i64 1) fun v141_2 =>
  vK_8 [v141_2])
  (BinI .gtr v12_4 v13_5 fun v144_4 =>
  Cnd v144_4 (Drw <| QtC fun I =>
  QE I (fun KK => IA 3 a0 a1 fun v169_8 =>
  KK v169_8) fun v169_9 =>
  QE I (fun KK => LdN 3 v169_9 fun v170_8 =>
  KK v170_8) fun v170_9 =>
  QE I (fun KK => IA 3 a0 v13_5 fun v173_8 =>
  KK v173_8) fun v173_9 =>
  QE I (fun KK => LdN 3 v173_9 fun v174_8 =>
  KK v174_8) fun v174_9 =>
  QE I (fun KK => IA 3 a0 v13_5 fun v175_8 =>
  KK v175_8) fun v175_9 =>
  St 3 v175_9 v170_9 fun _ =>
  IA 3 a0 a1 fun v176_4 =>
  St 3 v176_4 v174_9 fun _ =>
  KR (.tuple #[v13_5, (.bool false)]))
  (Drw <| QtC fun I =>
  QE I (fun KK => IA 3 a0 v13_5 fun v151_8 =>
  KK v151_8) fun v151_9 =>
  QE I (fun KK => LdN 3 v151_9 fun v152_8 =>
  KK v152_8) fun v152_9 =>
  QE I (fun KK => IA 3 a0 v12_4 fun v155_8 =>
  KK v155_8) fun v155_9 =>
  QE I (fun KK => LdN 3 v155_9 fun v156_8 =>
  KK v156_8) fun v156_9 =>
  QE I (fun KK => IA 3 a0 v12_4 fun v157_8 =>
  KK v157_8) fun v157_9 =>
  St 3 v157_9 v152_9 fun _ =>
  IA 3 a0 v13_5 fun v158_4 =>
  St 3 v158_4 v156_9 fun _ =>
  BinI .add v12_4 (.int .i64 1) fun v160_4 =>
  BinI .sub v13_5 (.int .i64 1) fun v162_4 =>
  vK_6 [v160_4, v162_4])))
  (BinI .gtr v12_4 v13_5 fun v144_5 =>
  Cnd v144_5 (Drw <| QtC fun I =>
  QE I (fun KK => IA 3 a0 a1 fun v169_10 =>
  KK v169_10) fun v169_11 =>
  QE I (fun KK => LdN 3 v169_11 fun v170_10 =>
  KK v170_10) fun v170_11 =>
  QE I (fun KK => IA 3 a0 v13_5 fun v173_10 =>
  KK v173_10) fun v173_11 =>
  QE I (fun KK => LdN 3 v173_11 fun v174_10 =>
  KK v174_10) fun v174_11 =>
  QE I (fun KK => IA 3 a0 v13_5 fun v175_10 =>
  KK v175_10) fun v175_11 =>
  St 3 v175_11 v170_11 fun _ =>
  IA 3 a0 a1 fun v176_5 =>
  St 3 v176_5 v174_11 fun _ =>
  KR (.tuple #[v13_5, (.bool false)]))
  (Drw <| QtC fun I =>
  QE I (fun KK => IA 3 a0 v13_5 fun v151_10 =>
  KK v151_10) fun v151_11 =>
  QE I (fun KK => LdN 3 v151_11 fun v152_10 =>
  KK v152_10) fun v152_11 =>
  QE I (fun KK => IA 3 a0 v12_4 fun v155_10 =>
  KK v155_10) fun v155_11 =>
  QE I (fun KK => LdN 3 v155_11 fun v156_10 =>
  KK v156_10) fun v156_11 =>
  QE I (fun KK => IA 3 a0 v12_4 fun v157_10 =>
  KK v157_10) fun v157_11 =>
  St 3 v157_11 v152_11 fun _ =>
  IA 3 a0 v13_5 fun v158_5 =>
  St 3 v158_5 v156_11 fun _ =>
  BinI .add v12_4 (.int .i64 1) fun v160_5 =>
  BinI .sub v13_5 (.int .i64 1) fun v162_5 =>
  vK_6 [v160_5, v162_5]))))
  (LoopC [v13_4] fun vK_9 vs => AllE <|
  UN vs fun v13_6 _ =>
  Drw <| QtC fun I =>
  BinI .leq v12_4 v13_6 fun v125_3 =>
  QtC fun I =>
  Grd v125_3 true (QE I (fun KK => IA 3 a0 v13_6 fun v130_6 =>
  KK v130_6) fun v130_7 =>
  QE I (fun KK => LdN 3 v130_7 fun v131_6 =>
  KK v131_6) fun v131_7 =>
  QE I (fun KK => IA 3 a0 a1 fun v134_6 =>
  KK v134_6) fun v134_7 =>
  QE I (fun KK => LdN 3 v134_7 fun v135_6 =>
  KK v135_6) fun v135_7 =>
  FnV pg a4 #[v131_7, v135_7] fun v136_3 =>
  BinI .lss v136_3 (.int .i64 0) fun v137_3 =>
  Un .not v137_3 fun v138_3 =>
  Cnd v138_3 (BinI .sub v13_6 (.int .i64 1) fun v141_3 =>
  vK_9 [v141_3])
  (BinI .gtr v12_4 v13_6 fun v144_6 =>
  Cnd v144_6 (Drw <| QtC fun I =>
  QE I (fun KK => IA 3 a0 a1 fun v169_12 =>
  KK v169_12) fun v169_13 =>
  QE I (fun KK => LdN 3 v169_13 fun v170_12 =>
  KK v170_12) fun v170_13 =>
  QE I (fun KK => IA 3 a0 v13_6 fun v173_12 =>
  KK v173_12) fun v173_13 =>
  QE I (fun KK => LdN 3 v173_13 fun v174_12 =>
  KK v174_12) fun v174_13 =>
  QE I (fun KK => IA 3 a0 v13_6 fun v175_12 =>
  KK v175_12) fun v175_13 =>
  St 3 v175_13 v170_13 fun _ =>
  IA 3 a0 a1 fun v176_6 =>
  St 3 v176_6 v174_13 fun _ =>
  KR (.tuple #[v13_6, (.bool false)]))
  (Drw <| QtC fun I =>
  QE I (fun KK => IA 3 a0 v13_6 fun v151_12 =>
  KK v151_12) fun v151_13 =>
  QE I (fun KK => LdN 3 v151_13 fun v152_12 =>
  KK v152_12) fun v152_13 =>
  QE I (fun KK => IA 3 a0 v12_4 fun v155_12 =>
  KK v155_12) fun v155_13 =>
  QE I (fun KK => LdN 3 v155_13 fun v156_12 =>
  KK v156_12) fun v156_13 =>
  QE I (fun KK => IA 3 a0 v12_4 fun v157_12 =>
  KK v157_12) fun v157_13 =>
  St 3 v157_13 v152_13 fun _ =>
  IA 3 a0 v13_6 fun v158_6 =>
  St 3 v158_6 v156_13 fun _ =>
  BinI .add v12_4 (.int .i64 1) fun v160_6 =>
  BinI .sub v13_6 (.int .i64 1) fun v162_6 =>
  vK_6 [v160_6, v162_6])))
  (BinI .gtr v12_4 v13_6 fun v144_7 =>
  Cnd v144_7 (Drw <| QtC fun I =>
  QE I (fun KK => IA 3 a0 a1 fun v169_14 =>
  KK v169_14) fun v169_15 =>
  QE I (fun KK => LdN 3 v169_15 fun v170_14 =>
  KK v170_14) fun v170_15 =>
  QE I (fun KK => IA 3 a0 v13_6 fun v173_14 =>
  KK v173_14) fun v173_15 =>
  QE I (fun KK => LdN 3 v173_15 fun v174_14 =>
  KK v174_14) fun v174_15 =>
  QE I (fun KK => IA 3 a0 v13_6 fun v175_14 =>
  KK v175_14) fun v175_15 =>
  St 3 v175_15 v170_15 fun _ =>
  IA 3 a0 a1 fun v176_7 =>
  St 3 v176_7 v174_15 fun _ =>
  KR (.tuple #[v13_6, (.bool false)]))
  (Drw <| QtC fun I =>
  QE I (fun KK => IA 3 a0 v13_6 fun v151_14 =>
  KK v151_14) fun v151_15 =>
  QE I (fun KK => LdN 3 v151_15 fun v152_14 =>
  KK v152_14) fun v152_15 =>
  QE I (fun KK => IA 3 a0 v12_4 fun v155_14 =>
  KK v155_14) fun v155_15 =>
  QE I (fun KK => LdN 3 v155_15 fun v156_14 =>
  KK v156_14) fun v156_15 =>
  QE I (fun KK => IA 3 a0 v12_4 fun v157_14 =>
  KK v157_14) fun v157_15 =>
  St 3 v157_15 v152_15 fun _ =>
  IA 3 a0 v13_6 fun v158_7 =>
  St 3 v158_7 v156_15 fun _ =>
  BinI .add v12_4 (.int .i64 1) fun v160_7 =>
  BinI .sub v13_6 (.int .i64 1) fun v162_7 =>
  vK_6 [v160_7, v162_7])))))))
  (LoopC [v31] fun vK_10 vs => AllE <|
  UN vs fun v13_7 _ =>
  Drw <| QtC fun I =>
  BinI .leq v12 v13_7 fun v52_1 =>
  QtC fun I =>
  Grd v52_1 true (QE I (fun KK => IA 3 a0 v13_7 fun v57_2 =>
  KK v57_2) fun v57_3 =>
  QE I (fun KK => LdN 3 v57_3 fun v58_2 =>
  KK v58_2) fun v58_3 =>
  QE I (fun KK => IA 3 a0 a1 fun v61_2 =>
  KK v61_2) fun v61_3 =>
  QE I (fun KK => LdN 3 v61_3 fun v62_2 =>
  KK v62_2) fun v62_3 =>
  FnV pg a4 #[v58_3, v62_3] fun v63_1 =>
  BinI .lss v63_1 (.int .i64 0) fun v64_1 =>
  Un .not v64_1 fun v65_1 =>
  Cnd v65_1 (BinI .sub v13_7 (.int .i64 1) fun v68_1 =>
  vK_10 [v68_1])
  (BinI .gtr v12 v13_7 fun v71_2 =>
  Cnd v71_2 (Drw <| QtC fun I =>
  QE I (fun KK => IA 3 a0 a1 fun v78_4 =>
  KK v78_4) fun v78_5 =>
  QE I (fun KK => LdN 3 v78_5 fun v79_4 =>
  KK v79_4) fun v79_5 =>
  QE I (fun KK => IA 3 a0 v13_7 fun v82_4 =>
  KK v82_4) fun v82_5 =>
  QE I (fun KK => LdN 3 v82_5 fun v83_4 =>
  KK v83_4) fun v83_5 =>
  QE I (fun KK => IA 3 a0 v13_7 fun v84_4 =>
  KK v84_4) fun v84_5 =>
  St 3 v84_5 v79_5 fun _ =>
  IA 3 a0 a1 fun v85_2 =>
  St 3 v85_2 v83_5 fun _ =>
  KR (.tuple #[v13_7, (.bool true)]))
  (Drw <| QtC fun I =>
  QE I (fun KK => IA 3 a0 v13_7 fun v93_4 =>
  KK v93_4) fun v93_5 =>
  QE I (fun KK => LdN 3 v93_5 fun v94_4 =>
  KK v94_4) fun v94_5 =>
  QE I (fun KK => IA 3 a0 v12 fun v97_4 =>
  KK v97_4) fun v97_5 =>
  QE I (fun KK => LdN 3 v97_5 fun v98_4 =>
  KK v98_4) fun v98_5 =>
  QE I (fun KK => IA 3 a0 v12 fun v99_4 =>
  KK v99_4) fun v99_5 =>
  St 3 v99_5 v94_5 fun _ =>
  IA 3 a0 v13_7 fun v100_2 =>
  St 3 v100_2 v98_5 fun _ =>
  BinI .add v12 (.int .i64 1) fun v102_2 =>
  BinI .sub v13_7 (.int .i64 1) fun v104_2 =>
  LoopC [v102_2, v104_2] fun vK_11 vs => AllE <|
  UN vs fun v12_5 vs =>
  UN vs fun v13_8 _ =>
  LoopC [v12_5] fun vK_12 vs => AllE <|
  UN vs fun v12_6 _ =>
  Drw <| QtC fun I =>
  BinI .leq v12_6 v13_8 fun v107_2 =>
  QtC fun I =>
  Grd v107_2 true (QE I (fun KK => IA 3 a0 v12_6 fun v112_4 =>
  KK v112_4) fun v112_5 =>
  QE I (fun KK => LdN 3 v112_5 fun v113_4 =>
  KK v113_4) fun v113_5 =>
  QE I (fun KK => IA 3 a0 a1 fun v116_4 =>
  KK v116_4) fun v116_5 =>
  QE I (fun KK => LdN 3 v116_5 fun v117_4 =>
  KK v117_4) fun v117_5 =>
  FnV pg a4 #[v113_5, v117_5] fun v118_2 =>
  BinI .lss v118_2 (.int .i64 0) fun v119_2 =>
  Cnd v119_2 (BinI .add v12_6 (.int .i64 1) fun v122_2 =>
  vK_12 [v122_2])
  (LoopC [v13_8] fun vK_13 vs => AllE <|
  UN vs fun v13_9 _ =>
  Drw <| QtC fun I =>
  BinI .leq v12_6 v13_9 fun v125_4 =>
  QtC fun I =>
  Grd v125_4 true (QE I (fun KK => IA 3 a0 v13_9 fun v130_8 =>
  KK v130_8) fun v130_9 =>
  QE I (fun KK => LdN 3 v130_9 fun v131_8 =>
  KK v131_8) fun v131_9 =>
  QE I (fun KK => IA 3 a0 a1 fun v134_8 =>
  KK v134_8) fun v134_9 =>
  QE I (fun KK => LdN 3 v134_9 fun v135_8 =>
  KK v135_8) fun v135_9 =>
  FnV pg a4 #[v131_9, v135_9] fun v136_4 =>
  BinI .lss v136_4 (.int .i64 0) fun v137_4 =>
  Un .not v137_4 fun v138_4 =>
  Cnd v138_4 (BinI .sub v13_9 (.int .i64 1) fun v141_4 =>
  vK_13 [v141_4])
  (BinI .gtr v12_6 v13_9 fun v144_8 =>
  Cnd v144_8 (Drw <| QtC fun I =>
  QE I (fun KK => IA 3 a0 a1 fun v169_16 =>
  KK v169_16) fun v169_17 =>
  QE I (fun KK => LdN 3 v169_17 fun v170_16 =>
  KK v170_16) fun v170_17 =>
  QE I (fun KK => IA 3 a0 v13_9 fun v173_16 =>
  KK v173_16) fun v173_17 =>
  QE I (fun KK => LdN 3 v173_17 fun v174_16 =>
  KK v174_16) fun v174_17 =>
  QE I (fun KK => IA 3 a0 v13_9 fun v175_16 =>
  KK v175_16) fun v175_17 =>
  St 3 v175_17 v170_17 fun _ =>
  IA 3 a0 a1 fun v176_8 =>
  St 3 v176_8 v174_17 fun _ =>
  KR (.tuple #[v13_9, (.bool false)]))
  (Drw <| QtC fun I =>
  QE I (fun KK => IA 3 a0 v13_9 fun v151_16 =>
  KK v151_16) fun v151_17 =>
  QE I (fun KK => LdN 3 v151_17 fun v152_16 =>
  KK v152_16) fun v152_17 =>
  QE I (fun KK => IA 3 a0 v12_6 fun v155_16 =>
  KK v155_16) fun v155_17 =>
  QE I (fun KK => LdN 3 v155_17 fun v156_16 =>
  KK v156_16) fun v156_17 =>
  QE I (fun KK => IA 3 a0 v12_6 fun v157_16 =>
  KK v157_16) fun v157_17 =>
  St 3 v157_17 v152_17 fun _ =>
  IA 3 a0 v13_9 fun v158_8 =>
  St 3 v158_8 v156_17 fun _ =>
  BinI .add v12_6 (.int .i64 1) fun v160_8 =>
  BinI .sub v13_9 (.int .i64 1) fun v162_8 =>
  vK_11 [v160_8, v162_8])))
  (BinI .gtr v12_6 v13_9 fun v144_9 =>
  Cnd v144_9 (Drw <| QtC fun I =>
  QE I (fun KK => IA 3 a0 a1 fun v169_18 =>
  KK v169_18) fun v169_19 =>
  QE I (fun KK => LdN 3 v169_19 fun v170_18 =>
  KK v170_18) fun v170_19 =>
  QE I (fun KK => IA 3 a0 v13_9 fun v173_18 =>
  KK v173_18) fun v173_19 =>
  QE I (fun KK => LdN 3 v173_19 fun v174_18 =>
  KK v174_18) fun v174_19 =>
  QE I (fun KK => IA 3 a0 v13_9 fun v175_18 =>
  KK v175_18) fun v175_19 =>
  St 3 v175_19 v170_19 fun _ =>
  IA 3 a0 a1 fun v176_9 =>
  St 3 v176_9 v174_19 fun _ =>
  KR (.tuple #[v13_9, (.bool false)]))
  (Drw <| QtC fun I =>
  QE I (fun KK => IA 3 a0 v13_9 fun v151_18 =>
  KK v151_18) fun v151_19 =>
  QE I (fun KK => LdN 3 v151_19 fun v152_18 =>
  KK v152_18) fun v152_19 =>
  QE I (fun KK => IA 3 a0 v12_6 fun v155_18 =>
  KK v155_18) fun v155_19 =>
  QE I (fun KK => LdN 3 v155_19 fun v156_18 =>
  KK v156_18) fun v156_19 =>
  QE I (fun KK => IA 3 a0 v12_6 fun v157_18 =>
  KK v157_18) fun v157_19 =>
  St 3 v157_19 v152_19 fun _ =>
  IA 3 a0 v13_9 fun v158_9 =>
  St 3 v158_9 v156_19 fun _ =>
  BinI .add v12_6 (.int .i64 1) fun v160_9 =>
  BinI .sub v13_9 (.int .i64 1) fun v162_9 =>
  vK_11 [v160_9, v162_9]))))
  (LoopC [v13_8] fun vK_14 vs => AllE <|
  UN vs fun v13_10 _ =>
  Drw <| QtC fun I =>
  BinI .leq v12_6 v13_10 fun v125_5 =>
  QtC fun I =>
  Grd v125_5 true (QE I (fun KK => IA 3 a0 v13_10 fun v130_10 =>
  KK v130_10) fun v130_11 =>
  QE I (fun KK => LdN 3 v130_11 fun v131_10 =>
  KK v131_10) fun v131_11 =>
  QE I (fun KK => IA 3 a0 a1 fun v134_10 =>
  KK v134_10) fun v134_11 =>
  QE I (fun KK => LdN 3 v134_11 fun v135_10 =>
  KK v135_10) fun v135_11 =>
  FnV pg a4 #[v131_11, v135_11] fun v136_5 =>
  BinI .lss v136_5 (.int .i64 0) fun v137_5 =>
  Un .not v137_5 fun v138_5 =>
  Cnd v138_5 (BinI .sub v13_10 (.int .i64 1) fun v141_5 =>
  vK_14 [v141_5])
  (BinI .gtr v12_6 v13_10 fun v144_10 =>
  Cnd v144_10 (Drw <| QtC fun I =>
  QE I (fun KK => IA 3 a0 a1 fun v169_20 =>
  KK v169_20) fun v169_21 =>
  QE I (fun KK => LdN 3 v169_21 fun v170_20 =>
  KK v170_20) fun v170_21 =>
  QE I (fun KK => IA 3 a0 v13_10 fun v173_20 =>
  KK v173_20) fun v173_21 =>
  QE I (fun KK => LdN 3 v173_21 fun v174_20 =>
  KK v174_20) fun v174_21 =>
  QE I (fun KK => IA 3 a0 v13_10 fun v175_20 =>
  KK v175_20) fun v175_21 =>
  St 3 v175_21 v170_21 fun _ =>
  IA 3 a0 a1 fun v176_10 =>
  St 3 v176_10 v174_21 fun _ =>
  KR (.tuple #[v13_10, (.bool false)]))
  (Drw <| QtC fun I =>
  QE I (fun KK => IA 3 a0 v13_10 fun v151_20 =>
  KK v151_20) fun v151_21 =>
  QE I (fun KK => LdN 3 v151_21 fun v152_20 =>
  KK v152_20) fun v152_21 =>
  QE I (fun KK => IA 3 a0 v12_6 fun v155_20 =>
  KK v155_20) fun v155_21 =>
  QE I (fun KK => LdN 3 v155_21 fun v156_20 =>
  KK v156_20) fun v156_21 =>
  QE I (fun KK => IA 3 a0 v12_6 fun v157_20 =>
  KK v157_20) fun v157_21 =>
  St 3 v157_21 v152_21 fun _ =>
  IA 3 a0 v13_10 fun v158_10 =>
  St 3 v158_10 v156_21 fun _ =>
  BinI .add v12_6 (.int .i64 1) fun v160_10 =>
  BinI .sub v13_10 (.int .i64 1) fun v162_10 =>
  vK_11 [v160_10, v162_10])))
  (BinI .gtr v12_6 v13_10 fun v144_11 =>
  Cnd v144_11 (Drw <| QtC fun I =>
  QE I (fun KK => IA 3 a0 a1 fun v169_22 =>
  KK v169_22) fun v169_23 =>
  QE I (fun KK => LdN 3 v169_23 fun v170_22 =>
  KK v170_22) fun v170_23 =>
  QE I (fun KK => IA 3 a0 v13_10 fun v173_22 =>
  KK v173_22) fun v173_23 =>
  QE I (fun KK => LdN 3 v173_23 fun v174_22 =>
  KK v174_22) fun v174_23 =>
  QE I (fun KK => IA 3 a0 v13_10 fun v175_22 =>
  KK v175_22) fun v175_23 =>
  St 3 v175_23 v170_23 fun _ =>
  IA 3 a0 a1 fun v176_11 =>
  St 3 v176_11 v174_23 fun _ =>
  KR (.tuple #[v13_10, (.bool false)]))
  (Drw <| QtC fun I =>
  QE I (fun KK => IA 3 a0 v13_10 fun v151_22 =>
  KK v151_22) fun v151_23 =>
  QE I (fun KK => LdN 3 v151_23 fun v152_22 =>
  KK v152_22) fun v152_23 =>
  QE I (fun KK => IA 3 a0 v12_6 fun v155_22 =>
  KK v155_22) fun v155_23 =>
  QE I (fun KK => LdN 3 v155_23 fun v156_22 =>
  KK v156_22) fun v156_23 =>
  QE I (fun KK => IA 3 a0 v12_6 fun v157_22 =>
  KK v157_22) fun v157_23 =>
  St 3 v157_23 v152_23 fun _ =>
  IA 3 a0 v13_10 fun v158_11 =>
  St 3 v158_11 v156_23 fun _ =>
  BinI .add v12_6 (.int .i64 1) fun v160_11 =>
  BinI .sub v13_10 (.int .i64 1) fun v162_11 =>
  vK_11 [v160_11, v162_11]))))))
  (BinI .gtr v12 v13_7 fun v71_3 =>
  Cnd v71_3 (Drw <| QtC fun I =>
  QE I (fun KK => IA 3 a0 a1 fun v78_6 =>
  KK v78_6) fun v78_7 =>
  QE I (fun KK => LdN 3 v78_7 fun v79_6 =>
  KK v79_6) fun v79_7 =>
  QE I (fun KK => IA 3 a0 v13_7 fun v82_6 =>
  KK v82_6) fun v82_7 =>
  QE I (fun KK => LdN 3 v82_7 fun v83_6 =>
  KK v83_6) fun v83_7 =>
  QE I (fun KK => IA 3 a0 v13_7 fun v84_6 =>
  KK v84_6) fun v84_7 =>
  St 3 v84_7 v79_7 fun _ =>
  IA 3 a0 a1 fun v85_3 =>
  St 3 v85_3 v83_7 fun _ =>
  KR (.tuple #[v13_7, (.bool true)]))
  (Drw <| QtC fun I =>
  QE I (fun KK => IA 3 a0 v13_7 fun v93_6 =>
  KK v93_6) fun v93_7 =>
  QE I (fun KK => LdN 3 v93_7 fun v94_6 =>
  KK v94_6) fun v94_7 =>
  QE I (fun KK => IA 3 a0 v12 fun v97_6 =>
  KK v97_6) fun v97_7 =>
  QE I (fun KK => LdN 3 v97_7 fun v98_6 =>
  KK v98_6) fun v98_7 =>
  QE I (fun KK => IA 3 a0 v12 fun v99_6 =>
  KK v99_6) fun v99_7 =>
  St 3 v99_7 v94_7 fun _ =>
  IA 3 a0 v13_7 fun v100_3 =>
  St 3 v100_3 v98_7 fun _ =>
  BinI .add v12 (.int .i64 1) fun v102_3 =>
  BinI .sub v13_7 (.int .i64 1) fun v104_3 =>
  LoopC [v102_3, v104_3] fun vK_15 vs => AllE <|
  UN vs fun v12_7 vs =>
  UN vs fun v13_11 _ =>
  LoopC [v12_7] fun vK_16 vs => AllE <|
  UN vs fun v12_8 _ =>
  Drw <| QtC fun I =>
  BinI .leq v12_8 v13_11 fun v107_3 =>
  QtC fun I =>
  Grd v107_3 true (QE I (fun KK => IA 3 a0 v12_8 fun v112_6 =>
  KK v112_6) fun v112_7 =>
  QE I (fun KK => LdN 3 v112_7 fun v113_6 =>
  KK v113_6) fun v113_7 =>
  QE I (fun KK => IA 3 a0 a1 fun v116_6 =>
  KK v116_6) fun v116_7 =>
  QE I (fun KK => LdN 3 v116_7 fun v117_6 =>
  KK v117_6) fun v117_7 =>
  FnV pg a4 #[v113_7, v117_7] fun v118_3 =>
  BinI .lss v118_3 (.int .i64 0) fun v119_3 =>
  Cnd v119_3 (BinI .add v12_8 (.int .i64 1) fun v122_3 =>
  vK_16 [v122_3])
  (LoopC [v13_11] fun vK_17 vs => AllE <|
  UN vs fun v13_12 _ =>
  Drw <| QtC fun I =>
  BinI .leq v12_8 v13_12 fun v125_6 =>
  QtC fun I =>
  Grd v125_6 true (QE I (fun KK => IA 3 a0 v13_12 fun v130_12 =>
  KK v130_12) fun v130_13 =>
  QE I (fun KK => LdN 3 v130_13 fun v131_12 =>
  KK v131_12) fun v131_13 =>
  QE I (fun KK => IA 3 a0 a1 fun v134_12 =>
  KK v134_12) fun v134_13 =>
  QE I (fun KK => LdN 3 v134_13 fun v135_12 =>
  KK v135_12) fun v135_13 =>
  FnV pg a4 #[v131_13, v135_13] fun v136_6 =>
  BinI .lss v136_6 (.int .i64 0) fun v137_6 =>
  Un .not v137_6 fun v138_6 =>
  Cnd v138_6 (BinI .sub v13_12 (.int .i64 1) fun v141_6 =>
  vK_17 [v141_6])
  (BinI .gtr v12_8 v13_12 fun v144_12 =>
  Cnd v144_12 (Drw <| QtC fun I =>
  QE I (fun KK => IA 3 a0 a1 fun v169_24 =>
  KK v169_24) fun v169_25 =>
  QE I (fun KK => LdN 3 v169_25 fun v170_24 =>
  KK v170_24) fun v170_25 =>
  QE I (fun KK => IA 3 a0 v13_12 fun v173_24 =>
  KK v173_24) fun v173_25 =>
  QE I (fun KK => LdN 3 v173_25 fun v174_24 =>
  KK v174_24) fun v174_25 =>
  QE I (fun KK => IA 3 a0 v13_12 fun v175_24 =>
  KK v175_24) fun v175_25 =>
  St 3 v175_25 v170_25 fun _ =>
  IA 3 a0 a1 fun v176_12 =>
  St 3 v176_12 v174_25 fun _ =>
  KR (.tuple #[v13_12, (.bool false)]))
  (Drw <| QtC fun I =>
  QE I (fun KK => IA 3 a0 v13_12 fun v151_24 =>
  KK v151_24) fun v151_25 =>
  QE I (fun KK => LdN 3 v151_25 fun v152_24 =>
  KK v152_24) fun v152_25 =>
  QE I (fun KK => IA 3 a0 v12_8 fun v155_24 =>
  KK v155_24) fun v155_25 =>
  QE I (fun KK => LdN 3 v155_25 fun v156_24 =>
  KK v156_24) fun v156_25 =>
  QE I (fun KK => IA 3 a0 v12_8 fun v157_24 =>
  KK v157_24) fun v157_25 =>
  St 3 v157_25 v152_25 fun _ =>
  IA 3 a0 v13_12 fun v158_12 =>
  St 3 v158_12 v156_25 fun _ =>
  BinI .add v12_8 (.int .i64 1) fun v160_12 =>
  BinI .sub v13_12 (.int .i64 1) fun v162_12 =>
  vK_15 [v160_12, v162_12])))
  (BinI .gtr v12_8 v13_12 fun v144_13 =>
  Cnd v144_13 (Drw <| QtC fun I =>
  QE I (fun KK => IA 3 a0 a1 fun v169_26 =>
  KK v169_26) fun v169_27 =>
  QE I (fun KK => LdN 3 v169_27 fun v170_26 =>
  KK v170_26) fun v170_27 =>
  QE I (fun KK => IA 3 a0 v13_12 fun v173_26 =>
  KK v173_26) fun v173_27 =>
  QE I (fun KK => LdN 3 v173_27 fun v174_26 =>
  KK v174_26) fun v174_27 =>
  QE I (fun KK => IA 3 a0 v13_12 fun v175_26 =>
  KK v175_26) fun v175_27 =>
  St 3 v175_27 v170_27 fun _ =>
  IA 3 a0 a1 fun v176_13 =>
  St 3 v176_13 v174_27 fun _ =>
  KR (.tuple #[v13_12, (.bool false)]))
  (Drw <| QtC fun I =>
  QE I (fun KK => IA 3 a0 v13_12 fun v151_26 =>
  KK v151_26) fun v151_27 =>
  QE I (fun KK => LdN 3 v151_27 fun v152_26 =>
  KK v152_26) fun v152_27 =>
  QE I (fun KK => IA 3 a0 v12_8 fun v155_26 =>
  KK v155_26) fun v155_27 =>
  QE I (fun KK => LdN 3 v155_27 fun v156_26 =>
  KK v156_26) fun v156_27 =>
  QE I (fun KK => IA 3 a0 v12_8 fun v157_26 =>
  KK v157_26) fun v157_27 =>
  St 3 v157_27 v152_27 fun _ =>
  IA 3 a0 v13_12 fun v158_13 =>
  St 3 v158_13 v156_27 fun _ =>
  BinI .add v12_8 (.int .i64 1) fun v160_13 =>
  BinI .sub v13_12 (.int .i64 1) fun v162_13 =>
  vK_15 [v160_13, v162_13]))))
  (LoopC [v13_11] fun vK_18 vs => AllE <|
  UN vs fun v13_13 _ =>
  Drw <| QtC fun I =>
  BinI .leq v12_8 v13_13 fun v125_7 =>
  QtC fun I =>
  Grd v125_7 true (QE I (fun KK => IA 3 a0 v13_13 fun v130_14 =>
  KK v130_14) fun v130_15 =>
  QE I (fun KK => LdN 3 v130_15 fun v131_14 =>
  KK v131_14) fun v131_15 =>
  QE I (fun KK => IA 3 a0 a1 fun v134_14 =>
  KK v134_14) fun v134_15 =>
  QE I (fun KK => LdN 3 v134_15 fun v135_14 =>
  KK v135_14) fun v135_15 =>
  FnV pg a4 #[v131_15, v135_15] fun v136_7 =>
  BinI .lss v136_7 (.int .i64 0) fun v137_7 =>
  Un .not v137_7 fun v138_7 =>
  Cnd v138_7 (BinI .sub v13_13 (.int .i64 1) fun v141_7 =>
  vK_18 [v141_7])
  (BinI .gtr v12_8 v13_13 fun v144_14 =>
  Cnd v144_14 (Drw <| QtC fun I =>
  QE I (fun KK => IA 3 a0 a1 fun v169_28 =>
  KK v169_28) fun v169_29 =>
  QE I (fun KK => LdN 3 v169_29 fun v170_28 =>
  KK v170_28) fun v170_29 =>
  QE I (fun KK => IA 3 a0 v13_13 fun v173_28 =>
  KK v173_28) fun v173_29 =>
  QE I (fun KK => LdN 3 v173_29 fun v174_28 =>
  KK v174_28) fun v174_29 =>
  QE I (fun KK => IA 3 a0 v13_13 fun v175_28 =>
  KK v175_28) fun v175_29 =>
  St 3 v175_29 v170_29 fun _ =>
  IA 3 a0 a1 fun v176_14 =>
  St 3 v176_14 v174_29 fun _ =>
  KR (.tuple #[v13_13, (.bool false)]))
  (Drw <| QtC fun I =>
  QE I (fun KK => IA 3 a0 v13_13 fun v151_28 =>
  KK v151_28) fun v151_29 =>
  QE I (fun KK => LdN 3 v151_29 fun v152_28 =>
  KK v152_28) fun v152_29 =>
  QE I (fun KK => IA 3 a0 v12_8 fun v155_28 =>
  KK v155_28) fun v155_29 =>
  QE I (fun KK => LdN 3 v155_29 fun v156_28 =>
  KK v156_28) fun v156_29 =>
  QE I (fun KK => IA 3 a0 v12_8 fun v157_28 =>
  KK v157_28) fun v157_29 =>
  St 3 v157_29 v152_29 fun _ =>
  IA 3 a0 v13_13 fun v158_14 =>
  St 3 v158_14 v156_29 fun _ =>
  BinI .add v12_8 (.int .i64 1) fun v160_14 =>
  BinI .sub v13_13 (.int .i64 1) fun v162_14 =>
  vK_15 [v160_14, v162_14])))
  (BinI .gtr v12_8 v13_13 fun v144_15 =>
  Cnd v144_15 (Drw <| QtC fun I =>
  QE I (fun KK => IA 3 a0 a1 fun v169_30 =>
  KK v169_30) fun v169_31 =>
  QE I (fun KK => LdN 3 v169_31 fun v170_30 =>
  KK v170_30) fun v170_31 =>
  QE I (fun KK => IA 3 a0 v13_13 fun v173_30 =>
  KK v173_30) fun v173_31 =>
  QE I (fun KK => LdN 3 v173_31 fun v174_30 =>
  KK v174_30) fun v174_31 =>
  QE I (fun KK => IA 3 a0 v13_13 fun v175_30 =>
  KK v175_30) fun v175_31 =>
  St 3 v175_31 v170_31 fun _ =>
  IA 3 a0 a1 fun v176_15 =>
  St 3 v176_15 v174_31 fun _ =>
  KR (.tuple #[v13_13, (.bool false)]))
  (Drw <| QtC fun I =>
  QE I (fun KK => IA 3 a0 v13_13 fun v151_30 =>
  KK v151_30) fun v151_31 =>
  QE I (fun KK => LdN 3 v151_31 fun v152_30 =>
  KK v152_30) fun v152_31 =>
  QE I (fun KK => IA 3 a0 v12_8 fun v155_30 =>
  KK v155_30) fun v155_31 =>
  QE I (fun KK => LdN 3 v155_31 fun v156_30 =>
  KK v156_30) fun v156_31 =>
  QE I (fun KK => IA 3 a0 v12_8 fun v157_30 =>
  KK v157_30) fun v157_31 =>
  St 3 v157_31 v152_31 fun _ =>
  IA 3 a0 v13_13 fun v158_15 =>
  St 3 v158_15 v156_31 fun _ =>
  BinI .add v12_8 (.int .i64 1) fun v160_15 =>
  BinI .sub v13_13 (.int .i64 1) fun v162_15 =>
  vK_15 [v160_15, v162_15]))))))
theorem V.slices_partitionCmpFunc_wait_ok {a0 a1 a2 a3 a4 : Value} {K : Value → WP} {w : World} (h : V.slices_partitionCmpFunc_wait a0 a1 a2 a3 a4 K w) : Cl pg 58 #[a0, a1, a2, a3, a4] K w :=
  cl_of pg_mixed Try.func58 (args := [a0, a1, a2, a3, a4]) (by kernel_rfl) (by rw [show WF pg Try.f58 [a0, a1, a2, a3, a4] K = V.slices_partitionCmpFunc_wait a0 a1 a2 a3 a4 K from by kernel_rfl]; exact h)

def V.math_bits_Len32 (a0 : Value) (KR : Value → WP) : WP :=
  BinI .geq a0 (.int .u32 65536) fun v4 =>
  Cnd v4 (BinI .shr a0 (.int .u64 16) fun v6 =>
  BinI .geq v6 (.int .u32 256) fun v8 =>
  Cnd v8 (BinI .shr v6 (.int .u64 8) fun v10 =>
  BinI .add (.int .i64 16) (.int .i64 8) fun v12 =>
  ConvI .u8 v10 fun v15 =>
  Ex pg (Instr.index 9 (.string ⟨#[0, 1, 2, 2, 3, 3, 3, 3, 4, 4, 4, 4, 4, 4, 4, 4, 5, 5, 5, 5, 5, 5, 5, 5, 5, 5, 5, 5, 5, 5, 5, 5, 6, 6, 6, 6, 6, 6, 6, 6, 6, 6, 6, 6, 6, 6, 6, 6, 6, 6, 6, 6, 6, 6, 6, 6, 6, 6, 6, 6, 6, 6, 6, 6, 7, 7, 7, 7, 7, 7, 7, 7, 7, 7, 7, 7, 7, 7, 7, 7, 7, 7, 7, 7, 7, 7, 7, 7, 7, 7, 7, 7, 7, 7, 7, 7, 7, 7, 7, 7, 7, 7, 7, 7, 7, 7, 7, 7, 7, 7, 7, 7, 7, 7, 7, 7, 7, 7, 7, 7, 7, 7, 7, 7, 7, 7, 7, 7, 8, 8, 8, 8, 8, 8, 8, 8, 8, 8, 8, 8, 8, 8, 8, 8, 8, 8, 8, 8, 8, 8, 8, 8, 8, 8, 8, 8, 8, 8, 8, 8, 8, 8, 8, 8, 8, 8, 8, 8, 8, 8, 8, 8, 8, 8, 8, 8, 8, 8, 8, 8, 8, 8, 8, 8, 8, 8, 8, 8, 8, 8, 8, 8, 8, 8, 8, 8, 8, 8, 8, 8, 8, 8, 8, 8, 8, 8, 8, 8, 8, 8, 8, 8, 8, 8, 8, 8, 8, 8, 8, 8, 8, 8, 8, 8, 8, 8, 8, 8, 8, 8, 8, 8, 8, 8, 8, 8, 8, 8, 8, 8, 8, 8, 8, 8, 8, 8, 8, 8, 8, 8, 8, 8, 8, 8, 8, 8]⟩) v15) fun v16 =>
  ConvI .i64 v16 fun v17 =>
  BinI .add v12 v17 fun v18 =>
  KR v18)
  (ConvI .u8 v6 fun v15_1 =>
  Ex pg (Instr.index 9 (.string ⟨#[0, 1, 2, 2, 3, 3, 3, 3, 4, 4, 4, 4, 4, 4, 4, 4, 5, 5, 5, 5, 5, 5, 5, 5, 5, 5, 5, 5, 5, 5, 5, 5, 6, 6, 6, 6, 6, 6, 6, 6, 6, 6, 6, 6, 6, 6, 6, 6, 6, 6, 6, 6, 6, 6, 6, 6, 6, 6, 6, 6, 6, 6, 6, 6, 7, 7, 7, 7, 7, 7, 7, 7, 7, 7, 7, 7, 7, 7, 7, 7, 7, 7, 7, 7, 7, 7, 7, 7, 7, 7, 7, 7, 7, 7, 7, 7, 7, 7, 7, 7, 7, 7, 7, 7, 7, 7, 7, 7, 7, 7, 7, 7, 7, 7, 7, 7, 7, 7, 7, 7, 7, 7, 7, 7, 7, 7, 7, 7, 8, 8, 8, 8, 8, 8, 8, 8, 8, 8, 8, 8, 8, 8, 8, 8, 8, 8, 8, 8, 8, 8, 8, 8, 8, 8, 8, 8, 8, 8, 8, 8, 8, 8, 8, 8, 8, 8, 8, 8, 8, 8, 8, 8, 8, 8, 8, 8, 8, 8, 8, 8, 8, 8, 8, 8, 8, 8, 8, 8, 8, 8, 8, 8, 8, 8, 8, 8, 8, 8, 8, 8, 8, 8, 8, 8, 8, 8, 8, 8, 8, 8, 8, 8, 8, 8, 8, 8, 8, 8, 8, 8, 8, 8, 8, 8, 8, 8, 8, 8, 8, 8, 8, 8, 8, 8, 8, 8, 8, 8, 8, 8, 8, 8, 8, 8, 8, 8, 8, 8, 8, 8, 8, 8, 8, 8, 8, 8]⟩) v15_1) fun v16_1 =>
  ConvI .i64 v16_1 fun v17_1 =>
  BinI .add (.int .i64 16) v17_1 fun v18_1 =>
  KR v18_1))
  (BinI .geq a0 (.int .u32 256) fun v8_1 =>
  Cnd v8_1 (BinI .shr a0 (.int .u64 8) fun v10_1 =>
  BinI .add (.int .i64 0) (.int .i64 8) fun v12_1 =>
  ConvI .u8 v10_1 fun v15_2 =>
  Ex pg (Instr.index 9 (.string ⟨#[0, 1, 2, 2, 3, 3, 3, 3, 4, 4, 4, 4, 4, 4, 4, 4, 5, 5, 5, 5, 5, 5, 5, 5, 5, 5, 5, 5, 5, 5, 5, 5, 6, 6, 6, 6, 6, 6, 6, 6, 6, 6, 6, 6, 6, 6, 6, 6, 6, 6, 6, 6, 6, 6, 6, 6, 6, 6, 6, 6, 6, 6, 6, 6, 7, 7, 7, 7, 7, 7, 7, 7, 7, 7, 7, 7, 7, 7, 7, 7, 7, 7, 7, 7, 7, 7, 7, 7, 7, 7, 7, 7, 7, 7, 7, 7, 7, 7, 7, 7, 7, 7, 7, 7, 7, 7, 7, 7, 7, 7, 7, 7, 7, 7, 7, 7, 7, 7, 7, 7, 7, 7, 7, 7, 7, 7, 7, 7, 8, 8, 8, 8, 8, 8, 8, 8, 8, 8, 8, 8, 8, 8, 8, 8, 8, 8, 8, 8, 8, 8, 8, 8, 8, 8, 8, 8, 8, 8, 8, 8, 8, 8, 8, 8, 8, 8, 8, 8, 8, 8, 8, 8, 8, 8, 8, 8, 8, 8, 8, 8, 8, 8, 8, 8, 8, 8, 8, 8, 8, 8, 8, 8, 8, 8, 8, 8, 8, 8, 8, 8, 8, 8, 8, 8, 8, 8, 8, 8, 8, 8, 8, 8, 8, 8, 8, 8, 8, 8, 8, 8, 8, 8, 8, 8, 8, 8, 8, 8, 8, 8, 8, 8, 8, 8, 8, 8, 8, 8, 8, 8, 8, 8, 8, 8, 8, 8, 8, 8, 8, 8, 8, 8, 8, 8, 8, 8]⟩) v15_2) fun v16_2 =>
  ConvI .i64 v16_2 fun v17_2 =>
  BinI .add v12_1 v17_2 fun v18_2 =>
  KR v18_2)
  (ConvI .u8 a0 fun v15_3 =>
  Ex pg (Instr.index 9 (.string ⟨#[0, 1, 2, 2, 3, 3, 3, 3, 4, 4, 4, 4, 4, 4, 4, 4, 5, 5, 5, 5, 5, 5, 5, 5, 5, 5, 5, 5, 5, 5, 5, 5, 6, 6, 6, 6, 6, 6, 6, 6, 6, 6, 6, 6, 6, 6, 6, 6, 6, 6, 6, 6, 6, 6, 6, 6, 6, 6, 6, 6, 6, 6, 6, 6, 7, 7, 7, 7, 7, 7, 7, 7, 7, 7, 7, 7, 7, 7, 7, 7, 7, 7, 7, 7, 7, 7, 7, 7, 7, 7, 7, 7, 7, 7, 7, 7, 7, 7, 7, 7, 7, 7, 7, 7, 7, 7, 7, 7, 7, 7, 7, 7, 7, 7, 7, 7, 7, 7, 7, 7, 7, 7, 7, 7, 7, 7, 7, 7, 8, 8, 8, 8, 8, 8, 8, 8, 8, 8, 8, 8, 8, 8, 8, 8, 8, 8, 8, 8, 8, 8, 8, 8, 8, 8, 8, 8, 8, 8, 8, 8, 8, 8, 8, 8, 8, 8, 8, 8, 8, 8, 8, 8, 8, 8, 8, 8, 8, 8, 8, 8, 8, 8, 8, 8, 8, 8, 8, 8, 8, 8, 8, 8, 8, 8, 8, 8, 8, 8, 8, 8, 8, 8, 8, 8, 8, 8, 8, 8, 8, 8, 8, 8, 8, 8, 8, 8, 8, 8, 8, 8, 8, 8, 8, 8, 8, 8, 8, 8, 8, 8, 8, 8, 8, 8, 8, 8, 8, 8, 8, 8, 8, 8, 8, 8, 8, 8, 8, 8, 8, 8, 8, 8, 8, 8, 8, 8]⟩) v15_3) fun v16_3 =>
  ConvI .i64 v16_3 fun v17_3 =>
  BinI .add (.int .i64 0) v17_3 fun v18_3 =>
  KR v18_3))
theorem V.math_bits_Len32_ok {a0 : Value} {K : Value → WP} {w : World} (h : V.math_bits_Len32 a0 K w) : Cl pg 59 #[a0] K w :=
  cl_of pg_mixed Try.func59 (args := [a0]) (by kernel_rfl) (by rw [show WF pg Try.f59 [a0] K = V.math_bits_Len32 a0 K from by kernel_rfl]; exact h)

def V.math_bits_Len64 (a0 : Value) (KR : Value → WP) : WP :=
  JoinC (fun vs => AllE (UN vs fun v0 vs =>
  UN vs fun v2 _ =>
  BinI .geq v0 (.int .u64 65536) fun v8 =>
  Cnd v8 (BinI .shr v0 (.int .u64 16) fun v10 =>
  BinI .add v2 (.int .i64 16) fun v12 =>
  BinI .geq v10 (.int .u64 256) fun v14 =>
  Cnd v14 (BinI .shr v10 (.int .u64 8) fun v16 =>
  BinI .add v12 (.int .i64 8) fun v18 =>
  ConvI .u8 v16 fun v21 =>
  Ex pg (Instr.index 9 (.string ⟨#[0, 1, 2, 2, 3, 3, 3, 3, 4, 4, 4, 4, 4, 4, 4, 4, 5, 5, 5, 5, 5, 5, 5, 5, 5, 5, 5, 5, 5, 5, 5, 5, 6, 6, 6, 6, 6, 6, 6, 6, 6, 6, 6, 6, 6, 6, 6, 6, 6, 6, 6, 6, 6, 6, 6, 6, 6, 6, 6, 6, 6, 6, 6, 6, 7, 7, 7, 7, 7, 7, 7, 7, 7, 7, 7, 7, 7, 7, 7, 7, 7, 7, 7, 7, 7, 7, 7, 7, 7, 7, 7, 7, 7, 7, 7, 7, 7, 7, 7, 7, 7, 7, 7, 7, 7, 7, 7, 7, 7, 7, 7, 7, 7, 7, 7, 7, 7, 7, 7, 7, 7, 7, 7, 7, 7, 7, 7, 7, 8, 8, 8, 8, 8, 8, 8, 8, 8, 8, 8, 8, 8, 8, 8, 8, 8, 8, 8, 8, 8, 8, 8, 8, 8, 8, 8, 8, 8, 8, 8, 8, 8, 8, 8, 8, 8, 8, 8, 8, 8, 8, 8, 8, 8, 8, 8, 8, 8, 8, 8, 8, 8, 8, 8, 8, 8, 8, 8, 8, 8, 8, 8, 8, 8, 8, 8, 8, 8, 8, 8, 8, 8, 8, 8, 8, 8, 8, 8, 8, 8, 8, 8, 8, 8, 8, 8, 8, 8, 8, 8, 8, 8, 8, 8, 8, 8, 8, 8, 8, 8, 8, 8, 8, 8, 8, 8, 8, 8, 8, 8, 8, 8, 8, 8, 8, 8, 8, 8, 8, 8, 8, 8, 8, 8, 8, 8, 8]⟩) v21) fun v22 =>
  ConvI .i64 v22 fun v23 =>
  BinI .add v18 v23 fun v24 =>
  KR v24)
  (ConvI .u8 v10 fun v21_1 =>
  Ex pg (Instr.index 9 (.string ⟨#[0, 1, 2, 2, 3, 3, 3, 3, 4, 4, 4, 4, 4, 4, 4, 4, 5, 5, 5, 5, 5, 5, 5, 5, 5, 5, 5, 5, 5, 5, 5, 5, 6, 6, 6, 6, 6, 6, 6, 6, 6, 6, 6, 6, 6, 6, 6, 6, 6, 6, 6, 6, 6, 6, 6, 6, 6, 6, 6, 6, 6, 6, 6, 6, 7, 7, 7, 7, 7, 7, 7, 7, 7, 7, 7, 7, 7, 7, 7, 7, 7, 7, 7, 7, 7, 7, 7, 7, 7, 7, 7, 7, 7, 7, 7, 7, 7, 7, 7, 7, 7, 7, 7, 7, 7, 7, 7, 7, 7, 7, 7, 7, 7, 7, 7, 7, 7, 7, 7, 7, 7, 7, 7, 7, 7, 7, 7, 7, 8, 8, 8, 8, 8, 8, 8, 8, 8, 8, 8, 8, 8, 8, 8, 8, 8, 8, 8, 8, 8, 8, 8, 8, 8, 8, 8, 8, 8, 8, 8, 8, 8, 8, 8, 8, 8, 8, 8, 8, 8, 8, 8, 8, 8, 8, 8, 8, 8, 8, 8, 8, 8, 8, 8, 8, 8, 8, 8, 8, 8, 8, 8, 8, 8, 8, 8, 8, 8, 8, 8, 8, 8, 8, 8, 8, 8, 8, 8, 8, 8, 8, 8, 8, 8, 8, 8, 8, 8, 8, 8, 8, 8, 8, 8, 8, 8, 8, 8, 8, 8, 8, 8, 8, 8, 8, 8, 8, 8, 8, 8, 8, 8, 8, 8, 8, 8, 8, 8, 8, 8, 8, 8, 8, 8, 8, 8, 8]⟩) v21_1) fun v22_1 =>
  ConvI .i64 v22_1 fun v23_1 =>
  BinI .add v12 v23_1 fun v24_1 =>
  KR v24_1))
  (BinI .geq v0 (.int .u64 256) fun v14_1 =>
  Cnd v14_1 (BinI .shr v0 (.int .u64 8) fun v16_1 =>
  BinI .add v2 (.int .i64 8) fun v18_1 =>
  ConvI .u8 v16_1 fun v21_2 =>
  Ex pg (Instr.index 9 (.string ⟨#[0, 1, 2, 2, 3, 3, 3, 3, 4, 4, 4, 4, 4, 4, 4, 4, 5, 5, 5, 5, 5, 5, 5, 5, 5, 5, 5, 5, 5, 5, 5, 5, 6, 6, 6, 6, 6, 6, 6, 6, 6, 6, 6, 6, 6, 6, 6, 6, 6, 6, 6, 6, 6, 6, 6, 6, 6, 6, 6, 6, 6, 6, 6, 6, 7, 7, 7, 7, 7, 7, 7, 7, 7, 7, 7, 7, 7, 7, 7, 7, 7, 7, 7, 7, 7, 7, 7, 7, 7, 7, 7, 7, 7, 7, 7, 7, 7, 7, 7, 7, 7, 7, 7, 7, 7, 7, 7, 7, 7, 7, 7, 7, 7, 7, 7, 7, 7, 7, 7, 7, 7, 7, 7, 7, 7, 7, 7, 7, 8, 8, 8, 8, 8, 8, 8, 8, 8, 8, 8, 8, 8, 8, 8, 8, 8, 8, 8, 8, 8, 8, 8, 8, 8, 8, 8, 8, 8, 8, 8, 8, 8, 8, 8, 8, 8, 8, 8, 8, 8, 8, 8, 8, 8, 8, 8, 8, 8, 8, 8, 8, 8, 8, 8, 8, 8, 8, 8, 8, 8, 8, 8, 8, 8, 8, 8, 8, 8, 8, 8, 8, 8, 8, 8, 8, 8, 8, 8, 8, 8, 8, 8, 8, 8, 8, 8, 8, 8, 8, 8, 8, 8, 8, 8, 8, 8, 8, 8, 8, 8, 8, 8, 8, 8, 8, 8, 8, 8, 8, 8, 8, 8, 8, 8, 8, 8, 8, 8, 8, 8, 8, 8, 8, 8, 8, 8, 8]⟩) v21_2) fun v22_2 =>
  ConvI .i64 v22_2 fun v23_2 =>
  BinI .add v18_1 v23_2 fun v24_2 =>
  KR v24_2)
  (ConvI .u8 v0 fun v21_3 =>
  Ex pg (Instr.index 9 (.string ⟨#[0, 1, 2, 2, 3, 3, 3, 3, 4, 4, 4, 4, 4, 4, 4, 4, 5, 5, 5, 5, 5, 5, 5, 5, 5, 5, 5, 5, 5, 5, 5, 5, 6, 6, 6, 6, 6, 6, 6, 6, 6, 6, 6, 6, 6, 6, 6, 6, 6, 6, 6, 6, 6, 6, 6, 6, 6, 6, 6, 6, 6, 6, 6, 6, 7, 7, 7, 7, 7, 7, 7, 7, 7, 7, 7, 7, 7, 7, 7, 7, 7, 7, 7, 7, 7, 7, 7, 7, 7, 7, 7, 7, 7, 7, 7, 7, 7, 7, 7, 7, 7, 7, 7, 7, 7, 7, 7, 7, 7, 7, 7, 7, 7, 7, 7, 7, 7, 7, 7, 7, 7, 7, 7, 7, 7, 7, 7, 7, 8, 8, 8, 8, 8, 8, 8, 8, 8, 8, 8, 8, 8, 8, 8, 8, 8, 8, 8, 8, 8, 8, 8, 8, 8, 8, 8, 8, 8, 8, 8, 8, 8, 8, 8, 8, 8, 8, 8, 8, 8, 8, 8, 8, 8, 8, 8, 8, 8, 8, 8, 8, 8, 8, 8, 8, 8, 8, 8, 8, 8, 8, 8, 8, 8, 8, 8, 8, 8, 8, 8, 8, 8, 8, 8, 8, 8, 8, 8, 8, 8, 8, 8, 8, 8, 8, 8, 8, 8, 8, 8, 8, 8, 8, 8, 8, 8, 8, 8, 8, 8, 8, 8, 8, 8, 8, 8, 8, 8, 8, 8, 8, 8, 8, 8, 8, 8, 8, 8, 8, 8, 8, 8, 8, 8, 8, 8, 8]⟩) v21_3) fun v22_3 =>
  ConvI .i64 v22_3 fun v23_3 =>
  BinI .add v2 v23_3 fun v24_3 =>
  KR v24_3))))
  fun vK =>
  BinI .geq a0 (.int .u64 4294967296) fun v4 =>
  Cnd v4 (BinI .shr a0 (.int .u64 32) fun v6 =>
  vK [v6, (.int .i64 32)])
  (vK [a0, (.int .i64 0)])
theorem V.math_bits_Len64_ok {a0 : Value} {K : Value → WP} {w : World} (h : V.math_bits_Len64 a0 K w) : Cl pg 60 #[a0] K w :=
  cl_of pg_mixed Try.func60 (args := [a0]) (by kernel_rfl) (by rw [show WF pg Try.f60 [a0] K = V.math_bits_Len64 a0 K from by kernel_rfl]; exact h)

def V.slices_siftDownCmpFunc_wait (a0 a1 a2 a3 a4 : Value) (KR : Value → WP) : WP :=
  LoopC [a1] fun vK vs => AllE <|
  UN vs fun v10 _ =>
  BinI .mul (.int .i64 2) v10 fun v14 =>
  BinI .add v14 (.int .i64 1) fun v15 =>
  BinI .geq v15 a2 fun v18 =>
  Cnd v18 (KR (.tuple #[]))
  (JoinC (fun vs => AllE (UN vs fun v11 _ =>
  Drw <| QtC fun I =>
  QE I (fun KK => BinI .add a3 v10 fun v47 =>
  KK v47) fun v47_1 =>
  QE I (fun KK => IA 3 a0 v47_1 fun v48 =>
  KK v48) fun v48_1 =>
  QE I (fun KK => LdN 3 v48_1 fun v49 =>
  KK v49) fun v49_1 =>
  QE I (fun KK => BinI .add a3 v11 fun v53 =>
  KK v53) fun v53_1 =>
  QE I (fun KK => IA 3 a0 v53_1 fun v54 =>
  KK v54) fun v54_1 =>
  QE I (fun KK => LdN 3 v54_1 fun v55 =>
  KK v55) fun v55_1 =>
  FnV pg a4 #[v49_1, v55_1] fun v56 =>
  BinI .lss v56 (.int .i64 0) fun v57 =>
  Un .not v57 fun v58 =>
  Cnd v58 (KR (.tuple #[]))
  (Drw <| QtC fun I =>
  QE I (fun KK => BinI .add a3 v10 fun v62 =>
  KK v62) fun v62_1 =>
  QE I (fun KK => BinI .add a3 v11 fun v66 =>
  KK v66) fun v66_1 =>
  QE I (fun KK => BinI .add a3 v11 fun v70 =>
  KK v70) fun v70_1 =>
  QE I (fun KK => IA 3 a0 v70_1 fun v71 =>
  KK v71) fun v71_1 =>
  QE I (fun KK => LdN 3 v71_1 fun v72 =>
  KK v72) fun v72_1 =>
  QE I (fun KK => BinI .add a3 v10 fun v76 =>
  KK v76) fun v76_1 =>
  QE I (fun KK => IA 3 a0 v76_1 fun v77 =>
  KK v77) fun v77_1 =>
  QE I (fun KK => LdN 3 v77_1 fun v78 =>
  KK v78) fun v78_1 =>
  QE I (fun KK => IA 3 a0 v62_1 fun v79 =>
  KK v79) fun v79_1 =>
  St 3 v79_1 v72_1 fun _ =>
  CH I <|
  IA 3 a0 v66_1 fun v80 =>
  St 3 v80 v78_1 fun _ =>
  vK [v11])))
  fun vK_1 =>
  Drw <| QtC fun I =>
  QE I (fun KK => BinI .add v15 (.int .i64 1) fun v20 =>
  KK v20) fun v20_1 =>
  BinI .lss v20_1 a2 fun v22 =>
  QtC fun I =>
  Grd v22 true (QE I (fun KK => BinI .add a3 v15 fun v28 =>
  KK v28) fun v28_1 =>
  QE I (fun KK => IA 3 a0 v28_1 fun v29 =>
  KK v29) fun v29_1 =>
  QE I (fun KK => LdN 3 v29_1 fun v30 =>
  KK v30) fun v30_1 =>
  QE I (fun KK => BinI .add a3 v15 fun v34 =>
  KK v34) fun v34_1 =>
  QE I (fun KK => BinI .add v34_1 (.int .i64 1) fun v35 =>
  KK v35) fun v35_1 =>
  QE I (fun KK => IA 3 a0 v35_1 fun v36 =>
  KK v36) fun v36_1 =>
  QE I (fun KK => LdN 3 v36_1 fun v37 =>
  KK v37) fun v37_1 =>
  FnV pg a4 #[v30_1, v37_1] fun v38 =>
  BinI .lss v38 (.int .i64 0) fun v39 =>
  Cnd v39 (BinI .add v15 (.int .i64 1) fun v42 =>
  vK_1 [v42])
  (vK_1 [v15]))
  (vK_1 [v15]))
theorem V.slices_siftDownCmpFunc_wait_ok {a0 a1 a2 a3 a4 : Value} {K : Value → WP} {w : World} (h : V.slices_siftDownCmpFunc_wait a0 a1 a2 a3 a4 K w) : Cl pg 61 #[a0, a1, a2, a3, a4] K w :=
  cl_of pg_mixed Try.func61 (args := [a0, a1, a2, a3, a4]) (by kernel_rfl) (by rw [show WF pg Try.f61 [a0, a1, a2, a3, a4] K = V.slices_siftDownCmpFunc_wait a0 a1 a2 a3 a4 K from by kernel_rfl]; exact h)

def V.slices_nextPowerOfTwo (a0 : Value) (KR : Value → WP) : WP :=
  ConvI .u64 a0 fun v4 =>
  FnV pg (.func (.func 49) #[] #[]) #[v4] fun v5 =>
  BinI .shl (.int .u64 1) v5 fun v6 =>
  KR v6
theorem V.slices_nextPowerOfTwo_ok {a0 : Value} {K : Value → WP} {w : World} (h : V.slices_nextPowerOfTwo a0 K w) : Cl pg 62 #[a0] K w :=
  cl_of pg_mixed Try.func62 (args := [a0]) (by kernel_rfl) (by rw [show WF pg Try.f62 [a0] K = V.slices_nextPowerOfTwo a0 K from by kernel_rfl]; exact h)

def V.slices_xorshift_Next (a0 : Value) (KR : Value → WP) : WP :=
  Drw <| QtC fun I =>
  QE I (fun KK => NilC a0 fun v4 =>
  KK v4) fun v4_1 =>
  QE I (fun KK => Ld1 v4_1 fun v5 =>
  KK v5) fun v5_1 =>
  QE I (fun KK => NilC a0 fun v7 =>
  KK v7) fun v7_1 =>
  QE I (fun KK => Ld1 v7_1 fun v8 =>
  KK v8) fun v8_1 =>
  QE I (fun KK => BinI .shl v8_1 (.int .u64 13) fun v9 =>
  KK v9) fun v9_1 =>
  BinI .xor v5_1 v9_1 fun v10 =>
  NilC a0 fun v11 =>
  St 1 v11 v10 fun _ =>
  Drw <| QtC fun I =>
  QE I (fun KK => NilC a0 fun v13 =>
  KK v13) fun v13_1 =>
  QE I (fun KK => Ld1 v13_1 fun v14 =>
  KK v14) fun v14_1 =>
  QE I (fun KK => NilC a0 fun v16 =>
  KK v16) fun v16_1 =>
  QE I (fun KK => Ld1 v16_1 fun v17 =>
  KK v17) fun v17_1 =>
  QE I (fun KK => BinI .shr v17_1 (.int .u64 7) fun v18 =>
  KK v18) fun v18_1 =>
  BinI .xor v14_1 v18_1 fun v19 =>
  NilC a0 fun v20 =>
  St 1 v20 v19 fun _ =>
  Drw <| QtC fun I =>
  QE I (fun KK => NilC a0 fun v22 =>
  KK v22) fun v22_1 =>
  QE I (fun KK => Ld1 v22_1 fun v23 =>
  KK v23) fun v23_1 =>
  QE I (fun KK => NilC a0 fun v25 =>
  KK v25) fun v25_1 =>
  QE I (fun KK => Ld1 v25_1 fun v26 =>
  KK v26) fun v26_1 =>
  QE I (fun KK => BinI .shl v26_1 (.int .u64 17) fun v27 =>
  KK v27) fun v27_1 =>
  BinI .xor v23_1 v27_1 fun v28 =>
  NilC a0 fun v29 =>
  St 1 v29 v28 fun _ =>
  NilC a0 fun v31 =>
  Ld1 v31 fun v32 =>
  KR v32
theorem V.slices_xorshift_Next_ok {a0 : Value} {K : Value → WP} {w : World} (h : V.slices_xorshift_Next a0 K w) : Cl pg 63 #[a0] K w :=
  cl_of pg_mixed Try.func63 (args := [a0]) (by kernel_rfl) (by rw [show WF pg Try.f63 [a0] K = V.slices_xorshift_Next a0 K from by kernel_rfl]; exact h)

def V.slices_medianAdjacentCmpFunc_wait (a0 a1 a2 a3 : Value) (KR : Value → WP) : WP :=
  BinI .sub a1 (.int .i64 1) fun v11 =>
  BinI .add a1 (.int .i64 1) fun v14 =>
  FnV pg (.func (.func 65) #[] #[]) #[a0, v11, a1, v14, a2, a3] fun v17 =>
  KR v17
theorem V.slices_medianAdjacentCmpFunc_wait_ok {a0 a1 a2 a3 : Value} {K : Value → WP} {w : World} (h : V.slices_medianAdjacentCmpFunc_wait a0 a1 a2 a3 K w) : Cl pg 64 #[a0, a1, a2, a3] K w :=
  cl_of pg_mixed Try.func64 (args := [a0, a1, a2, a3]) (by kernel_rfl) (by rw [show WF pg Try.f64 [a0, a1, a2, a3] K = V.slices_medianAdjacentCmpFunc_wait a0 a1 a2 a3 K from by kernel_rfl]; exact h)

def V.slices_medianCmpFunc_wait (a0 a1 a2 a3 a4 a5 : Value) (KR : Value → WP) : WP :=
  FnV pg (.func (.func 66) #[] #[]) #[a0, a1, a2, a4, a5] fun v19 =>
  Ext v19 0 fun v20 =>
  Ext v19 1 fun v21 =>
  FnV pg (.func (.func 66) #[] #[]) #[a0, v21, a3, a4, a5] fun v28 =>
  Ext v28 0 fun v29 =>
  Ext v28 1 fun _ =>
  FnV pg (.func (.func 66) #[] #[]) #[a0, v20, v29, a4, a5] fun v37 =>
  Ext v37 0 fun _ =>
  Ext v37 1 fun v39 =>
  KR v39
theorem V.slices_medianCmpFunc_wait_ok {a0 a1 a2 a3 a4 a5 : Value} {K : Value → WP} {w : World} (h : V.slices_medianCmpFunc_wait a0 a1 a2 a3 a4 a5 K w) : Cl pg 65 #[a0, a1, a2, a3, a4, a5] K w :=
  cl_of pg_mixed Try.func65 (args := [a0, a1, a2, a3, a4, a5]) (by kernel_rfl) (by rw [show WF pg Try.f65 [a0, a1, a2, a3, a4, a5] K = V.slices_medianCmpFunc_wait a0 a1 a2 a3 a4 a5 K from by kernel_rfl]; exact h)

def V.slices_order2CmpFunc_wait (a0 a1 a2 a3 a4 : Value) (KR : Value → WP) : WP :=
  Drw <| QtC fun I =>
  QE I (fun KK => IA 3 a0 a2 fun v15 =>
  KK v15) fun v15_1 =>
  QE I (fun KK => LdN 3 v15_1 fun v16 =>
  KK v16) fun v16_1 =>
  QE I (fun KK => IA 3 a0 a1 fun v19 =>
  KK v19) fun v19_1 =>
  QE I (fun KK => LdN 3 v19_1 fun v20 =>
  KK v20) fun v20_1 =>
  FnV pg a4 #[v16_1, v20_1] fun v21 =>
  BinI .lss v21 (.int .i64 0) fun v22 =>
  Cnd v22 (NilC a3 fun v24 =>
  Ld1 v24 fun v25 =>
  BinI .add v25 (.int .i64 1) fun v26 =>
  NilC a3 fun v27 =>
  St 1 v27 v26 fun _ =>
  KR (.tuple #[a2, a1]))
  (KR (.tuple #[a1, a2]))
theorem V.slices_order2CmpFunc_wait_ok {a0 a1 a2 a3 a4 : Value} {K : Value → WP} {w : World} (h : V.slices_order2CmpFunc_wait a0 a1 a2 a3 a4 K w) : Cl pg 66 #[a0, a1, a2, a3, a4] K w :=
  cl_of pg_mixed Try.func66 (args := [a0, a1, a2, a3, a4]) (by kernel_rfl) (by rw [show WF pg Try.f66 [a0, a1, a2, a3, a4] K = V.slices_order2CmpFunc_wait a0 a1 a2 a3 a4 K from by kernel_rfl]; exact h)
end Go.Proofs.Ythjkmgckkacegaa
