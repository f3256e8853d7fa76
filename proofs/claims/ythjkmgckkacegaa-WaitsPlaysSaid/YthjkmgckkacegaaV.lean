/- What each function asks, printed by a program of this session's own; each is checked against the code. -/
import Derived.Test.YthjkmgckkacegaaBj
import Derived.Test.YthjkmgckkacegaaProg
set_option maxRecDepth 100000
namespace Go.Proofs.Ythjkmgckkacegaa
open Go Go.Jac
noncomputable abbrev pg : Program := Try.prog
theorem pg_mixed : pg.follows .mixedOrders = true := by kernel_rfl
def V.gosem_cut_init (KR : Value → WP) : WP :=
  FnV pg (.func (.func 1) #[] #[]) #[] fun _ =>
  KR (.tuple #[])
theorem V.gosem_cut_init_ok {K : Value → WP} {w : World} (h : V.gosem_cut_init  K w) : Cl pg 2 #[] K w :=
  cl_of pg_mixed Try.func2 (args := []) (by kernel_rfl) (by rw [show WF pg Try.f2 [] K = V.gosem_cut_init  K from by kernel_rfl]; exact h)

def V.jacinthlaw16_WaitsFirst (a0 a1 a2 : Value) (KR : Value → WP) : WP :=
  FnV pg (.func (.func 8) #[] #[]) #[(.int .i64 2)] fun v12 =>
  EqP false v12 (.pointer none) fun v14 =>
  Grd v14 false (LenS a0 fun v17 =>
  BinI .gtr v17 (.int .i64 12) fun v18 =>
  Cnd v18 (EqP true v12 (.pointer none) fun v21 =>
  Grd v21 true (FnV pg (.func (.func 9) #[] #[]) #[] fun v23 =>
  KR v23)
  (KR (.bool false)))
  (FnV pg (.func (.func 11) #[] #[]) #[a0] fun v27 =>
  FnV pg (.func (.func 10) #[] #[]) #[v12, (.int .i64 1), (.int .i64 9), v27] fun v28 =>
  BinI .neq v28 (.int .i64 0) fun v30 =>
  Cnd v30 (FnV pg (.func (.func 12) #[] #[]) #[v12] fun v32 =>
  BinI .eql v32 (.int .i64 0) fun v33 =>
  Grd v33 true (FnV pg (.func (.func 9) #[] #[]) #[] fun v35 =>
  KR v35)
  (KR (.bool false)))
  (LenS a0 fun v38 =>
  BinI .sub v38 (.int .i64 1) fun v39 =>
  LoopC [(.int .i64 (-1)), v39] fun vK vs => AllE <|
  UN vs fun v9 vs =>
  UN vs fun v10 _ =>
  BinI .geq v10 (.int .i64 0) fun v41 =>
  Cnd v41 (IA 2 a0 v10 fun v46 =>
  FA v46 0 fun v47 =>
  Ld1 v47 fun v48 =>
  BinI .eql v48 a1 fun v50 =>
  Grd v50 true (IA 2 a0 v10 fun v54 =>
  FA v54 1 fun v55 =>
  Ld1 v55 fun v56 =>
  BinI .and v56 a2 fun v58 =>
  BinI .neq v58 (.int .i64 0) fun v59 =>
  Cnd v59 (BinI .sub v10 (.int .i64 1) fun v43 =>
  vK [v10, v43])
  (BinI .sub v10 (.int .i64 1) fun v43_1 =>
  vK [v9, v43_1]))
  (BinI .sub v10 (.int .i64 1) fun v43_2 =>
  vK [v9, v43_2]))
  (FnV pg (.func (.func 13) #[] #[]) #[v12, a1, a2] fun v65 =>
  BinI .lss v9 (.int .i64 0) fun v67 =>
  Cnd v67 (LenS v65 fun v69 =>
  BinI .eql v69 (.int .i64 0) fun v70 =>
  Grd v70 true (FnV pg (.func (.func 14) #[] #[]) #[v12, (.int .i64 1)] fun v73 =>
  Grd v73 true (FnV pg (.func (.func 9) #[] #[]) #[] fun v76 =>
  KR v76)
  (KR (.bool false)))
  (KR (.bool false)))
  (LenS v65 fun v79 =>
  BinI .eql v79 (.int .i64 1) fun v80 =>
  Grd v80 true (IA 4 v65 (.int .i64 0) fun v83 =>
  FA v83 1 fun v84 =>
  Ld1 v84 fun v85 =>
  BinI .eql v85 v9 fun v87 =>
  Grd v87 true (FnV pg (.func (.func 14) #[] #[]) #[v12, (.int .i64 1)] fun v91 =>
  Un .not v91 fun v92 =>
  Grd v92 true (FnV pg (.func (.func 9) #[] #[]) #[] fun v95 =>
  KR v95)
  (KR (.bool false)))
  (KR (.bool false)))
  (KR (.bool false)))))))
  (EqP true v12 (.pointer none) fun v21_1 =>
  Grd v21_1 true (FnV pg (.func (.func 9) #[] #[]) #[] fun v23_1 =>
  KR v23_1)
  (KR (.bool false)))
theorem V.jacinthlaw16_WaitsFirst_ok {a0 a1 a2 : Value} {K : Value → WP} {w : World} (h : V.jacinthlaw16_WaitsFirst a0 a1 a2 K w) : Cl pg 3 #[a0, a1, a2] K w :=
  cl_of pg_mixed Try.func3 (args := [a0, a1, a2]) (by kernel_rfl) (by rw [show WF pg Try.f3 [a0, a1, a2] K = V.jacinthlaw16_WaitsFirst a0 a1 a2 K from by kernel_rfl]; exact h)

def V.jacinthlaw16_WaitsForget (a0 a1 : Value) (KR : Value → WP) : WP :=
  FnV pg (.func (.func 8) #[] #[]) #[(.int .i64 100)] fun v14 =>
  EqP false v14 (.pointer none) fun v16 =>
  Grd v16 false (LenS a0 fun v19 =>
  BinI .gtr v19 (.int .i64 60) fun v20 =>
  Cnd v20 (EqP true v14 (.pointer none) fun v23 =>
  Grd v23 true (FnV pg (.func (.func 9) #[] #[]) #[] fun v25 =>
  KR v25)
  (KR (.bool false)))
  (LenS a0 fun v28 =>
  LoopC [(.slice none 0 0), (.int .i64 0)] fun vK vs => AllE <|
  UN vs fun v6 vs =>
  UN vs fun v29 _ =>
  BinI .lss v29 v28 fun v30 =>
  Cnd v30 (IA 1 a0 v29 fun v31 =>
  Ld1 v31 fun v32 =>
  Ex pg (bldS #[(.int .i64 0), (.int .i64 0)] [(0, 1), (1, 1)] #[(0, (.int .i64 2)), (1, (.int .i64 1))]) fun v35 =>
  BSlC 42 2 #[(.int .i64 0), (.int .i64 0)] 1 #[(0, v35)] fun v36 =>
  FnV pg (.func (.func 10) #[] #[]) #[v14, v32, (.int .i64 5), v36] fun v37 =>
  BinI .eql v37 (.int .i64 0) fun v38 =>
  Cnd v38 (BSlC 3 1 #[(.int .i64 0)] 1 #[(0, v32)] fun v41 =>
  AppC 3 1 8 #[(.int .i64 0)] v6 v41 fun v42 =>
  BinI .add v29 (.int .i64 1) fun v43 =>
  vK [v42, v43])
  (BinI .add v29 (.int .i64 1) fun v43_1 =>
  vK [v6, v43_1]))
  (BinI .lss a1 (.int .i64 0) fun v45 =>
  Grd v45 false (LenS v6 fun v49 =>
  BinI .geq a1 v49 fun v50 =>
  Cnd v50 (FnV pg (.func (.func 12) #[] #[]) #[v14] fun v53 =>
  LenS v6 fun v55 =>
  BinI .eql v53 v55 fun v56 =>
  Grd v56 true (FnV pg (.func (.func 9) #[] #[]) #[] fun v58 =>
  KR v58)
  (KR (.bool false)))
  (IA 1 v6 a1 fun v62 =>
  Ld1 v62 fun v63 =>
  FnV pg (.func (.func 15) #[] #[]) #[v14, v63] fun v66 =>
  BinI .neq v66 (.int .i64 0) fun v67 =>
  Grd v67 false (FnV pg (.func (.func 15) #[] #[]) #[v14, v63] fun v71 =>
  BinI .neq v71 (.int .i64 (-25)) fun v72 =>
  Grd v72 false (FnV pg (.func (.func 14) #[] #[]) #[v14, v63] fun v77 =>
  Cnd v77 (KR (.bool false))
  (Ex pg (bldS #[(.int .i64 0), (.int .i64 0)] [(0, 1), (1, 1)] #[(0, (.int .i64 3)), (1, (.int .i64 1))]) fun v81 =>
  BSlC 42 2 #[(.int .i64 0), (.int .i64 0)] 1 #[(0, v81)] fun v82 =>
  FnV pg (.func (.func 10) #[] #[]) #[v14, v63, (.int .i64 9), v82] fun v83 =>
  BinI .neq v83 (.int .i64 0) fun v84 =>
  Cnd v84 (KR (.bool false))
  (FnV pg (.func (.func 13) #[] #[]) #[v14, (.int .i64 2), (.int .i64 1)] fun v86 =>
  LenS v86 fun v88 =>
  LenS v6 fun v90 =>
  BinI .sub v90 (.int .i64 1) fun v91 =>
  BinI .neq v88 v91 fun v92 =>
  Grd v92 false (FnV pg (.func (.func 14) #[] #[]) #[v14, v63] fun v96 =>
  Un .not v96 fun v97 =>
  Grd v97 false (FnV pg (.func (.func 12) #[] #[]) #[v14] fun v101 =>
  BinI .neq v101 (.int .i64 1) fun v102 =>
  Cnd v102 (KR (.bool false))
  (LenS v86 fun v105 =>
  LoopC [(.bool false), (.int .i64 0)] fun vK_1 vs => AllE <|
  UN vs fun v4 vs =>
  UN vs fun v106 _ =>
  BinI .lss v106 v105 fun v107 =>
  Cnd v107 (IA 4 v86 v106 fun v108 =>
  LdN 4 v108 fun v109 =>
  New 38 #[(.int .i64 0), (.int .i64 0), (.int .i64 0), (.int .i64 0)] fun v12 =>
  St 4 v12 v109 fun _ =>
  FA v12 0 fun v110 =>
  Ld1 v110 fun v111 =>
  BinI .eql v111 v63 fun v113 =>
  Cnd v113 (KR (.bool false))
  (BinI .add v106 (.int .i64 1) fun v114 =>
  vK_1 [v4, v114]))
  (FnV pg (.func (.func 16) #[] #[]) #[v14, (.int .i64 3)] fun v116 =>
  LenS v116 fun v118 =>
  BinI .eql v118 (.int .i64 1) fun v119 =>
  Grd v119 true (IA 4 v116 (.int .i64 0) fun v122 =>
  FA v122 0 fun v123 =>
  Ld1 v123 fun v124 =>
  BinI .eql v124 v63 fun v126 =>
  Grd v126 true (IA 4 v116 (.int .i64 0) fun v130 =>
  FA v130 2 fun v131 =>
  Ld1 v131 fun v132 =>
  BinI .eql v132 (.int .i64 (-23)) fun v133 =>
  Grd v133 true (FnV pg (.func (.func 9) #[] #[]) #[] fun v136 =>
  KR v136)
  (KR (.bool false)))
  (KR (.bool false)))
  (KR (.bool false)))))
  (KR (.bool false)))
  (KR (.bool false)))))
  (KR (.bool false)))
  (KR (.bool false))))
  (FnV pg (.func (.func 12) #[] #[]) #[v14] fun v53_1 =>
  LenS v6 fun v55_1 =>
  BinI .eql v53_1 v55_1 fun v56_1 =>
  Grd v56_1 true (FnV pg (.func (.func 9) #[] #[]) #[] fun v58_1 =>
  KR v58_1)
  (KR (.bool false))))))
  (EqP true v14 (.pointer none) fun v23_1 =>
  Grd v23_1 true (FnV pg (.func (.func 9) #[] #[]) #[] fun v25_1 =>
  KR v25_1)
  (KR (.bool false)))
theorem V.jacinthlaw16_WaitsForget_ok {a0 a1 : Value} {K : Value → WP} {w : World} (h : V.jacinthlaw16_WaitsForget a0 a1 K w) : Cl pg 4 #[a0, a1] K w :=
  cl_of pg_mixed Try.func4 (args := [a0, a1]) (by kernel_rfl) (by rw [show WF pg Try.f4 [a0, a1] K = V.jacinthlaw16_WaitsForget a0 a1 K from by kernel_rfl]; exact h)

def V.jacinthlaw16_WaitsOrder (a0 a1 a2 : Value) (KR : Value → WP) : WP :=
  FnV pg (.func (.func 8) #[] #[]) #[(.int .i64 100)] fun v28 =>
  FnV pg (.func (.func 8) #[] #[]) #[(.int .i64 100)] fun v29 =>
  EqP false v28 (.pointer none) fun v31 =>
  Grd v31 false (EqP false v29 (.pointer none) fun v34 =>
  Grd v34 false (LenS a0 fun v38 =>
  BinI .gtr v38 (.int .i64 60) fun v39 =>
  Grd v39 false (LenS a1 fun v43 =>
  LenS a0 fun v45 =>
  BinI .lss v43 v45 fun v46 =>
  Cnd v46 (EqP true v28 (.pointer none) fun v49 =>
  Grd v49 true (EqP true v29 (.pointer none) fun v52 =>
  Grd v52 true (FnV pg (.func (.func 9) #[] #[]) #[] fun v55 =>
  KR v55)
  (KR (.bool false)))
  (KR (.bool false)))
  (LenS a0 fun v58 =>
  LoopC [(.bool false), (.slice none 0 0), (.int .i64 0)] fun vK vs => AllE <|
  UN vs fun v6 vs =>
  UN vs fun v9 vs =>
  UN vs fun v59 _ =>
  BinI .lss v59 v58 fun v60 =>
  Cnd v60 (IA 1 a0 v59 fun v62 =>
  Ld1 v62 fun v63 =>
  IA 1 a1 v59 fun v68 =>
  Ld1 v68 fun v69 =>
  Ex pg (bldS #[(.int .i64 0), (.int .i64 0)] [(0, 1), (1, 1)] #[(0, (.int .i64 4)), (1, (.int .i64 1))]) fun v70 =>
  BSlC 42 2 #[(.int .i64 0), (.int .i64 0)] 1 #[(0, v70)] fun v71 =>
  FnV pg (.func (.func 10) #[] #[]) #[v28, v63, v69, v71] fun v72 =>
  IA 1 a1 v59 fun v78 =>
  Ld1 v78 fun v79 =>
  Ex pg (bldS #[(.int .i64 0), (.int .i64 0)] [(0, 1), (1, 1)] #[(0, (.int .i64 4)), (1, (.int .i64 1))]) fun v80 =>
  BSlC 42 2 #[(.int .i64 0), (.int .i64 0)] 1 #[(0, v80)] fun v81 =>
  FnV pg (.func (.func 10) #[] #[]) #[v29, v63, v79, v81] fun v82 =>
  BinI .neq v72 v82 fun v83 =>
  Cnd v83 (KR (.bool false))
  (BinI .eql v72 (.int .i64 0) fun v85 =>
  Cnd v85 (BSlC 3 1 #[(.int .i64 0)] 1 #[(0, v63)] fun v88 =>
  AppC 3 1 8 #[(.int .i64 0)] v9 v88 fun v89 =>
  BinI .add v59 (.int .i64 1) fun v90 =>
  vK [v6, v89, v90])
  (BinI .add v59 (.int .i64 1) fun v90_1 =>
  vK [v6, v9, v90_1])))
  (FnV pg (.func (.func 13) #[] #[]) #[v28, (.int .i64 4), (.int .i64 3)] fun v92 =>
  LenS v92 fun v94 =>
  LenS v9 fun v96 =>
  BinI .neq v94 v96 fun v97 =>
  Grd v97 false (FnV pg (.func (.func 12) #[] #[]) #[v28] fun v100 =>
  BinI .neq v100 (.int .i64 0) fun v101 =>
  Cnd v101 (KR (.bool false))
  (LenS v92 fun v104 =>
  LoopC [v6, (.int .i64 0)] fun vK_1 vs => AllE <|
  UN vs fun v6_1 vs =>
  UN vs fun v105 _ =>
  BinI .lss v105 v104 fun v106 =>
  Cnd v106 (IA 4 v92 v105 fun v108 =>
  LdN 4 v108 fun v109 =>
  New 38 #[(.int .i64 0), (.int .i64 0), (.int .i64 0), (.int .i64 0)] fun v15 =>
  St 4 v15 v109 fun _ =>
  Drw <| QtC fun I =>
  QE I (fun KK => FA v15 0 fun v110 =>
  KK v110) fun v110_1 =>
  QE I (fun KK => Ld1 v110_1 fun v111 =>
  KK v111) fun v111_1 =>
  QE I (fun KK => IA 1 v9 v105 fun v114 =>
  KK v114) fun v114_1 =>
  QE I (fun KK => Ld1 v114_1 fun v115 =>
  KK v115) fun v115_1 =>
  BinI .neq v111_1 v115_1 fun v116 =>
  Grd v116 false (FA v15 1 fun v118 =>
  Ld1 v118 fun v119 =>
  BinI .neq v119 (.int .i64 0) fun v120 =>
  Grd v120 false (FA v15 3 fun v123 =>
  Ld1 v123 fun v124 =>
  BinI .neq v124 (.int .i64 3) fun v125 =>
  Grd v125 false (FA v15 2 fun v128 =>
  Ld1 v128 fun v129 =>
  BinI .neq v129 (.int .i64 0) fun v130 =>
  Cnd v130 (KR (.bool false))
  (BinI .add v105 (.int .i64 1) fun v132 =>
  vK_1 [v6_1, v132]))
  (KR (.bool false)))
  (KR (.bool false)))
  (KR (.bool false)))
  (Ex pg (Instr.makeMap 46 none) fun v133 =>
  LenS v9 fun v135 =>
  LoopC [(.int .i64 0)] fun vK_2 vs => AllE <|
  UN vs fun v136 _ =>
  BinI .lss v136 v135 fun v137 =>
  Cnd v137 (IA 1 v9 v136 fun v138 =>
  Ld1 v138 fun v139 =>
  FnV pg (.func (.func 17) #[] #[]) #[v29, v139] fun v145 =>
  Ext v145 0 fun v146 =>
  Ext v145 1 fun _ =>
  Ex pg (do Instr.mapUpdate 46 v133 v139 v146; pure undef) fun _ =>
  BinI .add v136 (.int .i64 1) fun v148 =>
  vK_2 [v148])
  (FnV pg (.func (.func 18) #[] #[]) #[v29, a2] fun v151 =>
  LenS v151 fun v153 =>
  LoopC [v6_1, (.int .i64 0), (.int .i64 0), (.int .i64 0)] fun vK_3 vs => AllE <|
  UN vs fun v6_2 vs =>
  UN vs fun v20 vs =>
  UN vs fun v21 vs =>
  UN vs fun v154 _ =>
  BinI .lss v154 v153 fun v155 =>
  Cnd v155 (IA 4 v151 v154 fun v157 =>
  LdN 4 v157 fun v158 =>
  New 38 #[(.int .i64 0), (.int .i64 0), (.int .i64 0), (.int .i64 0)] fun v23 =>
  St 4 v23 v158 fun _ =>
  FA v23 0 fun v161 =>
  Ld1 v161 fun v162 =>
  Ex pg (Instr.lookup 46 v133 v162 true) fun v163 =>
  Ext v163 0 fun v164 =>
  Ext v163 1 fun v165 =>
  Un .not v165 fun v167 =>
  Grd v167 false (BinI .gtr v164 a2 fun v171 =>
  Grd v171 false (FA v23 2 fun v174 =>
  Ld1 v174 fun v175 =>
  BinI .neq v175 (.int .i64 (-21)) fun v176 =>
  Grd v176 false (BinI .gtr v154 (.int .i64 0) fun v180 =>
  Grd v180 true (BinI .gtr v20 v164 fun v184 =>
  Grd v184 false (BinI .eql v20 v164 fun v188 =>
  Grd v188 true (FA v23 0 fun v191 =>
  Ld1 v191 fun v192 =>
  BinI .geq v21 v192 fun v193 =>
  Cnd v193 (KR (.bool false))
  (Drw <| QtC fun I =>
  QE I (fun KK => FA v23 0 fun v199 =>
  KK v199) fun v199_1 =>
  QE I (fun KK => Ld1 v199_1 fun v200 =>
  KK v200) fun v200_1 =>
  FA v23 0 fun v202 =>
  Ld1 v202 fun v203 =>
  Ex pg (Builtin.delete_ #[46, 3] 0 #[v133, v203]) fun _ =>
  BinI .add v154 (.int .i64 1) fun v204 =>
  vK_3 [v6_2, v164, v200_1, v204]))
  (Drw <| QtC fun I =>
  QE I (fun KK => FA v23 0 fun v199_2 =>
  KK v199_2) fun v199_3 =>
  QE I (fun KK => Ld1 v199_3 fun v200_2 =>
  KK v200_2) fun v200_3 =>
  FA v23 0 fun v202_1 =>
  Ld1 v202_1 fun v203_1 =>
  Ex pg (Builtin.delete_ #[46, 3] 0 #[v133, v203_1]) fun _ =>
  BinI .add v154 (.int .i64 1) fun v204_1 =>
  vK_3 [v6_2, v164, v200_3, v204_1]))
  (KR (.bool false)))
  (Drw <| QtC fun I =>
  QE I (fun KK => FA v23 0 fun v199_4 =>
  KK v199_4) fun v199_5 =>
  QE I (fun KK => Ld1 v199_5 fun v200_4 =>
  KK v200_4) fun v200_5 =>
  FA v23 0 fun v202_2 =>
  Ld1 v202_2 fun v203_2 =>
  Ex pg (Builtin.delete_ #[46, 3] 0 #[v133, v203_2]) fun _ =>
  BinI .add v154 (.int .i64 1) fun v204_2 =>
  vK_3 [v6_2, v164, v200_5, v204_2]))
  (KR (.bool false)))
  (KR (.bool false)))
  (KR (.bool false)))
  (Ex pg (Instr.range 46 v133) fun v206 =>
  LoopC [v6_2] fun vK_4 vs => AllE <|
  UN vs fun v6_3 _ =>
  Ex pg (Instr.next v206 false 0) fun v207 =>
  Ext v207 0 fun v208 =>
  Cnd v208 (Ex pg (Instr.entry v206) fun v209 =>
  Ext v209 1 fun v210 =>
  BinI .leq v210 a2 fun v213 =>
  Cnd v213 (KR (.bool false))
  (vK_4 [v6_3]))
  (FnV pg (.func (.func 12) #[] #[]) #[v29] fun v215 =>
  Ex pg (Builtin.len_ #[46] 3 #[v133]) fun v217 =>
  BinI .eql v215 v217 fun v218 =>
  Grd v218 true (FnV pg (.func (.func 9) #[] #[]) #[] fun v220 =>
  KR v220)
  (KR (.bool false))))))))
  (KR (.bool false)))))
  (EqP true v28 (.pointer none) fun v49_1 =>
  Grd v49_1 true (EqP true v29 (.pointer none) fun v52_1 =>
  Grd v52_1 true (FnV pg (.func (.func 9) #[] #[]) #[] fun v55_1 =>
  KR v55_1)
  (KR (.bool false)))
  (KR (.bool false))))
  (EqP true v28 (.pointer none) fun v49_2 =>
  Grd v49_2 true (EqP true v29 (.pointer none) fun v52_2 =>
  Grd v52_2 true (FnV pg (.func (.func 9) #[] #[]) #[] fun v55_2 =>
  KR v55_2)
  (KR (.bool false)))
  (KR (.bool false))))
  (EqP true v28 (.pointer none) fun v49_3 =>
  Grd v49_3 true (EqP true v29 (.pointer none) fun v52_3 =>
  Grd v52_3 true (FnV pg (.func (.func 9) #[] #[]) #[] fun v55_3 =>
  KR v55_3)
  (KR (.bool false)))
  (KR (.bool false)))
theorem V.jacinthlaw16_WaitsOrder_ok {a0 a1 a2 : Value} {K : Value → WP} {w : World} (h : V.jacinthlaw16_WaitsOrder a0 a1 a2 K w) : Cl pg 5 #[a0, a1, a2] K w :=
  cl_of pg_mixed Try.func5 (args := [a0, a1, a2]) (by kernel_rfl) (by rw [show WF pg Try.f5 [a0, a1, a2] K = V.jacinthlaw16_WaitsOrder a0 a1 a2 K from by kernel_rfl]; exact h)

def V.jacinthlaw16_WaitsOnce (a0 : Value) (KR : Value → WP) : WP :=
  FnV pg (.func (.func 8) #[] #[]) #[(.int .i64 50)] fun v16 =>
  EqP false v16 (.pointer none) fun v18 =>
  Grd v18 false (LenS a0 fun v21 =>
  BinI .gtr v21 (.int .i64 120) fun v22 =>
  Cnd v22 (EqP true v16 (.pointer none) fun v25 =>
  Grd v25 true (FnV pg (.func (.func 9) #[] #[]) #[] fun v27 =>
  KR v27)
  (KR (.bool false)))
  (Ex pg (Instr.makeMap 51 none) fun v29 =>
  LenS a0 fun v31 =>
  LoopC [(.bool false), (.int .i64 0)] fun vK vs => AllE <|
  UN vs fun v2 vs =>
  UN vs fun v32 _ =>
  BinI .lss v32 v31 fun v33 =>
  Cnd v33 (IA 5 a0 v32 fun v34 =>
  LdN 5 v34 fun v35 =>
  New 53 #[(.int .i64 0), (.int .i64 0), (.int .i64 0), (.int .i64 0), (.slice none 0 0)] fun v6 =>
  St 5 v6 v35 fun _ =>
  FA v6 4 fun v36 =>
  Ld1 v36 fun v37 =>
  LenS v37 fun v38 =>
  BinI .gtr v38 (.int .i64 12) fun v39 =>
  Cnd v39 (FnV pg (.func (.func 9) #[] #[]) #[] fun v40 =>
  KR v40)
  (JoinC (fun vs => AllE (UN vs fun v7 _ =>
  LenS v7 fun v84 =>
  LoopC [v2, (.int .i64 0)] fun vK_1 vs => AllE <|
  UN vs fun v2_1 vs =>
  UN vs fun v85 _ =>
  BinI .lss v85 v84 fun v86 =>
  Cnd v86 (IA 4 v7 v85 fun v87 =>
  LdN 4 v87 fun v88 =>
  New 38 #[(.int .i64 0), (.int .i64 0), (.int .i64 0), (.int .i64 0)] fun v9 =>
  St 4 v9 v88 fun _ =>
  FA v9 0 fun v91 =>
  Ld1 v91 fun v92 =>
  Ex pg (Instr.lookup 51 v29 v92 true) fun v93 =>
  Ext v93 0 fun v94 =>
  Ext v93 1 fun v95 =>
  New 55 #[(.int .i64 0), (.slice none 0 0)] fun v10 =>
  St 2 v10 v94 fun _ =>
  Un .not v95 fun v97 =>
  Cnd v97 (KR (.bool false))
  (Drw <| FA v6 0 fun v98 =>
  Ld1 v98 fun v99 =>
  BinI .eql v99 (.int .i64 3) fun v100 =>
  QtC fun I =>
  Grd v100 true (QE I (fun KK => FA v10 0 fun v102 =>
  KK v102) fun v102_1 =>
  QE I (fun KK => Ld1 v102_1 fun v103 =>
  KK v103) fun v103_1 =>
  QE I (fun KK => FA v6 3 fun v104 =>
  KK v104) fun v104_1 =>
  QE I (fun KK => Ld1 v104_1 fun v105 =>
  KK v105) fun v105_1 =>
  BinI .gtr v103_1 v105_1 fun v106 =>
  Grd v106 false (FA v6 0 fun v109 =>
  Ld1 v109 fun v110 =>
  BinI .neq v110 (.int .i64 3) fun v111 =>
  Grd v111 true (FA v9 1 fun v113 =>
  Ld1 v113 fun v114 =>
  BinI .lss v114 (.int .i64 0) fun v115 =>
  QtC fun I =>
  Grd v115 false (QE I (fun KK => FA v9 1 fun v117 =>
  KK v117) fun v117_1 =>
  QE I (fun KK => Ld1 v117_1 fun v118 =>
  KK v118) fun v118_1 =>
  QE I (fun KK => FA v10 1 fun v119 =>
  KK v119) fun v119_1 =>
  QE I (fun KK => Ld1 v119_1 fun v120 =>
  KK v120) fun v120_1 =>
  QE I (fun KK => LenS v120_1 fun v121 =>
  KK v121) fun v121_1 =>
  BinI .geq v118_1 v121_1 fun v122 =>
  QtC fun I =>
  Grd v122 false (QE I (fun KK => FA v10 1 fun v125 =>
  KK v125) fun v125_1 =>
  QE I (fun KK => Ld1 v125_1 fun v126 =>
  KK v126) fun v126_1 =>
  QE I (fun KK => FA v9 1 fun v127 =>
  KK v127) fun v127_1 =>
  QE I (fun KK => Ld1 v127_1 fun v128 =>
  KK v128) fun v128_1 =>
  QE I (fun KK => IA 2 v126_1 v128_1 fun v129 =>
  KK v129) fun v129_1 =>
  QE I (fun KK => FA v129_1 0 fun v130 =>
  KK v130) fun v130_1 =>
  QE I (fun KK => Ld1 v130_1 fun v131 =>
  KK v131) fun v131_1 =>
  QE I (fun KK => FA v6 2 fun v132 =>
  KK v132) fun v132_1 =>
  QE I (fun KK => Ld1 v132_1 fun v133 =>
  KK v133) fun v133_1 =>
  BinI .neq v131_1 v133_1 fun v134 =>
  Cnd v134 (KR (.bool false))
  (Drw <| FA v6 0 fun v138 =>
  Ld1 v138 fun v139 =>
  BinI .eql v139 (.int .i64 2) fun v140 =>
  QtC fun I =>
  Grd v140 true (QE I (fun KK => FA v10 1 fun v142 =>
  KK v142) fun v142_1 =>
  QE I (fun KK => Ld1 v142_1 fun v143 =>
  KK v143) fun v143_1 =>
  QE I (fun KK => FA v9 1 fun v144 =>
  KK v144) fun v144_1 =>
  QE I (fun KK => Ld1 v144_1 fun v145 =>
  KK v145) fun v145_1 =>
  QE I (fun KK => IA 2 v143_1 v145_1 fun v146 =>
  KK v146) fun v146_1 =>
  QE I (fun KK => FA v146_1 1 fun v147 =>
  KK v147) fun v147_1 =>
  QE I (fun KK => Ld1 v147_1 fun v148 =>
  KK v148) fun v148_1 =>
  QE I (fun KK => FA v6 3 fun v149 =>
  KK v149) fun v149_1 =>
  QE I (fun KK => Ld1 v149_1 fun v150 =>
  KK v150) fun v150_1 =>
  BinI .and v148_1 v150_1 fun v151 =>
  BinI .eql v151 (.int .i64 0) fun v152 =>
  Cnd v152 (KR (.bool false))
  (FA v9 0 fun v155 =>
  Ld1 v155 fun v156 =>
  Ex pg (Builtin.delete_ #[51, 3] 0 #[v29, v156]) fun _ =>
  BinI .add v85 (.int .i64 1) fun v157 =>
  vK_1 [v2_1, v157]))
  (FA v9 0 fun v155_1 =>
  Ld1 v155_1 fun v156_1 =>
  Ex pg (Builtin.delete_ #[51, 3] 0 #[v29, v156_1]) fun _ =>
  BinI .add v85 (.int .i64 1) fun v157_1 =>
  vK_1 [v2_1, v157_1])))
  (KR (.bool false)))
  (QtC fun _ =>
  KR (.bool false)))
  (QtC fun I =>
  QtC fun I =>
  Drw <| FA v6 0 fun v138_1 =>
  Ld1 v138_1 fun v139_1 =>
  BinI .eql v139_1 (.int .i64 2) fun v140_1 =>
  QtC fun I =>
  Grd v140_1 true (QE I (fun KK => FA v10 1 fun v142_2 =>
  KK v142_2) fun v142_3 =>
  QE I (fun KK => Ld1 v142_3 fun v143_2 =>
  KK v143_2) fun v143_3 =>
  QE I (fun KK => FA v9 1 fun v144_2 =>
  KK v144_2) fun v144_3 =>
  QE I (fun KK => Ld1 v144_3 fun v145_2 =>
  KK v145_2) fun v145_3 =>
  QE I (fun KK => IA 2 v143_3 v145_3 fun v146_2 =>
  KK v146_2) fun v146_3 =>
  QE I (fun KK => FA v146_3 1 fun v147_2 =>
  KK v147_2) fun v147_3 =>
  QE I (fun KK => Ld1 v147_3 fun v148_2 =>
  KK v148_2) fun v148_3 =>
  QE I (fun KK => FA v6 3 fun v149_2 =>
  KK v149_2) fun v149_3 =>
  QE I (fun KK => Ld1 v149_3 fun v150_2 =>
  KK v150_2) fun v150_3 =>
  BinI .and v148_3 v150_3 fun v151_1 =>
  BinI .eql v151_1 (.int .i64 0) fun v152_1 =>
  Cnd v152_1 (KR (.bool false))
  (FA v9 0 fun v155_2 =>
  Ld1 v155_2 fun v156_2 =>
  Ex pg (Builtin.delete_ #[51, 3] 0 #[v29, v156_2]) fun _ =>
  BinI .add v85 (.int .i64 1) fun v157_2 =>
  vK_1 [v2_1, v157_2]))
  (FA v9 0 fun v155_3 =>
  Ld1 v155_3 fun v156_3 =>
  Ex pg (Builtin.delete_ #[51, 3] 0 #[v29, v156_3]) fun _ =>
  BinI .add v85 (.int .i64 1) fun v157_3 =>
  vK_1 [v2_1, v157_3])))
  (QtC fun _ =>
  QtC fun _ =>
  KR (.bool false)))
  (FA v6 0 fun v109_1 =>
  Ld1 v109_1 fun v110_1 =>
  BinI .neq v110_1 (.int .i64 3) fun v111_1 =>
  Grd v111_1 true (FA v9 1 fun v113_1 =>
  Ld1 v113_1 fun v114_1 =>
  BinI .lss v114_1 (.int .i64 0) fun v115_1 =>
  QtC fun I =>
  Grd v115_1 false (QE I (fun KK => FA v9 1 fun v117_2 =>
  KK v117_2) fun v117_3 =>
  QE I (fun KK => Ld1 v117_3 fun v118_2 =>
  KK v118_2) fun v118_3 =>
  QE I (fun KK => FA v10 1 fun v119_2 =>
  KK v119_2) fun v119_3 =>
  QE I (fun KK => Ld1 v119_3 fun v120_2 =>
  KK v120_2) fun v120_3 =>
  QE I (fun KK => LenS v120_3 fun v121_2 =>
  KK v121_2) fun v121_3 =>
  BinI .geq v118_3 v121_3 fun v122_1 =>
  QtC fun I =>
  Grd v122_1 false (QE I (fun KK => FA v10 1 fun v125_2 =>
  KK v125_2) fun v125_3 =>
  QE I (fun KK => Ld1 v125_3 fun v126_2 =>
  KK v126_2) fun v126_3 =>
  QE I (fun KK => FA v9 1 fun v127_2 =>
  KK v127_2) fun v127_3 =>
  QE I (fun KK => Ld1 v127_3 fun v128_2 =>
  KK v128_2) fun v128_3 =>
  QE I (fun KK => IA 2 v126_3 v128_3 fun v129_2 =>
  KK v129_2) fun v129_3 =>
  QE I (fun KK => FA v129_3 0 fun v130_2 =>
  KK v130_2) fun v130_3 =>
  QE I (fun KK => Ld1 v130_3 fun v131_2 =>
  KK v131_2) fun v131_3 =>
  QE I (fun KK => FA v6 2 fun v132_2 =>
  KK v132_2) fun v132_3 =>
  QE I (fun KK => Ld1 v132_3 fun v133_2 =>
  KK v133_2) fun v133_3 =>
  BinI .neq v131_3 v133_3 fun v134_1 =>
  Cnd v134_1 (KR (.bool false))
  (Drw <| FA v6 0 fun v138_2 =>
  Ld1 v138_2 fun v139_2 =>
  BinI .eql v139_2 (.int .i64 2) fun v140_2 =>
  QtC fun I =>
  Grd v140_2 true (QE I (fun KK => FA v10 1 fun v142_4 =>
  KK v142_4) fun v142_5 =>
  QE I (fun KK => Ld1 v142_5 fun v143_4 =>
  KK v143_4) fun v143_5 =>
  QE I (fun KK => FA v9 1 fun v144_4 =>
  KK v144_4) fun v144_5 =>
  QE I (fun KK => Ld1 v144_5 fun v145_4 =>
  KK v145_4) fun v145_5 =>
  QE I (fun KK => IA 2 v143_5 v145_5 fun v146_4 =>
  KK v146_4) fun v146_5 =>
  QE I (fun KK => FA v146_5 1 fun v147_4 =>
  KK v147_4) fun v147_5 =>
  QE I (fun KK => Ld1 v147_5 fun v148_4 =>
  KK v148_4) fun v148_5 =>
  QE I (fun KK => FA v6 3 fun v149_4 =>
  KK v149_4) fun v149_5 =>
  QE I (fun KK => Ld1 v149_5 fun v150_4 =>
  KK v150_4) fun v150_5 =>
  BinI .and v148_5 v150_5 fun v151_2 =>
  BinI .eql v151_2 (.int .i64 0) fun v152_2 =>
  Cnd v152_2 (KR (.bool false))
  (FA v9 0 fun v155_4 =>
  Ld1 v155_4 fun v156_4 =>
  Ex pg (Builtin.delete_ #[51, 3] 0 #[v29, v156_4]) fun _ =>
  BinI .add v85 (.int .i64 1) fun v157_4 =>
  vK_1 [v2_1, v157_4]))
  (FA v9 0 fun v155_5 =>
  Ld1 v155_5 fun v156_5 =>
  Ex pg (Builtin.delete_ #[51, 3] 0 #[v29, v156_5]) fun _ =>
  BinI .add v85 (.int .i64 1) fun v157_5 =>
  vK_1 [v2_1, v157_5])))
  (KR (.bool false)))
  (QtC fun _ =>
  KR (.bool false)))
  (QtC fun I =>
  QtC fun I =>
  Drw <| FA v6 0 fun v138_3 =>
  Ld1 v138_3 fun v139_3 =>
  BinI .eql v139_3 (.int .i64 2) fun v140_3 =>
  QtC fun I =>
  Grd v140_3 true (QE I (fun KK => FA v10 1 fun v142_6 =>
  KK v142_6) fun v142_7 =>
  QE I (fun KK => Ld1 v142_7 fun v143_6 =>
  KK v143_6) fun v143_7 =>
  QE I (fun KK => FA v9 1 fun v144_6 =>
  KK v144_6) fun v144_7 =>
  QE I (fun KK => Ld1 v144_7 fun v145_6 =>
  KK v145_6) fun v145_7 =>
  QE I (fun KK => IA 2 v143_7 v145_7 fun v146_6 =>
  KK v146_6) fun v146_7 =>
  QE I (fun KK => FA v146_7 1 fun v147_6 =>
  KK v147_6) fun v147_7 =>
  QE I (fun KK => Ld1 v147_7 fun v148_6 =>
  KK v148_6) fun v148_7 =>
  QE I (fun KK => FA v6 3 fun v149_6 =>
  KK v149_6) fun v149_7 =>
  QE I (fun KK => Ld1 v149_7 fun v150_6 =>
  KK v150_6) fun v150_7 =>
  BinI .and v148_7 v150_7 fun v151_3 =>
  BinI .eql v151_3 (.int .i64 0) fun v152_3 =>
  Cnd v152_3 (KR (.bool false))
  (FA v9 0 fun v155_6 =>
  Ld1 v155_6 fun v156_6 =>
  Ex pg (Builtin.delete_ #[51, 3] 0 #[v29, v156_6]) fun _ =>
  BinI .add v85 (.int .i64 1) fun v157_6 =>
  vK_1 [v2_1, v157_6]))
  (FA v9 0 fun v155_7 =>
  Ld1 v155_7 fun v156_7 =>
  Ex pg (Builtin.delete_ #[51, 3] 0 #[v29, v156_7]) fun _ =>
  BinI .add v85 (.int .i64 1) fun v157_7 =>
  vK_1 [v2_1, v157_7])))))
  (FnV pg (.func (.func 12) #[] #[]) #[v16] fun v159 =>
  Ex pg (Builtin.len_ #[51] 3 #[v29]) fun v161 =>
  BinI .neq v159 v161 fun v162 =>
  Cnd v162 (KR (.bool false))
  (FnV pg (.func (.func 19) #[] #[]) #[v16] fun v164 =>
  LenS v164 fun v165 =>
  LoopC [v2_1, (.int .i64 0)] fun vK_2 vs => AllE <|
  UN vs fun v2_2 vs =>
  UN vs fun v166 _ =>
  BinI .lss v166 v165 fun v167 =>
  Cnd v167 (IA 1 v164 v166 fun v168 =>
  Ld1 v168 fun v169 =>
  Ex pg (Instr.lookup 51 v29 v169 true) fun v173 =>
  Ext v173 0 fun v174 =>
  Ext v173 1 fun v175 =>
  New 55 #[(.int .i64 0), (.slice none 0 0)] fun v14 =>
  St 2 v14 v174 fun _ =>
  Un .not v175 fun v177 =>
  Grd v177 false (FA v6 0 fun v179 =>
  Ld1 v179 fun v180 =>
  BinI .eql v180 (.int .i64 3) fun v181 =>
  Grd v181 true (FA v14 0 fun v183 =>
  Ld1 v183 fun v184 =>
  FA v6 3 fun v185 =>
  Ld1 v185 fun v186 =>
  BinI .leq v184 v186 fun v187 =>
  Cnd v187 (KR (.bool false))
  (BinI .add v166 (.int .i64 1) fun v190 =>
  vK_2 [v2_2, v190]))
  (BinI .add v166 (.int .i64 1) fun v190_1 =>
  vK_2 [v2_2, v190_1]))
  (KR (.bool false)))
  (BinI .add v32 (.int .i64 1) fun v191 =>
  vK [v2_2, v191])))))
  fun vK_3 =>
  FA v6 0 fun v41 =>
  Ld1 v41 fun v42 =>
  BinI .eql v42 (.int .i64 1) fun v44 =>
  Cnd v44 (Drw <| QtC fun I =>
  QE I (fun KK => FA v6 1 fun v46 =>
  KK v46) fun v46_1 =>
  QE I (fun KK => Ld1 v46_1 fun v47 =>
  KK v47) fun v47_1 =>
  QE I (fun KK => FA v6 3 fun v48 =>
  KK v48) fun v48_1 =>
  QE I (fun KK => Ld1 v48_1 fun v49 =>
  KK v49) fun v49_1 =>
  QE I (fun KK => FA v6 4 fun v50 =>
  KK v50) fun v50_1 =>
  QE I (fun KK => Ld1 v50_1 fun v51 =>
  KK v51) fun v51_1 =>
  FnV pg (.func (.func 11) #[] #[]) #[v51_1] fun v52 =>
  CH I <|
  FnV pg (.func (.func 10) #[] #[]) #[v16, v47_1, v49_1, v52] fun v53 =>
  BinI .eql v53 (.int .i64 0) fun v54 =>
  Cnd v54 (FA v6 1 fun v56 =>
  Ld1 v56 fun v57 =>
  FA v6 3 fun v58 =>
  Ld1 v58 fun v59 =>
  FA v6 4 fun v60 =>
  Ld1 v60 fun v61 =>
  Ex pg (bldS #[(.int .i64 0), (.slice none 0 0)] [(0, 1), (1, 1)] #[(0, v59), (1, v61)]) fun v62 =>
  Ex pg (do Instr.mapUpdate 51 v29 v57 v62; pure undef) fun _ =>
  vK_3 [(.slice none 0 0)])
  (vK_3 [(.slice none 0 0)]))
  (BinI .eql v42 (.int .i64 2) fun v64 =>
  Cnd v64 (FA v6 2 fun v66 =>
  Ld1 v66 fun v67 =>
  FA v6 3 fun v68 =>
  Ld1 v68 fun v69 =>
  FnV pg (.func (.func 13) #[] #[]) #[v16, v67, v69] fun v70 =>
  vK_3 [v70])
  (BinI .eql v42 (.int .i64 3) fun v72 =>
  Cnd v72 (FA v6 3 fun v74 =>
  Ld1 v74 fun v75 =>
  FnV pg (.func (.func 18) #[] #[]) #[v16, v75] fun v76 =>
  vK_3 [v76])
  (BinI .eql v42 (.int .i64 4) fun v78 =>
  Cnd v78 (FA v6 2 fun v80 =>
  Ld1 v80 fun v81 =>
  FnV pg (.func (.func 16) #[] #[]) #[v16, v81] fun v82 =>
  vK_3 [v82])
  (vK_3 [(.slice none 0 0)]))))))
  (FnV pg (.func (.func 9) #[] #[]) #[] fun v192 =>
  KR v192)))
  (EqP true v16 (.pointer none) fun v25_1 =>
  Grd v25_1 true (FnV pg (.func (.func 9) #[] #[]) #[] fun v27_1 =>
  KR v27_1)
  (KR (.bool false)))
theorem V.jacinthlaw16_WaitsOnce_ok {a0 : Value} {K : Value → WP} {w : World} (h : V.jacinthlaw16_WaitsOnce a0 K w) : Cl pg 6 #[a0] K w :=
  cl_of pg_mixed Try.func6 (args := [a0]) (by kernel_rfl) (by rw [show WF pg Try.f6 [a0] K = V.jacinthlaw16_WaitsOnce a0 K from by kernel_rfl]; exact h)

def V.jacinthlaw16_WaitsPlays (a0 a1 : Value) (KR : Value → WP) : WP :=
  FnV pg (.func (.func 8) #[] #[]) #[a0] fun v20 =>
  BinI .lss a0 (.int .i64 0) fun v22 =>
  Grd v22 false (BinI .gtr a0 (.int .i64 65536) fun v25 =>
  Cnd v25 (EqP false v20 (.pointer none) fun v28 =>
  Grd v28 true (FnV pg (.func (.func 9) #[] #[]) #[] fun v30 =>
  KR v30)
  (KR (.bool false)))
  (EqP false v20 (.pointer none) fun v33 =>
  Grd v33 false (LenS a1 fun v36 =>
  BinI .gtr v36 (.int .i64 120) fun v37 =>
  Cnd v37 (EqP true v20 (.pointer none) fun v40 =>
  Grd v40 true (FnV pg (.func (.func 9) #[] #[]) #[] fun v42 =>
  KR v42)
  (KR (.bool false)))
  (Ex pg (bldS #[(.slice none 0 0), (.int .i64 0)] [(0, 1), (1, 1)] #[(1, a0)]) fun v45 =>
  New 62 (Value.cells v45) fun v46 =>
  LenS a1 fun v48 =>
  LoopC [(.bool false), (.int .i64 0)] fun vK vs => AllE <|
  UN vs fun v4 vs =>
  UN vs fun v49 _ =>
  BinI .lss v49 v48 fun v50 =>
  Cnd v50 (IA 5 a1 v49 fun v51 =>
  LdN 5 v51 fun v52 =>
  New 53 #[(.int .i64 0), (.int .i64 0), (.int .i64 0), (.int .i64 0), (.slice none 0 0)] fun v8 =>
  St 5 v8 v52 fun _ =>
  FA v8 4 fun v53 =>
  Ld1 v53 fun v54 =>
  LenS v54 fun v55 =>
  BinI .gtr v55 (.int .i64 12) fun v56 =>
  Cnd v56 (FnV pg (.func (.func 9) #[] #[]) #[] fun v57 =>
  KR v57)
  (JoinC (fun vs => AllE (UN vs fun v9 _ =>
  FA v8 1 fun v155 =>
  Ld1 v155 fun v156 =>
  FnV pg (.func (.func 24) #[] #[]) #[v46, v156] fun v157 =>
  FA v8 1 fun v160 =>
  Ld1 v160 fun v161 =>
  FnV pg (.func (.func 17) #[] #[]) #[v20, v161] fun v162 =>
  Ext v162 0 fun v163 =>
  Ext v162 1 fun v164 =>
  FnV pg (.func (.func 19) #[] #[]) #[v20] fun v166 =>
  Drw <| Un .not v9 fun v168 =>
  QtC fun I =>
  Grd v168 false (QE I (fun KK => NilC v46 fun v173 =>
  KK v173) fun v173_1 =>
  QE I (fun KK => FA v173_1 0 fun v174 =>
  KK v174) fun v174_1 =>
  QE I (fun KK => Ld1 v174_1 fun v175 =>
  KK v175) fun v175_1 =>
  QE I (fun KK => LenS v175_1 fun v176 =>
  KK v176) fun v176_1 =>
  FnV pg (.func (.func 12) #[] #[]) #[v20] fun v171 =>
  CH I <|
  BinI .neq v171 v176_1 fun v177 =>
  QtC fun I =>
  Grd v177 false (QE I (fun KK => FA v8 1 fun v181 =>
  KK v181) fun v181_1 =>
  QE I (fun KK => Ld1 v181_1 fun v182 =>
  KK v182) fun v182_1 =>
  QE I (fun KK => BinI .geq v157 (.int .i64 0) fun v185 =>
  KK v185) fun v185_1 =>
  FnV pg (.func (.func 14) #[] #[]) #[v20, v182_1] fun v183 =>
  CH I <|
  EqB true v183 v185_1 fun v186 =>
  QtC fun I =>
  Grd v186 false (QE I (fun KK => BinI .geq v157 (.int .i64 0) fun v191 =>
  KK v191) fun v191_1 =>
  EqB true v164 v191_1 fun v192 =>
  Grd v192 false (QtC fun I =>
  Grd v164 true (QE I (fun KK => NilC v46 fun v199 =>
  KK v199) fun v199_1 =>
  QE I (fun KK => FA v199_1 0 fun v200 =>
  KK v200) fun v200_1 =>
  QE I (fun KK => Ld1 v200_1 fun v201 =>
  KK v201) fun v201_1 =>
  QE I (fun KK => IA 3 v201_1 v157 fun v203 =>
  KK v203) fun v203_1 =>
  QE I (fun KK => FA v203_1 1 fun v204 =>
  KK v204) fun v204_1 =>
  QE I (fun KK => Ld1 v204_1 fun v205 =>
  KK v205) fun v205_1 =>
  BinI .neq v163 v205_1 fun v206 =>
  QtC fun I =>
  Grd v206 false (QE I (fun KK => LenS v166 fun v211 =>
  KK v211) fun v211_1 =>
  QE I (fun KK => NilC v46 fun v213 =>
  KK v213) fun v213_1 =>
  QE I (fun KK => FA v213_1 0 fun v214 =>
  KK v214) fun v214_1 =>
  QE I (fun KK => Ld1 v214_1 fun v215 =>
  KK v215) fun v215_1 =>
  QE I (fun KK => LenS v215_1 fun v216 =>
  KK v216) fun v216_1 =>
  BinI .neq v211_1 v216_1 fun v217 =>
  Cnd v217 (KR (.bool false))
  (LenS v166 fun v220 =>
  LoopC [v4, (.int .i64 0)] fun vK_1 vs => AllE <|
  UN vs fun v4_1 vs =>
  UN vs fun v221 _ =>
  BinI .lss v221 v220 fun v222 =>
  Cnd v222 (Drw <| QtC fun I =>
  QE I (fun KK => IA 1 v166 v221 fun v226 =>
  KK v226) fun v226_1 =>
  QE I (fun KK => Ld1 v226_1 fun v227 =>
  KK v227) fun v227_1 =>
  QE I (fun KK => NilC v46 fun v229 =>
  KK v229) fun v229_1 =>
  QE I (fun KK => FA v229_1 0 fun v230 =>
  KK v230) fun v230_1 =>
  QE I (fun KK => Ld1 v230_1 fun v231 =>
  KK v231) fun v231_1 =>
  QE I (fun KK => IA 3 v231_1 v221 fun v233 =>
  KK v233) fun v233_1 =>
  QE I (fun KK => FA v233_1 0 fun v234 =>
  KK v234) fun v234_1 =>
  QE I (fun KK => Ld1 v234_1 fun v235 =>
  KK v235) fun v235_1 =>
  BinI .neq v227_1 v235_1 fun v236 =>
  Cnd v236 (KR (.bool false))
  (BinI .add v221 (.int .i64 1) fun v237 =>
  vK_1 [v4_1, v237]))
  (BinI .add v49 (.int .i64 1) fun v238 =>
  vK [v4_1, v238])))
  (KR (.bool false)))
  (QtC fun I =>
  QE I (fun KK => LenS v166 fun v211_2 =>
  KK v211_2) fun v211_3 =>
  QE I (fun KK => NilC v46 fun v213_2 =>
  KK v213_2) fun v213_3 =>
  QE I (fun KK => FA v213_3 0 fun v214_2 =>
  KK v214_2) fun v214_3 =>
  QE I (fun KK => Ld1 v214_3 fun v215_2 =>
  KK v215_2) fun v215_3 =>
  QE I (fun KK => LenS v215_3 fun v216_2 =>
  KK v216_2) fun v216_3 =>
  BinI .neq v211_3 v216_3 fun v217_1 =>
  Cnd v217_1 (KR (.bool false))
  (LenS v166 fun v220_1 =>
  LoopC [v4, (.int .i64 0)] fun vK_2 vs => AllE <|
  UN vs fun v4_2 vs =>
  UN vs fun v221_1 _ =>
  BinI .lss v221_1 v220_1 fun v222_1 =>
  Cnd v222_1 (Drw <| QtC fun I =>
  QE I (fun KK => IA 1 v166 v221_1 fun v226_2 =>
  KK v226_2) fun v226_3 =>
  QE I (fun KK => Ld1 v226_3 fun v227_2 =>
  KK v227_2) fun v227_3 =>
  QE I (fun KK => NilC v46 fun v229_2 =>
  KK v229_2) fun v229_3 =>
  QE I (fun KK => FA v229_3 0 fun v230_2 =>
  KK v230_2) fun v230_3 =>
  QE I (fun KK => Ld1 v230_3 fun v231_2 =>
  KK v231_2) fun v231_3 =>
  QE I (fun KK => IA 3 v231_3 v221_1 fun v233_2 =>
  KK v233_2) fun v233_3 =>
  QE I (fun KK => FA v233_3 0 fun v234_2 =>
  KK v234_2) fun v234_3 =>
  QE I (fun KK => Ld1 v234_3 fun v235_2 =>
  KK v235_2) fun v235_3 =>
  BinI .neq v227_3 v235_3 fun v236_1 =>
  Cnd v236_1 (KR (.bool false))
  (BinI .add v221_1 (.int .i64 1) fun v237_1 =>
  vK_2 [v4_2, v237_1]))
  (BinI .add v49 (.int .i64 1) fun v238_1 =>
  vK [v4_2, v238_1]))))
  (QtC fun _ =>
  QtC fun _ =>
  KR (.bool false)))
  (QtC fun _ =>
  QtC fun _ =>
  KR (.bool false)))
  (CH I <|
  QtC fun _ =>
  QtC fun _ =>
  QtC fun _ =>
  KR (.bool false)))
  (CH I <|
  QtC fun I =>
  CH I <|
  QtC fun _ =>
  QtC fun _ =>
  QtC fun _ =>
  KR (.bool false))))
  fun vK_3 =>
  FA v8 0 fun v58 =>
  Ld1 v58 fun v59 =>
  BinI .eql v59 (.int .i64 1) fun v61 =>
  Cnd v61 (FA v8 4 fun v62 =>
  Ld1 v62 fun v63 =>
  FnV pg (.func (.func 11) #[] #[]) #[v63] fun v64 =>
  Drw <| QtC fun I =>
  QE I (fun KK => FA v8 1 fun v66 =>
  KK v66) fun v66_1 =>
  QE I (fun KK => Ld1 v66_1 fun v67 =>
  KK v67) fun v67_1 =>
  QE I (fun KK => FA v8 3 fun v68 =>
  KK v68) fun v68_1 =>
  QE I (fun KK => Ld1 v68_1 fun v69 =>
  KK v69) fun v69_1 =>
  QE I (fun KK => FA v8 1 fun v73 =>
  KK v73) fun v73_1 =>
  QE I (fun KK => Ld1 v73_1 fun v74 =>
  KK v74) fun v74_1 =>
  QE I (fun KK => FA v8 3 fun v75 =>
  KK v75) fun v75_1 =>
  QE I (fun KK => Ld1 v75_1 fun v76 =>
  KK v76) fun v76_1 =>
  QE I (fun KK => FA v8 4 fun v77 =>
  KK v77) fun v77_1 =>
  QE I (fun KK => Ld1 v77_1 fun v78 =>
  KK v78) fun v78_1 =>
  FnV pg (.func (.func 10) #[] #[]) #[v20, v67_1, v69_1, v64] fun v71 =>
  CH I <|
  FnV pg (.func (.func 20) #[] #[]) #[v46, v74_1, v76_1, v78_1] fun v79 =>
  BinI .eql v71 v79 fun v80 =>
  LenS v64 fun v82 =>
  LoopC [(.int .i64 0)] fun vK_4 vs => AllE <|
  UN vs fun v83 _ =>
  BinI .lss v83 v82 fun v84 =>
  Cnd v84 (IA 2 v64 v83 fun v88 =>
  FA v88 0 fun v89 =>
  St 1 v89 (.int .i64 99) fun _ =>
  BinI .add v83 (.int .i64 1) fun v90 =>
  vK_4 [v90])
  (vK_3 [v80]))
  (BinI .eql v59 (.int .i64 2) fun v92 =>
  Cnd v92 (Drw <| QtC fun I =>
  QE I (fun KK => FA v8 2 fun v94 =>
  KK v94) fun v94_1 =>
  QE I (fun KK => Ld1 v94_1 fun v95 =>
  KK v95) fun v95_1 =>
  QE I (fun KK => FA v8 3 fun v96 =>
  KK v96) fun v96_1 =>
  QE I (fun KK => Ld1 v96_1 fun v97 =>
  KK v97) fun v97_1 =>
  QE I (fun KK => FA v8 2 fun v100 =>
  KK v100) fun v100_1 =>
  QE I (fun KK => Ld1 v100_1 fun v101 =>
  KK v101) fun v101_1 =>
  QE I (fun KK => FA v8 3 fun v102 =>
  KK v102) fun v102_1 =>
  QE I (fun KK => Ld1 v102_1 fun v103 =>
  KK v103) fun v103_1 =>
  FnV pg (.func (.func 13) #[] #[]) #[v20, v95_1, v97_1] fun v98 =>
  CH I <|
  FnV pg (.func (.func 22) #[] #[]) #[v46, v101_1, v103_1, (.bool false)] fun v104 =>
  FnV pg (.func (.func 21) #[] #[]) #[v98, v104] fun v105 =>
  vK_3 [v105])
  (BinI .eql v59 (.int .i64 3) fun v107 =>
  Cnd v107 (Drw <| QtC fun I =>
  QE I (fun KK => FA v8 3 fun v109 =>
  KK v109) fun v109_1 =>
  QE I (fun KK => Ld1 v109_1 fun v110 =>
  KK v110) fun v110_1 =>
  QE I (fun KK => FA v8 3 fun v113 =>
  KK v113) fun v113_1 =>
  QE I (fun KK => Ld1 v113_1 fun v114 =>
  KK v114) fun v114_1 =>
  FnV pg (.func (.func 18) #[] #[]) #[v20, v110_1] fun v111 =>
  CH I <|
  FnV pg (.func (.func 23) #[] #[]) #[v46, v114_1] fun v115 =>
  FnV pg (.func (.func 21) #[] #[]) #[v111, v115] fun v116 =>
  vK_3 [v116])
  (BinI .eql v59 (.int .i64 4) fun v118 =>
  Cnd v118 (Drw <| QtC fun I =>
  QE I (fun KK => FA v8 2 fun v120 =>
  KK v120) fun v120_1 =>
  QE I (fun KK => Ld1 v120_1 fun v121 =>
  KK v121) fun v121_1 =>
  QE I (fun KK => FA v8 2 fun v124 =>
  KK v124) fun v124_1 =>
  QE I (fun KK => Ld1 v124_1 fun v125 =>
  KK v125) fun v125_1 =>
  FnV pg (.func (.func 16) #[] #[]) #[v20, v121_1] fun v122 =>
  CH I <|
  FnV pg (.func (.func 22) #[] #[]) #[v46, v125_1, (.int .i64 0), (.bool true)] fun v126 =>
  FnV pg (.func (.func 21) #[] #[]) #[v122, v126] fun v127 =>
  vK_3 [v127])
  (BinI .eql v59 (.int .i64 5) fun v129 =>
  Cnd v129 (FA v8 1 fun v131 =>
  Ld1 v131 fun v132 =>
  FnV pg (.func (.func 15) #[] #[]) #[v20, v132] fun v133 =>
  FA v8 1 fun v135 =>
  Ld1 v135 fun v136 =>
  FnV pg (.func (.func 24) #[] #[]) #[v46, v136] fun v137 =>
  BinI .geq v137 (.int .i64 0) fun v138 =>
  BinI .eql v133 (.int .i64 0) fun v140 =>
  EqB false v140 v138 fun v142 =>
  Grd v142 true (Grd v138 false (BinI .eql v133 (.int .i64 (-25)) fun v147 =>
  FA v8 1 fun v151 =>
  Ld1 v151 fun v152 =>
  FnV pg (.func (.func 25) #[] #[]) #[v46, v152] fun _ =>
  vK_3 [v147])
  (FA v8 1 fun v151_1 =>
  Ld1 v151_1 fun v152_1 =>
  FnV pg (.func (.func 25) #[] #[]) #[v46, v152_1] fun _ =>
  vK_3 [(.bool true)]))
  (FA v8 1 fun v151_2 =>
  Ld1 v151_2 fun v152_2 =>
  FnV pg (.func (.func 25) #[] #[]) #[v46, v152_2] fun _ =>
  vK_3 [(.bool false)]))
  (vK_3 [(.bool true)])))))))
  (FnV pg (.func (.func 9) #[] #[]) #[] fun v239 =>
  KR v239)))
  (EqP true v20 (.pointer none) fun v40_1 =>
  Grd v40_1 true (FnV pg (.func (.func 9) #[] #[]) #[] fun v42_1 =>
  KR v42_1)
  (KR (.bool false)))))
  (EqP false v20 (.pointer none) fun v28_1 =>
  Grd v28_1 true (FnV pg (.func (.func 9) #[] #[]) #[] fun v30_1 =>
  KR v30_1)
  (KR (.bool false)))
theorem V.jacinthlaw16_WaitsPlays_ok {a0 a1 : Value} {K : Value → WP} {w : World} (h : V.jacinthlaw16_WaitsPlays a0 a1 K w) : Cl pg 7 #[a0, a1] K w :=
  cl_of pg_mixed Try.func7 (args := [a0, a1]) (by kernel_rfl) (by rw [show WF pg Try.f7 [a0, a1] K = V.jacinthlaw16_WaitsPlays a0 a1 K from by kernel_rfl]; exact h)

def V.waits_New (a0 : Value) (KR : Value → WP) : WP :=
  BinI .lss a0 (.int .i64 0) fun v4 =>
  Grd v4 false (BinI .gtr a0 (.int .i64 65536) fun v7 =>
  Cnd v7 (KR (.pointer none))
  (Ex pg (bldS #[(.slice none 0 0), (.int .i64 0)] [(0, 1), (1, 1)] #[(1, a0)]) fun v10 =>
  New 75 (Value.cells v10) fun v11 =>
  KR v11))
  (KR (.pointer none))
theorem V.waits_New_ok {a0 : Value} {K : Value → WP} {w : World} (h : V.waits_New a0 K w) : Cl pg 8 #[a0] K w :=
  cl_of pg_mixed Try.func8 (args := [a0]) (by kernel_rfl) (by rw [show WF pg Try.f8 [a0] K = V.waits_New a0 K from by kernel_rfl]; exact h)

def V.jacinthlaw16_awake (KR : Value → WP) : WP :=
  FnV pg (.func (.func 8) #[] #[]) #[(.int .i64 4)] fun v3 =>
  EqP false v3 (.pointer none) fun v5 =>
  Grd v5 false (Ex pg (bldS #[(.int .i64 0), (.int .i64 0)] [(0, 1), (1, 1)] #[(0, (.int .i64 5)), (1, (.int .i64 1))]) fun v8 =>
  Ex pg (bldS #[(.int .i64 0), (.int .i64 0)] [(0, 1), (1, 1)] #[(0, (.int .i64 6)), (1, (.int .i64 2))]) fun v9 =>
  BSlC 42 2 #[(.int .i64 0), (.int .i64 0)] 2 #[(0, v8), (1, v9)] fun v10 =>
  FnV pg (.func (.func 10) #[] #[]) #[v3, (.int .i64 3), (.int .i64 10), v10] fun v11 =>
  BinI .neq v11 (.int .i64 0) fun v12 =>
  Cnd v12 (KR (.bool false))
  (FnV pg (.func (.func 13) #[] #[]) #[v3, (.int .i64 6), (.int .i64 2)] fun v15 =>
  LenS v15 fun v17 =>
  BinI .eql v17 (.int .i64 1) fun v18 =>
  Grd v18 true (IA 4 v15 (.int .i64 0) fun v21 =>
  LdN 4 v21 fun v22 =>
  Ex pg (bldS #[(.int .i64 0), (.int .i64 0), (.int .i64 0), (.int .i64 0)] [(0, 1), (1, 1), (2, 1), (3, 1)] #[(0, (.int .i64 3)), (1, (.int .i64 1)), (3, (.int .i64 2))]) fun v23 =>
  EqS 4 false v22 v23 fun v24 =>
  Grd v24 true (FnV pg (.func (.func 12) #[] #[]) #[v3] fun v28 =>
  BinI .eql v28 (.int .i64 0) fun v29 =>
  KR v29)
  (KR (.bool false)))
  (KR (.bool false))))
  (KR (.bool false))
theorem V.jacinthlaw16_awake_ok {K : Value → WP} {w : World} (h : V.jacinthlaw16_awake  K w) : Cl pg 9 #[] K w :=
  cl_of pg_mixed Try.func9 (args := []) (by kernel_rfl) (by rw [show WF pg Try.f9 [] K = V.jacinthlaw16_awake  K from by kernel_rfl]; exact h)

def V.waits_Waits_Block (a0 a1 a2 a3 : Value) (KR : Value → WP) : WP :=
  BinI .lss a1 (.int .i64 0) fun v11 =>
  Grd v11 false (LenS a3 fun v14 =>
  BinI .lss v14 (.int .i64 1) fun v15 =>
  Grd v15 false (LenS a3 fun v19 =>
  BinI .gtr v19 (.int .i64 8) fun v20 =>
  Grd v20 false (FnV pg (.func (.func 26) #[] #[]) #[a3, (.func (.func 27) #[] #[])] fun v24 =>
  Cnd v24 (KR (.int .i64 (-10)))
  (FnV pg (.func (.func 28) #[] #[]) #[a0, a1] fun v29 =>
  BinI .geq v29 (.int .i64 0) fun v30 =>
  Cnd v30 (KR (.int .i64 (-26)))
  (Drw <| QtC fun I =>
  QE I (fun KK => NilC a0 fun v33 =>
  KK v33) fun v33_1 =>
  QE I (fun KK => FA v33_1 0 fun v34 =>
  KK v34) fun v34_1 =>
  QE I (fun KK => Ld1 v34_1 fun v35 =>
  KK v35) fun v35_1 =>
  QE I (fun KK => LenS v35_1 fun v36 =>
  KK v36) fun v36_1 =>
  QE I (fun KK => NilC a0 fun v38 =>
  KK v38) fun v38_1 =>
  QE I (fun KK => FA v38_1 1 fun v39 =>
  KK v39) fun v39_1 =>
  QE I (fun KK => Ld1 v39_1 fun v40 =>
  KK v40) fun v40_1 =>
  BinI .geq v36_1 v40_1 fun v41 =>
  Cnd v41 (KR (.int .i64 (-4)))
  (Drw <| QtC fun I =>
  QE I (fun KK => NilC a0 fun v44 =>
  KK v44) fun v44_1 =>
  QE I (fun KK => FA v44_1 0 fun v45 =>
  KK v45) fun v45_1 =>
  QE I (fun KK => Ld1 v45_1 fun v46 =>
  KK v46) fun v46_1 =>
  FnV pg (.func (.func 29) #[] #[]) #[a3] fun v50 =>
  CH I <|
  Ex pg (bldS #[(.int .i64 0), (.int .i64 0), (.slice none 0 0)] [(0, 1), (1, 1), (2, 1)] #[(0, a1), (1, a2), (2, v50)]) fun v51 =>
  CH I <|
  BSlC 80 3 #[(.int .i64 0), (.int .i64 0), (.slice none 0 0)] 1 #[(0, v51)] fun v52 =>
  CH I <|
  AppC 80 3 40 #[(.int .i64 0), (.int .i64 0), (.slice none 0 0)] v46_1 v52 fun v53 =>
  NilC a0 fun v54 =>
  FA v54 0 fun v55 =>
  St 1 v55 v53 fun _ =>
  KR (.int .i64 0)))))
  (KR (.int .i64 (-10))))
  (KR (.int .i64 (-10))))
  (KR (.int .i64 (-10)))
theorem V.waits_Waits_Block_ok {a0 a1 a2 a3 : Value} {K : Value → WP} {w : World} (h : V.waits_Waits_Block a0 a1 a2 a3 K w) : Cl pg 10 #[a0, a1, a2, a3] K w :=
  cl_of pg_mixed Try.func10 (args := [a0, a1, a2, a3]) (by kernel_rfl) (by rw [show WF pg Try.f10 [a0, a1, a2, a3] K = V.waits_Waits_Block a0 a1 a2 a3 K from by kernel_rfl]; exact h)

def V.jacinthlaw16_itemsOf (a0 : Value) (KR : Value → WP) : WP :=
  LenS a0 fun v7 =>
  LoopC [(.slice none 0 0), (.int .i64 0)] fun vK vs => AllE <|
  UN vs fun v3 vs =>
  UN vs fun v8 _ =>
  BinI .lss v8 v7 fun v9 =>
  Cnd v9 (IA 2 a0 v8 fun v10 =>
  LdN 2 v10 fun v11 =>
  New 32 #[(.int .i64 0), (.int .i64 0)] fun v5 =>
  St 2 v5 v11 fun _ =>
  FA v5 0 fun v13 =>
  Ld1 v13 fun v14 =>
  FA v5 1 fun v15 =>
  Ld1 v15 fun v16 =>
  Ex pg (bldS #[(.int .i64 0), (.int .i64 0)] [(0, 1), (1, 1)] #[(0, v14), (1, v16)]) fun v17 =>
  BSlC 42 2 #[(.int .i64 0), (.int .i64 0)] 1 #[(0, v17)] fun v18 =>
  AppC 42 2 16 #[(.int .i64 0), (.int .i64 0)] v3 v18 fun v19 =>
  BinI .add v8 (.int .i64 1) fun v20 =>
  vK [v19, v20])
  (KR v3)
theorem V.jacinthlaw16_itemsOf_ok {a0 : Value} {K : Value → WP} {w : World} (h : V.jacinthlaw16_itemsOf a0 K w) : Cl pg 11 #[a0] K w :=
  cl_of pg_mixed Try.func11 (args := [a0]) (by kernel_rfl) (by rw [show WF pg Try.f11 [a0] K = V.jacinthlaw16_itemsOf a0 K from by kernel_rfl]; exact h)

def V.waits_Waits_Count (a0 : Value) (KR : Value → WP) : WP :=
  NilC a0 fun v4 =>
  FA v4 0 fun v5 =>
  Ld1 v5 fun v6 =>
  LenS v6 fun v7 =>
  KR v7
theorem V.waits_Waits_Count_ok {a0 : Value} {K : Value → WP} {w : World} (h : V.waits_Waits_Count a0 K w) : Cl pg 12 #[a0] K w :=
  cl_of pg_mixed Try.func12 (args := [a0]) (by kernel_rfl) (by rw [show WF pg Try.f12 [a0] K = V.waits_Waits_Count a0 K from by kernel_rfl]; exact h)

def V.waits_Waits_Tell (a0 a1 a2 : Value) (KR : Value → WP) : WP :=
  New 35 (Value.cells a2) fun v5 =>
  New 33 #[(.slice none 0 0)] fun v7 =>
  FnV pg (.func (.func 30) #[] #[]) #[a0, a1, (.func (.func 31) #[] #[v5])] fun v13 =>
  RF0 pg v13 (fun vl vs vK =>
  UN vs fun v14 vs =>
  UN vs fun v15 vs =>
  UNe vs <|
  New 80 #[(.int .i64 0), (.int .i64 0), (.slice none 0 0)] fun v8 =>
  St 3 v8 v14 fun _ =>
  RBeg vl <|
  Ld1 v7 fun v16 =>
  FA v8 0 fun v17 =>
  Ld1 v17 fun v18 =>
  Ld1 v5 fun v20 =>
  Ex pg (bldS #[(.int .i64 0), (.int .i64 0), (.int .i64 0), (.int .i64 0)] [(0, 1), (1, 1), (2, 1), (3, 1)] #[(0, v18), (1, v15), (2, (.int .i64 0)), (3, v20)]) fun v21 =>
  BSlC 38 4 #[(.int .i64 0), (.int .i64 0), (.int .i64 0), (.int .i64 0)] 1 #[(0, v21)] fun v22 =>
  AppC 38 4 32 #[(.int .i64 0), (.int .i64 0), (.int .i64 0), (.int .i64 0)] v16 v22 fun v23 =>
  St 1 v7 v23 fun _ =>
  REnd vl none vK)
  fun vm vj =>
  JumpC vj (Ld1 v7 fun v25 =>
  FnV pg (.func (.func 33) #[] #[]) #[a0, v25] fun v26 =>
  LvC (.tuple #[vm]) <| KR v26)
  (LvC (.tuple #[vm]) <| KR (.slice none 0 0))
  (fun _ => fun _ => False)
theorem V.waits_Waits_Tell_ok {a0 a1 a2 : Value} {K : Value → WP} {w : World} (h : V.waits_Waits_Tell a0 a1 a2 K w) : Cl pg 13 #[a0, a1, a2] K w :=
  cl_of pg_mixed Try.func13 (args := [a0, a1, a2]) (by kernel_rfl) (by rw [show WF pg Try.f13 [a0, a1, a2] K = V.waits_Waits_Tell a0 a1 a2 K from by kernel_rfl]; exact h)

def V.waits_Waits_Blocked (a0 a1 : Value) (KR : Value → WP) : WP :=
  FnV pg (.func (.func 28) #[] #[]) #[a0, a1] fun v7 =>
  BinI .geq v7 (.int .i64 0) fun v8 =>
  KR v8
theorem V.waits_Waits_Blocked_ok {a0 a1 : Value} {K : Value → WP} {w : World} (h : V.waits_Waits_Blocked a0 a1 K w) : Cl pg 14 #[a0, a1] K w :=
  cl_of pg_mixed Try.func14 (args := [a0, a1]) (by kernel_rfl) (by rw [show WF pg Try.f14 [a0, a1] K = V.waits_Waits_Blocked a0 a1 K from by kernel_rfl]; exact h)

def V.waits_Waits_Forget (a0 a1 : Value) (KR : Value → WP) : WP :=
  FnV pg (.func (.func 28) #[] #[]) #[a0, a1] fun v8 =>
  BinI .lss v8 (.int .i64 0) fun v10 =>
  Cnd v10 (KR (.int .i64 (-25)))
  (NilC a0 fun v13 =>
  FA v13 0 fun v14 =>
  Ld1 v14 fun v15 =>
  BinI .add v8 (.int .i64 1) fun v18 =>
  FnV pg (.func (.func 34) #[] #[]) #[v15, v8, v18] fun v19 =>
  NilC a0 fun v20 =>
  FA v20 0 fun v21 =>
  St 1 v21 v19 fun _ =>
  KR (.int .i64 0))
theorem V.waits_Waits_Forget_ok {a0 a1 : Value} {K : Value → WP} {w : World} (h : V.waits_Waits_Forget a0 a1 K w) : Cl pg 15 #[a0, a1] K w :=
  cl_of pg_mixed Try.func15 (args := [a0, a1]) (by kernel_rfl) (by rw [show WF pg Try.f15 [a0, a1] K = V.waits_Waits_Forget a0 a1 K from by kernel_rfl]; exact h)

def V.waits_Waits_Cancel (a0 a1 : Value) (KR : Value → WP) : WP :=
  New 33 #[(.slice none 0 0)] fun v5 =>
  FnV pg (.func (.func 30) #[] #[]) #[a0, a1, (.func (.func 35) #[] #[])] fun v10 =>
  RF0 pg v10 (fun vl vs vK =>
  UN vs fun v11 vs =>
  UN vs fun v12 vs =>
  UNe vs <|
  New 80 #[(.int .i64 0), (.int .i64 0), (.slice none 0 0)] fun v6 =>
  St 3 v6 v11 fun _ =>
  RBeg vl <|
  Ld1 v5 fun v13 =>
  FA v6 0 fun v14 =>
  Ld1 v14 fun v15 =>
  Ex pg (bldS #[(.int .i64 0), (.int .i64 0), (.int .i64 0), (.int .i64 0)] [(0, 1), (1, 1), (2, 1), (3, 1)] #[(0, v15), (1, v12), (2, (.int .i64 (-23))), (3, (.int .i64 0))]) fun v17 =>
  BSlC 38 4 #[(.int .i64 0), (.int .i64 0), (.int .i64 0), (.int .i64 0)] 1 #[(0, v17)] fun v18 =>
  AppC 38 4 32 #[(.int .i64 0), (.int .i64 0), (.int .i64 0), (.int .i64 0)] v13 v18 fun v19 =>
  St 1 v5 v19 fun _ =>
  REnd vl none vK)
  fun vm vj =>
  JumpC vj (Ld1 v5 fun v21 =>
  FnV pg (.func (.func 33) #[] #[]) #[a0, v21] fun v22 =>
  LvC (.tuple #[vm]) <| KR v22)
  (LvC (.tuple #[vm]) <| KR (.slice none 0 0))
  (fun _ => fun _ => False)
theorem V.waits_Waits_Cancel_ok {a0 a1 : Value} {K : Value → WP} {w : World} (h : V.waits_Waits_Cancel a0 a1 K w) : Cl pg 16 #[a0, a1] K w :=
  cl_of pg_mixed Try.func16 (args := [a0, a1]) (by kernel_rfl) (by rw [show WF pg Try.f16 [a0, a1] K = V.waits_Waits_Cancel a0 a1 K from by kernel_rfl]; exact h)

def V.waits_Waits_Deadline (a0 a1 : Value) (KR : Value → WP) : WP :=
  FnV pg (.func (.func 28) #[] #[]) #[a0, a1] fun v9 =>
  BinI .lss v9 (.int .i64 0) fun v11 =>
  Cnd v11 (KR (.tuple #[(.int .i64 0), (.bool false)]))
  (NilC a0 fun v13 =>
  FA v13 0 fun v14 =>
  Ld1 v14 fun v15 =>
  IA 3 v15 v9 fun v17 =>
  FA v17 1 fun v18 =>
  Ld1 v18 fun v19 =>
  KR (.tuple #[v19, (.bool true)]))
theorem V.waits_Waits_Deadline_ok {a0 a1 : Value} {K : Value → WP} {w : World} (h : V.waits_Waits_Deadline a0 a1 K w) : Cl pg 17 #[a0, a1] K w :=
  cl_of pg_mixed Try.func17 (args := [a0, a1]) (by kernel_rfl) (by rw [show WF pg Try.f17 [a0, a1] K = V.waits_Waits_Deadline a0 a1 K from by kernel_rfl]; exact h)

def V.waits_Waits_Expire (a0 a1 : Value) (KR : Value → WP) : WP :=
  New 3 (Value.cells a1) fun v3 =>
  NilC a0 fun v10 =>
  FA v10 0 fun v11 =>
  Ld1 v11 fun v12 =>
  FnV pg (.func (.func 37) #[] #[]) #[v12] fun v13 =>
  FnV pg (.func (.func 36) #[] #[]) #[v13, (.func (.func 38) #[] #[v3])] fun v15 =>
  FnV pg (.func (.func 39) #[] #[]) #[v15, (.func (.func 40) #[] #[])] fun _ =>
  LenS v15 fun v19 =>
  LoopC [(.slice none 0 0), (.int .i64 0)] fun vK vs => AllE <|
  UN vs fun v6 vs =>
  UN vs fun v20 _ =>
  BinI .lss v20 v19 fun v21 =>
  Cnd v21 (IA 3 v15 v20 fun v22 =>
  LdN 3 v22 fun v23 =>
  New 80 #[(.int .i64 0), (.int .i64 0), (.slice none 0 0)] fun v8 =>
  St 3 v8 v23 fun _ =>
  FA v8 0 fun v25 =>
  Ld1 v25 fun v26 =>
  Ex pg (bldS #[(.int .i64 0), (.int .i64 0), (.int .i64 0), (.int .i64 0)] [(0, 1), (1, 1), (2, 1), (3, 1)] #[(0, v26), (1, (.int .i64 (-1))), (2, (.int .i64 (-21))), (3, (.int .i64 0))]) fun v27 =>
  BSlC 38 4 #[(.int .i64 0), (.int .i64 0), (.int .i64 0), (.int .i64 0)] 1 #[(0, v27)] fun v28 =>
  AppC 38 4 32 #[(.int .i64 0), (.int .i64 0), (.int .i64 0), (.int .i64 0)] v6 v28 fun v29 =>
  BinI .add v20 (.int .i64 1) fun v30 =>
  vK [v29, v30])
  (FnV pg (.func (.func 33) #[] #[]) #[a0, v6] fun v33 =>
  KR v33)
theorem V.waits_Waits_Expire_ok {a0 a1 : Value} {K : Value → WP} {w : World} (h : V.waits_Waits_Expire a0 a1 K w) : Cl pg 18 #[a0, a1] K w :=
  cl_of pg_mixed Try.func18 (args := [a0, a1]) (by kernel_rfl) (by rw [show WF pg Try.f18 [a0, a1] K = V.waits_Waits_Expire a0 a1 K from by kernel_rfl]; exact h)

def V.waits_Waits_Threads (a0 : Value) (KR : Value → WP) : WP :=
  NilC a0 fun v7 =>
  FA v7 0 fun v8 =>
  Ld1 v8 fun v9 =>
  LenS v9 fun v10 =>
  LoopC [(.slice none 0 0), (.int .i64 0)] fun vK vs => AllE <|
  UN vs fun v3 vs =>
  UN vs fun v11 _ =>
  BinI .lss v11 v10 fun v12 =>
  Cnd v12 (IA 3 v9 v11 fun v13 =>
  LdN 3 v13 fun v14 =>
  New 80 #[(.int .i64 0), (.int .i64 0), (.slice none 0 0)] fun v5 =>
  St 3 v5 v14 fun _ =>
  FA v5 0 fun v16 =>
  Ld1 v16 fun v17 =>
  BSlC 3 1 #[(.int .i64 0)] 1 #[(0, v17)] fun v18 =>
  AppC 3 1 8 #[(.int .i64 0)] v3 v18 fun v19 =>
  BinI .add v11 (.int .i64 1) fun v20 =>
  vK [v19, v20])
  (KR v3)
theorem V.waits_Waits_Threads_ok {a0 : Value} {K : Value → WP} {w : World} (h : V.waits_Waits_Threads a0 K w) : Cl pg 19 #[a0] K w :=
  cl_of pg_mixed Try.func19 (args := [a0]) (by kernel_rfl) (by rw [show WF pg Try.f19 [a0] K = V.waits_Waits_Threads a0 K from by kernel_rfl]; exact h)

def V.jacinthref16_Waits_Block (a0 a1 a2 a3 : Value) (KR : Value → WP) : WP :=
  BinI .lss a1 (.int .i64 0) fun v11 =>
  Grd v11 false (LenS a3 fun v14 =>
  BinI .lss v14 (.int .i64 1) fun v15 =>
  Grd v15 false (LenS a3 fun v19 =>
  BinI .gtr v19 (.int .i64 8) fun v20 =>
  Cnd v20 (KR (.int .i64 (-10)))
  (LoopC [(.int .i64 0), (.int .i64 0)] fun vK vs => AllE <|
  UN vs fun v8 vs =>
  UN vs fun v9 _ =>
  LenS a3 fun v24 =>
  BinI .lss v9 v24 fun v25 =>
  Cnd v25 (IA 2 a3 v9 fun v30 =>
  FA v30 0 fun v31 =>
  Ld1 v31 fun v32 =>
  BinI .lss v32 (.int .i64 1) fun v33 =>
  Cnd v33 (KR (.int .i64 (-10)))
  (BinI .add v9 (.int .i64 1) fun v27 =>
  vK [v8, v27]))
  (FnV pg (.func (.func 24) #[] #[]) #[a0, a1] fun v36 =>
  BinI .geq v36 (.int .i64 0) fun v37 =>
  Cnd v37 (KR (.int .i64 (-26)))
  (Drw <| QtC fun I =>
  QE I (fun KK => NilC a0 fun v39 =>
  KK v39) fun v39_1 =>
  QE I (fun KK => FA v39_1 0 fun v40 =>
  KK v40) fun v40_1 =>
  QE I (fun KK => Ld1 v40_1 fun v41 =>
  KK v41) fun v41_1 =>
  QE I (fun KK => LenS v41_1 fun v42 =>
  KK v42) fun v42_1 =>
  QE I (fun KK => NilC a0 fun v44 =>
  KK v44) fun v44_1 =>
  QE I (fun KK => FA v44_1 1 fun v45 =>
  KK v45) fun v45_1 =>
  QE I (fun KK => Ld1 v45_1 fun v46 =>
  KK v46) fun v46_1 =>
  BinI .geq v42_1 v46_1 fun v47 =>
  Cnd v47 (KR (.int .i64 (-4)))
  (NilC a0 fun v50 =>
  FA v50 0 fun v51 =>
  Ld1 v51 fun v52 =>
  Ex pg (bldS #[(.int .i64 0), (.int .i64 0), (.slice none 0 0)] [(0, 1), (1, 1), (2, 1)] #[(0, a1), (1, a2), (2, a3)]) fun v56 =>
  BSlC 71 3 #[(.int .i64 0), (.int .i64 0), (.slice none 0 0)] 1 #[(0, v56)] fun v57 =>
  AppC 71 3 40 #[(.int .i64 0), (.int .i64 0), (.slice none 0 0)] v52 v57 fun v58 =>
  NilC a0 fun v59 =>
  FA v59 0 fun v60 =>
  St 1 v60 v58 fun _ =>
  KR (.int .i64 0))))))
  (KR (.int .i64 (-10))))
  (KR (.int .i64 (-10)))
theorem V.jacinthref16_Waits_Block_ok {a0 a1 a2 a3 : Value} {K : Value → WP} {w : World} (h : V.jacinthref16_Waits_Block a0 a1 a2 a3 K w) : Cl pg 20 #[a0, a1, a2, a3] K w :=
  cl_of pg_mixed Try.func20 (args := [a0, a1, a2, a3]) (by kernel_rfl) (by rw [show WF pg Try.f20 [a0, a1, a2, a3] K = V.jacinthref16_Waits_Block a0 a1 a2 a3 K from by kernel_rfl]; exact h)

def V.jacinthlaw16_same (a0 a1 : Value) (KR : Value → WP) : WP :=
  LenS a0 fun v7 =>
  LenS a1 fun v9 =>
  BinI .neq v7 v9 fun v10 =>
  Cnd v10 (KR (.bool false))
  (LenS a0 fun v12 =>
  LoopC [(.bool false), (.int .i64 0)] fun vK vs => AllE <|
  UN vs fun v4 vs =>
  UN vs fun v13 _ =>
  BinI .lss v13 v12 fun v14 =>
  Cnd v14 (Drw <| QtC fun I =>
  QE I (fun KK => IA 4 a0 v13 fun v18 =>
  KK v18) fun v18_1 =>
  QE I (fun KK => FA v18_1 0 fun v19 =>
  KK v19) fun v19_1 =>
  QE I (fun KK => Ld1 v19_1 fun v20 =>
  KK v20) fun v20_1 =>
  QE I (fun KK => IA 4 a1 v13 fun v23 =>
  KK v23) fun v23_1 =>
  QE I (fun KK => FA v23_1 0 fun v24 =>
  KK v24) fun v24_1 =>
  QE I (fun KK => Ld1 v24_1 fun v25 =>
  KK v25) fun v25_1 =>
  BinI .neq v20_1 v25_1 fun v26 =>
  QtC fun I =>
  Grd v26 false (QE I (fun KK => IA 4 a0 v13 fun v30 =>
  KK v30) fun v30_1 =>
  QE I (fun KK => FA v30_1 1 fun v31 =>
  KK v31) fun v31_1 =>
  QE I (fun KK => Ld1 v31_1 fun v32 =>
  KK v32) fun v32_1 =>
  QE I (fun KK => IA 4 a1 v13 fun v35 =>
  KK v35) fun v35_1 =>
  QE I (fun KK => FA v35_1 1 fun v36 =>
  KK v36) fun v36_1 =>
  QE I (fun KK => Ld1 v36_1 fun v37 =>
  KK v37) fun v37_1 =>
  BinI .neq v32_1 v37_1 fun v38 =>
  QtC fun I =>
  Grd v38 false (QE I (fun KK => IA 4 a0 v13 fun v43 =>
  KK v43) fun v43_1 =>
  QE I (fun KK => FA v43_1 2 fun v44 =>
  KK v44) fun v44_1 =>
  QE I (fun KK => Ld1 v44_1 fun v45 =>
  KK v45) fun v45_1 =>
  QE I (fun KK => IA 4 a1 v13 fun v48 =>
  KK v48) fun v48_1 =>
  QE I (fun KK => FA v48_1 2 fun v49 =>
  KK v49) fun v49_1 =>
  QE I (fun KK => Ld1 v49_1 fun v50 =>
  KK v50) fun v50_1 =>
  BinI .neq v45_1 v50_1 fun v51 =>
  QtC fun I =>
  Grd v51 false (QE I (fun KK => IA 4 a0 v13 fun v56 =>
  KK v56) fun v56_1 =>
  QE I (fun KK => FA v56_1 3 fun v57 =>
  KK v57) fun v57_1 =>
  QE I (fun KK => Ld1 v57_1 fun v58 =>
  KK v58) fun v58_1 =>
  QE I (fun KK => IA 4 a1 v13 fun v61 =>
  KK v61) fun v61_1 =>
  QE I (fun KK => FA v61_1 3 fun v62 =>
  KK v62) fun v62_1 =>
  QE I (fun KK => Ld1 v62_1 fun v63 =>
  KK v63) fun v63_1 =>
  BinI .neq v58_1 v63_1 fun v64 =>
  Cnd v64 (KR (.bool false))
  (BinI .add v13 (.int .i64 1) fun v66 =>
  vK [v4, v66]))
  (KR (.bool false)))
  (QtC fun _ =>
  KR (.bool false)))
  (QtC fun _ =>
  QtC fun _ =>
  KR (.bool false)))
  (KR (.bool true)))
theorem V.jacinthlaw16_same_ok {a0 a1 : Value} {K : Value → WP} {w : World} (h : V.jacinthlaw16_same a0 a1 K w) : Cl pg 21 #[a0, a1] K w :=
  cl_of pg_mixed Try.func21 (args := [a0, a1]) (by kernel_rfl) (by rw [show WF pg Try.f21 [a0, a1] K = V.jacinthlaw16_same a0 a1 K from by kernel_rfl]; exact h)

def V.jacinthref16_Waits_On (a0 a1 a2 a3 : Value) (KR : Value → WP) : WP :=
  LoopC [(.slice none 0 0), (.int .i64 0)] fun vK vs => AllE <|
  UN vs fun v9 vs =>
  UN vs fun v10 _ =>
  NilC a0 fun v16 =>
  FA v16 0 fun v17 =>
  Ld1 v17 fun v18 =>
  LenS v18 fun v19 =>
  BinI .lss v10 v19 fun v20 =>
  Cnd v20 (JoinC (fun vs => AllE (UN vs fun v11 _ =>
  BinI .geq v11 (.int .i64 0) fun v93 =>
  Grd v93 true (Cnd a3 (NilC a0 fun v99 =>
  FA v99 0 fun v100 =>
  Ld1 v100 fun v101 =>
  IA 3 v101 v10 fun v103 =>
  FA v103 0 fun v104 =>
  Ld1 v104 fun v105 =>
  Ex pg (bldS #[(.int .i64 0), (.int .i64 0), (.int .i64 0), (.int .i64 0)] [(0, 1), (1, 1), (2, 1), (3, 1)] #[(0, v105), (1, v11), (2, (.int .i64 (-23))), (3, (.int .i64 0))]) fun v107 =>
  BSlC 95 4 #[(.int .i64 0), (.int .i64 0), (.int .i64 0), (.int .i64 0)] 1 #[(0, v107)] fun v108 =>
  AppC 95 4 32 #[(.int .i64 0), (.int .i64 0), (.int .i64 0), (.int .i64 0)] v9 v108 fun v109 =>
  BinI .add v10 (.int .i64 1) fun v22 =>
  vK [v109, v22])
  (BinI .geq v11 (.int .i64 0) fun v111 =>
  Cnd v111 (NilC a0 fun v114 =>
  FA v114 0 fun v115 =>
  Ld1 v115 fun v116 =>
  IA 3 v116 v10 fun v118 =>
  FA v118 0 fun v119 =>
  Ld1 v119 fun v120 =>
  Ex pg (bldS #[(.int .i64 0), (.int .i64 0), (.int .i64 0), (.int .i64 0)] [(0, 1), (1, 1), (2, 1), (3, 1)] #[(0, v120), (1, v11), (2, (.int .i64 0)), (3, a2)]) fun v123 =>
  BSlC 95 4 #[(.int .i64 0), (.int .i64 0), (.int .i64 0), (.int .i64 0)] 1 #[(0, v123)] fun v124 =>
  AppC 95 4 32 #[(.int .i64 0), (.int .i64 0), (.int .i64 0), (.int .i64 0)] v9 v124 fun v125 =>
  BinI .add v10 (.int .i64 1) fun v22_1 =>
  vK [v125, v22_1])
  (BinI .add v10 (.int .i64 1) fun v22_2 =>
  vK [v9, v22_2])))
  (BinI .geq v11 (.int .i64 0) fun v111_1 =>
  Cnd v111_1 (NilC a0 fun v114_1 =>
  FA v114_1 0 fun v115_1 =>
  Ld1 v115_1 fun v116_1 =>
  IA 3 v116_1 v10 fun v118_1 =>
  FA v118_1 0 fun v119_1 =>
  Ld1 v119_1 fun v120_1 =>
  Ex pg (bldS #[(.int .i64 0), (.int .i64 0), (.int .i64 0), (.int .i64 0)] [(0, 1), (1, 1), (2, 1), (3, 1)] #[(0, v120_1), (1, v11), (2, (.int .i64 0)), (3, a2)]) fun v123_1 =>
  BSlC 95 4 #[(.int .i64 0), (.int .i64 0), (.int .i64 0), (.int .i64 0)] 1 #[(0, v123_1)] fun v124_1 =>
  AppC 95 4 32 #[(.int .i64 0), (.int .i64 0), (.int .i64 0), (.int .i64 0)] v9 v124_1 fun v125_1 =>
  BinI .add v10 (.int .i64 1) fun v22_3 =>
  vK [v125_1, v22_3])
  (BinI .add v10 (.int .i64 1) fun v22_4 =>
  vK [v9, v22_4]))))
  fun vK_1 =>
  Cnd a3 (NilC a0 fun v25 =>
  FA v25 0 fun v26 =>
  Ld1 v26 fun v27 =>
  IA 3 v27 v10 fun v29 =>
  LdN 3 v29 fun v30 =>
  FnV pg (.func (.func 43) #[] #[]) #[v30, a1, (.int .i64 (-1))] fun v32 =>
  vK_1 [v32])
  (BinI .neq a2 (.int .i64 (-1)) fun v34 =>
  Cnd v34 (NilC a0 fun v36 =>
  FA v36 0 fun v37 =>
  Ld1 v37 fun v38 =>
  IA 3 v38 v10 fun v40 =>
  LdN 3 v40 fun v41 =>
  FnV pg (.func (.func 43) #[] #[]) #[v41, a1, a2] fun v44 =>
  vK_1 [v44])
  (LoopC [(.int .i64 (-1)), (.int .i64 0)] fun vK_2 vs => AllE <|
  UN vs fun v11_1 vs =>
  UN vs fun v12 _ =>
  NilC a0 fun v47 =>
  FA v47 0 fun v48 =>
  Ld1 v48 fun v49 =>
  IA 3 v49 v10 fun v51 =>
  FA v51 2 fun v52 =>
  Ld1 v52 fun v53 =>
  LenS v53 fun v54 =>
  BinI .lss v12 v54 fun v55 =>
  Cnd v55 (BinI .lss v11_1 (.int .i64 0) fun v59 =>
  Grd v59 true (NilC a0 fun v62 =>
  FA v62 0 fun v63 =>
  Ld1 v63 fun v64 =>
  IA 3 v64 v10 fun v66 =>
  FA v66 2 fun v67 =>
  Ld1 v67 fun v68 =>
  IA 2 v68 v12 fun v70 =>
  FA v70 0 fun v71 =>
  Ld1 v71 fun v72 =>
  BinI .eql v72 a1 fun v74 =>
  Grd v74 true (NilC a0 fun v78 =>
  FA v78 0 fun v79 =>
  Ld1 v79 fun v80 =>
  IA 3 v80 v10 fun v82 =>
  FA v82 2 fun v83 =>
  Ld1 v83 fun v84 =>
  IA 2 v84 v12 fun v86 =>
  FA v86 1 fun v87 =>
  Ld1 v87 fun v88 =>
  BinI .neq v88 (.int .i64 0) fun v89 =>
  Cnd v89 (BinI .add v12 (.int .i64 1) fun v57 =>
  vK_2 [v12, v57])
  (BinI .add v12 (.int .i64 1) fun v57_1 =>
  vK_2 [v11_1, v57_1]))
  (BinI .add v12 (.int .i64 1) fun v57_2 =>
  vK_2 [v11_1, v57_2]))
  (BinI .add v12 (.int .i64 1) fun v57_3 =>
  vK_2 [v11_1, v57_3]))
  (vK_1 [v11_1]))))
  (LoopC [(.int .i64 0)] fun vK_3 vs => AllE <|
  UN vs fun v13 _ =>
  LenS v9 fun v128 =>
  BinI .lss v13 v128 fun v129 =>
  Cnd v129 (IA 4 v9 v13 fun v135 =>
  FA v135 0 fun v136 =>
  Ld1 v136 fun v137 =>
  FnV pg (.func (.func 25) #[] #[]) #[a0, v137] fun _ =>
  BinI .add v13 (.int .i64 1) fun v131 =>
  vK_3 [v131])
  (KR v9))
theorem V.jacinthref16_Waits_On_ok {a0 a1 a2 a3 : Value} {K : Value → WP} {w : World} (h : V.jacinthref16_Waits_On a0 a1 a2 a3 K w) : Cl pg 22 #[a0, a1, a2, a3] K w :=
  cl_of pg_mixed Try.func22 (args := [a0, a1, a2, a3]) (by kernel_rfl) (by rw [show WF pg Try.f22 [a0, a1, a2, a3] K = V.jacinthref16_Waits_On a0 a1 a2 a3 K from by kernel_rfl]; exact h)

def V.jacinthref16_Waits_Expire (a0 a1 : Value) (KR : Value → WP) : WP :=
  LoopC [(.slice none 0 0), (.slice none 0 0)] fun vK vs => AllE <|
  UN vs fun v4 vs =>
  UN vs fun v5 _ =>
  LoopC [(.int .i64 (-1)), (.int .i64 0)] fun vK_1 vs => AllE <|
  UN vs fun v6 vs =>
  UN vs fun v7 _ =>
  NilC a0 fun v11 =>
  FA v11 0 fun v12 =>
  Ld1 v12 fun v13 =>
  LenS v13 fun v14 =>
  BinI .lss v7 v14 fun v15 =>
  Cnd v15 (NilC a0 fun v19 =>
  FA v19 0 fun v20 =>
  Ld1 v20 fun v21 =>
  IA 3 v21 v7 fun v23 =>
  LdN 3 v23 fun v24 =>
  New 71 #[(.int .i64 0), (.int .i64 0), (.slice none 0 0)] fun v8 =>
  St 3 v8 v24 fun _ =>
  Drw <| QtC fun I =>
  QE I (fun KK => FA v8 1 fun v25 =>
  KK v25) fun v25_1 =>
  QE I (fun KK => Ld1 v25_1 fun v26 =>
  KK v26) fun v26_1 =>
  BinI .leq v26_1 a1 fun v28 =>
  Grd v28 true (BinI .lss v6 (.int .i64 0) fun v31 =>
  QtC fun I =>
  Grd v31 false (QE I (fun KK => FA v8 1 fun v33 =>
  KK v33) fun v33_1 =>
  QE I (fun KK => Ld1 v33_1 fun v34 =>
  KK v34) fun v34_1 =>
  QE I (fun KK => NilC a0 fun v36 =>
  KK v36) fun v36_1 =>
  QE I (fun KK => FA v36_1 0 fun v37 =>
  KK v37) fun v37_1 =>
  QE I (fun KK => Ld1 v37_1 fun v38 =>
  KK v38) fun v38_1 =>
  QE I (fun KK => IA 3 v38_1 v6 fun v40 =>
  KK v40) fun v40_1 =>
  QE I (fun KK => FA v40_1 1 fun v41 =>
  KK v41) fun v41_1 =>
  QE I (fun KK => Ld1 v41_1 fun v42 =>
  KK v42) fun v42_1 =>
  BinI .lss v34_1 v42_1 fun v43 =>
  QtC fun I =>
  Grd v43 false (QE I (fun KK => FA v8 1 fun v46 =>
  KK v46) fun v46_1 =>
  QE I (fun KK => Ld1 v46_1 fun v47 =>
  KK v47) fun v47_1 =>
  QE I (fun KK => NilC a0 fun v49 =>
  KK v49) fun v49_1 =>
  QE I (fun KK => FA v49_1 0 fun v50 =>
  KK v50) fun v50_1 =>
  QE I (fun KK => Ld1 v50_1 fun v51 =>
  KK v51) fun v51_1 =>
  QE I (fun KK => IA 3 v51_1 v6 fun v53 =>
  KK v53) fun v53_1 =>
  QE I (fun KK => FA v53_1 1 fun v54 =>
  KK v54) fun v54_1 =>
  QE I (fun KK => Ld1 v54_1 fun v55 =>
  KK v55) fun v55_1 =>
  BinI .eql v47_1 v55_1 fun v56 =>
  QtC fun I =>
  Grd v56 true (QE I (fun KK => FA v8 0 fun v58 =>
  KK v58) fun v58_1 =>
  QE I (fun KK => Ld1 v58_1 fun v59 =>
  KK v59) fun v59_1 =>
  QE I (fun KK => NilC a0 fun v61 =>
  KK v61) fun v61_1 =>
  QE I (fun KK => FA v61_1 0 fun v62 =>
  KK v62) fun v62_1 =>
  QE I (fun KK => Ld1 v62_1 fun v63 =>
  KK v63) fun v63_1 =>
  QE I (fun KK => IA 3 v63_1 v6 fun v65 =>
  KK v65) fun v65_1 =>
  QE I (fun KK => FA v65_1 0 fun v66 =>
  KK v66) fun v66_1 =>
  QE I (fun KK => Ld1 v66_1 fun v67 =>
  KK v67) fun v67_1 =>
  BinI .lss v59_1 v67_1 fun v68 =>
  Cnd v68 (BinI .add v7 (.int .i64 1) fun v17 =>
  vK_1 [v7, v17])
  (BinI .add v7 (.int .i64 1) fun v17_1 =>
  vK_1 [v6, v17_1]))
  (BinI .add v7 (.int .i64 1) fun v17_2 =>
  vK_1 [v6, v17_2]))
  (QtC fun _ =>
  BinI .add v7 (.int .i64 1) fun v17_3 =>
  vK_1 [v7, v17_3]))
  (QtC fun _ =>
  QtC fun _ =>
  BinI .add v7 (.int .i64 1) fun v17_4 =>
  vK_1 [v7, v17_4]))
  (QtC fun _ =>
  QtC fun _ =>
  QtC fun _ =>
  BinI .add v7 (.int .i64 1) fun v17_5 =>
  vK_1 [v6, v17_5]))
  (BinI .lss v6 (.int .i64 0) fun v74 =>
  Cnd v74 (KR v5)
  (NilC a0 fun v78 =>
  FA v78 0 fun v79 =>
  Ld1 v79 fun v80 =>
  IA 3 v80 v6 fun v82 =>
  FA v82 0 fun v83 =>
  Ld1 v83 fun v84 =>
  Ex pg (bldS #[(.int .i64 0), (.int .i64 0), (.int .i64 0), (.int .i64 0)] [(0, 1), (1, 1), (2, 1), (3, 1)] #[(0, v84), (1, (.int .i64 (-1))), (2, (.int .i64 (-21))), (3, (.int .i64 0))]) fun v85 =>
  BSlC 95 4 #[(.int .i64 0), (.int .i64 0), (.int .i64 0), (.int .i64 0)] 1 #[(0, v85)] fun v86 =>
  AppC 95 4 32 #[(.int .i64 0), (.int .i64 0), (.int .i64 0), (.int .i64 0)] v5 v86 fun v87 =>
  NilC a0 fun v90 =>
  FA v90 0 fun v91 =>
  Ld1 v91 fun v92 =>
  IA 3 v92 v6 fun v94 =>
  FA v94 0 fun v95 =>
  Ld1 v95 fun v96 =>
  FnV pg (.func (.func 25) #[] #[]) #[a0, v96] fun _ =>
  vK [v4, v87]))
theorem V.jacinthref16_Waits_Expire_ok {a0 a1 : Value} {K : Value → WP} {w : World} (h : V.jacinthref16_Waits_Expire a0 a1 K w) : Cl pg 23 #[a0, a1] K w :=
  cl_of pg_mixed Try.func23 (args := [a0, a1]) (by kernel_rfl) (by rw [show WF pg Try.f23 [a0, a1] K = V.jacinthref16_Waits_Expire a0 a1 K from by kernel_rfl]; exact h)

def V.jacinthref16_Waits_Find (a0 a1 : Value) (KR : Value → WP) : WP :=
  LoopC [(.int .i64 0), (.int .i64 0)] fun vK vs => AllE <|
  UN vs fun v4 vs =>
  UN vs fun v5 _ =>
  NilC a0 fun v8 =>
  FA v8 0 fun v9 =>
  Ld1 v9 fun v10 =>
  LenS v10 fun v11 =>
  BinI .lss v5 v11 fun v12 =>
  Cnd v12 (NilC a0 fun v16 =>
  FA v16 0 fun v17 =>
  Ld1 v17 fun v18 =>
  IA 3 v18 v5 fun v20 =>
  FA v20 0 fun v21 =>
  Ld1 v21 fun v22 =>
  BinI .eql v22 a1 fun v24 =>
  Cnd v24 (KR v5)
  (BinI .add v5 (.int .i64 1) fun v14 =>
  vK [v4, v14]))
  (KR (.int .i64 (-1)))
theorem V.jacinthref16_Waits_Find_ok {a0 a1 : Value} {K : Value → WP} {w : World} (h : V.jacinthref16_Waits_Find a0 a1 K w) : Cl pg 24 #[a0, a1] K w :=
  cl_of pg_mixed Try.func24 (args := [a0, a1]) (by kernel_rfl) (by rw [show WF pg Try.f24 [a0, a1] K = V.jacinthref16_Waits_Find a0 a1 K from by kernel_rfl]; exact h)

def V.jacinthref16_Waits_Drop (a0 a1 : Value) (KR : Value → WP) : WP :=
  LoopC [(.slice none 0 0), (.int .i64 0)] fun vK vs => AllE <|
  UN vs fun v4 vs =>
  UN vs fun v5 _ =>
  NilC a0 fun v8 =>
  FA v8 0 fun v9 =>
  Ld1 v9 fun v10 =>
  LenS v10 fun v11 =>
  BinI .lss v5 v11 fun v12 =>
  Cnd v12 (NilC a0 fun v16 =>
  FA v16 0 fun v17 =>
  Ld1 v17 fun v18 =>
  IA 3 v18 v5 fun v20 =>
  FA v20 0 fun v21 =>
  Ld1 v21 fun v22 =>
  BinI .neq v22 a1 fun v24 =>
  Cnd v24 (NilC a0 fun v27 =>
  FA v27 0 fun v28 =>
  Ld1 v28 fun v29 =>
  IA 3 v29 v5 fun v31 =>
  LdN 3 v31 fun v32 =>
  BSlC 71 3 #[(.int .i64 0), (.int .i64 0), (.slice none 0 0)] 1 #[(0, v32)] fun v33 =>
  AppC 71 3 40 #[(.int .i64 0), (.int .i64 0), (.slice none 0 0)] v4 v33 fun v34 =>
  BinI .add v5 (.int .i64 1) fun v14 =>
  vK [v34, v14])
  (BinI .add v5 (.int .i64 1) fun v14_1 =>
  vK [v4, v14_1]))
  (NilC a0 fun v37 =>
  FA v37 0 fun v38 =>
  St 1 v38 v4 fun _ =>
  KR (.tuple #[]))
theorem V.jacinthref16_Waits_Drop_ok {a0 a1 : Value} {K : Value → WP} {w : World} (h : V.jacinthref16_Waits_Drop a0 a1 K w) : Cl pg 25 #[a0, a1] K w :=
  cl_of pg_mixed Try.func25 (args := [a0, a1]) (by kernel_rfl) (by rw [show WF pg Try.f25 [a0, a1] K = V.jacinthref16_Waits_Drop a0 a1 K from by kernel_rfl]; exact h)

def V.slices_ContainsFunc_Item_Item (a0 a1 : Value) (KR : Value → WP) : WP :=
  FnV pg (.func (.func 44) #[] #[]) #[a0, a1] fun v7 =>
  BinI .geq v7 (.int .i64 0) fun v8 =>
  KR v8
theorem V.slices_ContainsFunc_Item_Item_ok {a0 a1 : Value} {K : Value → WP} {w : World} (h : V.slices_ContainsFunc_Item_Item a0 a1 K w) : Cl pg 26 #[a0, a1] K w :=
  cl_of pg_mixed Try.func26 (args := [a0, a1]) (by kernel_rfl) (by rw [show WF pg Try.f26 [a0, a1] K = V.slices_ContainsFunc_Item_Item a0 a1 K from by kernel_rfl]; exact h)

def V.waits_Waits_Block_c1 (a0 : Value) (KR : Value → WP) : WP :=
  New 42 (Value.cells a0) fun v1 =>
  FA v1 0 fun v3 =>
  Ld1 v3 fun v4 =>
  BinI .lss v4 (.int .i64 1) fun v5 =>
  KR v5
theorem V.waits_Waits_Block_c1_ok {a0 : Value} {K : Value → WP} {w : World} (h : V.waits_Waits_Block_c1 a0 K w) : Cl pg 27 #[a0] K w :=
  cl_of pg_mixed Try.func27 (args := [a0]) (by kernel_rfl) (by rw [show WF pg Try.f27 [a0] K = V.waits_Waits_Block_c1 a0 K from by kernel_rfl]; exact h)

def V.waits_Waits_find (a0 a1 : Value) (KR : Value → WP) : WP :=
  New 3 (Value.cells a1) fun v3 =>
  NilC a0 fun v6 =>
  FA v6 0 fun v7 =>
  Ld1 v7 fun v8 =>
  FnV pg (.func (.func 45) #[] #[]) #[v8, (.func (.func 46) #[] #[v3])] fun v10 =>
  KR v10
theorem V.waits_Waits_find_ok {a0 a1 : Value} {K : Value → WP} {w : World} (h : V.waits_Waits_find a0 a1 K w) : Cl pg 28 #[a0, a1] K w :=
  cl_of pg_mixed Try.func28 (args := [a0, a1]) (by kernel_rfl) (by rw [show WF pg Try.f28 [a0, a1] K = V.waits_Waits_find a0 a1 K from by kernel_rfl]; exact h)

def V.slices_Clone_Item_Item (a0 : Value) (KR : Value → WP) : WP :=
  BinX pg .eql 28 (.tmp 3) (.const (.slice none 0 0)) a0 (.slice none 0 0) fun v4 =>
  Cnd v4 (KR (.slice none 0 0))
  (BSlC 42 2 #[(.int .i64 0), (.int .i64 0)] 0 #[] fun v5 =>
  AppC 42 2 16 #[(.int .i64 0), (.int .i64 0)] v5 a0 fun v7 =>
  KR v7)
theorem V.slices_Clone_Item_Item_ok {a0 : Value} {K : Value → WP} {w : World} (h : V.slices_Clone_Item_Item a0 K w) : Cl pg 29 #[a0] K w :=
  cl_of pg_mixed Try.func29 (args := [a0]) (by kernel_rfl) (by rw [show WF pg Try.f29 [a0] K = V.slices_Clone_Item_Item a0 K from by kernel_rfl]; exact h)

def V.waits_Waits_on (a0 a1 a2 : Value) (KR : Value → WP) : WP :=
  New 23 (Value.cells a0) fun v3 =>
  New 3 (Value.cells a1) fun v4 =>
  New 77 (Value.cells a2) fun v5 =>
  KR (.func (.func 47) #[] #[v3, v4, v5])
theorem V.waits_Waits_on_ok {a0 a1 a2 : Value} {K : Value → WP} {w : World} (h : V.waits_Waits_on a0 a1 a2 K w) : Cl pg 30 #[a0, a1, a2] K w :=
  cl_of pg_mixed Try.func30 (args := [a0, a1, a2]) (by kernel_rfl) (by rw [show WF pg Try.f30 [a0, a1, a2] K = V.waits_Waits_on a0 a1 a2 K from by kernel_rfl]; exact h)

def V.waits_Waits_Tell_c1 (a0 a1 : Value) (KR : Value → WP) : WP :=
  New 42 (Value.cells a0) fun v2 =>
  Ld1 a1 fun v4 =>
  FA v2 1 fun v5 =>
  Ld1 v5 fun v6 =>
  FnV pg (.func (.func 32) #[] #[]) #[v4, v6] fun v7 =>
  BinI .neq v7 (.int .i64 0) fun v8 =>
  KR v8
theorem V.waits_Waits_Tell_c1_ok {a0 a1 : Value} {K : Value → WP} {w : World} (h : V.waits_Waits_Tell_c1 a0 a1 K w) : Cl pg 31 #[a0, a1] K w :=
  cl_of pg_mixed Try.func31 (args := [a0, a1]) (by kernel_rfl) (by rw [show WF pg Try.f31 [a0, a1] K = V.waits_Waits_Tell_c1 a0 a1 K from by kernel_rfl]; exact h)

def V.signal_Set_Meets (a0 a1 : Value) (KR : Value → WP) : WP :=
  BinI .and a0 a1 fun v7 =>
  KR v7
theorem V.signal_Set_Meets_ok {a0 a1 : Value} {K : Value → WP} {w : World} (h : V.signal_Set_Meets a0 a1 K w) : Cl pg 32 #[a0, a1] K w :=
  cl_of pg_mixed Try.func32 (args := [a0, a1]) (by kernel_rfl) (by rw [show WF pg Try.f32 [a0, a1] K = V.signal_Set_Meets a0 a1 K from by kernel_rfl]; exact h)

def V.waits_Waits_wake (a0 a1 : Value) (KR : Value → WP) : WP :=
  LenS a1 fun v8 =>
  LoopC [(.int .i64 0)] fun vK vs => AllE <|
  UN vs fun v9 _ =>
  BinI .lss v9 v8 fun v10 =>
  Cnd v10 (IA 4 a1 v9 fun v11 =>
  LdN 4 v11 fun v12 =>
  New 38 #[(.int .i64 0), (.int .i64 0), (.int .i64 0), (.int .i64 0)] fun v6 =>
  St 4 v6 v12 fun _ =>
  FA v6 0 fun v14 =>
  Ld1 v14 fun v15 =>
  FnV pg (.func (.func 15) #[] #[]) #[a0, v15] fun _ =>
  BinI .add v9 (.int .i64 1) fun v17 =>
  vK [v17])
  (KR a1)
theorem V.waits_Waits_wake_ok {a0 a1 : Value} {K : Value → WP} {w : World} (h : V.waits_Waits_wake a0 a1 K w) : Cl pg 33 #[a0, a1] K w :=
  cl_of pg_mixed Try.func33 (args := [a0, a1]) (by kernel_rfl) (by rw [show WF pg Try.f33 [a0, a1] K = V.waits_Waits_wake a0 a1 K from by kernel_rfl]; exact h)

def V.slices_Delete_wait_wait (a0 a1 a2 : Value) (KR : Value → WP) : WP :=
  LenS a0 fun v12 =>
  Ex pg (Instr.sliceAt 73 a0 (some a1) (some a2) (some v12)) fun _ =>
  BinI .eql a1 a2 fun v16 =>
  Cnd v16 (KR a0)
  (LenS a0 fun v19 =>
  Drw <| QtC fun I =>
  QE I (fun KK => SlC 3 a0 none (some a1) fun v22 =>
  KK v22) fun v22_1 =>
  QE I (fun KK => SlC 3 a0 (some a2) none fun v25 =>
  KK v25) fun v25_1 =>
  AppC 80 3 40 #[(.int .i64 0), (.int .i64 0), (.slice none 0 0)] v22_1 v25_1 fun v26 =>
  LenS v26 fun v29 =>
  SlC 3 v26 (some v29) (some v19) fun v31 =>
  Ex pg (clrS #[(.int .i64 0), (.int .i64 0), (.slice none 0 0)] v31) fun _ =>
  KR v26)
theorem V.slices_Delete_wait_wait_ok {a0 a1 a2 : Value} {K : Value → WP} {w : World} (h : V.slices_Delete_wait_wait a0 a1 a2 K w) : Cl pg 34 #[a0, a1, a2] K w :=
  cl_of pg_mixed Try.func34 (args := [a0, a1, a2]) (by kernel_rfl) (by rw [show WF pg Try.f34 [a0, a1, a2] K = V.slices_Delete_wait_wait a0 a1 a2 K from by kernel_rfl]; exact h)

def V.waits_Waits_Cancel_c1 (a0 : Value) (KR : Value → WP) : WP :=
  New 42 (Value.cells a0) fun _ =>
  KR (.bool true)
theorem V.waits_Waits_Cancel_c1_ok {a0 : Value} {K : Value → WP} {w : World} (h : V.waits_Waits_Cancel_c1 a0 K w) : Cl pg 35 #[a0] K w :=
  cl_of pg_mixed Try.func35 (args := [a0]) (by kernel_rfl) (by rw [show WF pg Try.f35 [a0] K = V.waits_Waits_Cancel_c1 a0 K from by kernel_rfl]; exact h)

def V.slices_DeleteFunc_wait_wait (a0 a1 : Value) (KR : Value → WP) : WP :=
  FnV pg (.func (.func 45) #[] #[]) #[a0, a1] fun v10 =>
  BinI .eql v10 (.int .i64 (-1)) fun v12 =>
  Cnd v12 (KR a0)
  (BinI .add v10 (.int .i64 1) fun v15 =>
  LoopC [v10, v15] fun vK vs => AllE <|
  UN vs fun v5 vs =>
  UN vs fun v6 _ =>
  LenS a0 fun v18 =>
  BinI .lss v6 v18 fun v19 =>
  Cnd v19 (IA 3 a0 v6 fun v24 =>
  LdN 3 v24 fun v25 =>
  New 80 #[(.int .i64 0), (.int .i64 0), (.slice none 0 0)] fun v7 =>
  St 3 v7 v25 fun _ =>
  LdN 3 v7 fun v27 =>
  FnV pg a1 #[v27] fun v28 =>
  Un .not v28 fun v29 =>
  Cnd v29 (LdN 3 v7 fun v32 =>
  IA 3 a0 v5 fun v33 =>
  St 3 v33 v32 fun _ =>
  BinI .add v5 (.int .i64 1) fun v35 =>
  BinI .add v6 (.int .i64 1) fun v21 =>
  vK [v35, v21])
  (BinI .add v6 (.int .i64 1) fun v21_1 =>
  vK [v5, v21_1]))
  (SlC 3 a0 (some v5) none fun v38 =>
  Ex pg (clrS #[(.int .i64 0), (.int .i64 0), (.slice none 0 0)] v38) fun _ =>
  SlC 3 a0 none (some v5) fun v41 =>
  KR v41))
theorem V.slices_DeleteFunc_wait_wait_ok {a0 a1 : Value} {K : Value → WP} {w : World} (h : V.slices_DeleteFunc_wait_wait a0 a1 K w) : Cl pg 36 #[a0, a1] K w :=
  cl_of pg_mixed Try.func36 (args := [a0, a1]) (by kernel_rfl) (by rw [show WF pg Try.f36 [a0, a1] K = V.slices_DeleteFunc_wait_wait a0 a1 K from by kernel_rfl]; exact h)

def V.slices_Clone_wait_wait (a0 : Value) (KR : Value → WP) : WP :=
  BinX pg .eql 73 (.tmp 3) (.const (.slice none 0 0)) a0 (.slice none 0 0) fun v4 =>
  Cnd v4 (KR (.slice none 0 0))
  (BSlC 80 3 #[(.int .i64 0), (.int .i64 0), (.slice none 0 0)] 0 #[] fun v5 =>
  AppC 80 3 40 #[(.int .i64 0), (.int .i64 0), (.slice none 0 0)] v5 a0 fun v7 =>
  KR v7)
theorem V.slices_Clone_wait_wait_ok {a0 : Value} {K : Value → WP} {w : World} (h : V.slices_Clone_wait_wait a0 K w) : Cl pg 37 #[a0] K w :=
  cl_of pg_mixed Try.func37 (args := [a0]) (by kernel_rfl) (by rw [show WF pg Try.f37 [a0] K = V.slices_Clone_wait_wait a0 K from by kernel_rfl]; exact h)

def V.waits_Waits_Expire_c1 (a0 a1 : Value) (KR : Value → WP) : WP :=
  New 80 (Value.cells a0) fun v2 =>
  FA v2 1 fun v4 =>
  Ld1 v4 fun v5 =>
  Ld1 a1 fun v6 =>
  BinI .gtr v5 v6 fun v7 =>
  KR v7
theorem V.waits_Waits_Expire_c1_ok {a0 a1 : Value} {K : Value → WP} {w : World} (h : V.waits_Waits_Expire_c1 a0 a1 K w) : Cl pg 38 #[a0, a1] K w :=
  cl_of pg_mixed Try.func38 (args := [a0, a1]) (by kernel_rfl) (by rw [show WF pg Try.f38 [a0, a1] K = V.waits_Waits_Expire_c1 a0 a1 K from by kernel_rfl]; exact h)

def V.slices_SortFunc_wait_wait (a0 a1 : Value) (KR : Value → WP) : WP :=
  LenS a0 fun v6 =>
  ConvI .u64 v6 fun v10 =>
  FnV pg (.func (.func 49) #[] #[]) #[v10] fun v11 =>
  FnV pg (.func (.func 48) #[] #[]) #[a0, (.int .i64 0), v6, v11, a1] fun _ =>
  KR (.tuple #[])
theorem V.slices_SortFunc_wait_wait_ok {a0 a1 : Value} {K : Value → WP} {w : World} (h : V.slices_SortFunc_wait_wait a0 a1 K w) : Cl pg 39 #[a0, a1] K w :=
  cl_of pg_mixed Try.func39 (args := [a0, a1]) (by kernel_rfl) (by rw [show WF pg Try.f39 [a0, a1] K = V.slices_SortFunc_wait_wait a0 a1 K from by kernel_rfl]; exact h)

def V.waits_Waits_Expire_c2 (a0 a1 : Value) (KR : Value → WP) : WP :=
  New 80 (Value.cells a0) fun v2 =>
  New 80 (Value.cells a1) fun v3 =>
  Drw <| QtC fun I =>
  QE I (fun KK => FA v2 1 fun v5 =>
  KK v5) fun v5_1 =>
  QE I (fun KK => Ld1 v5_1 fun v6 =>
  KK v6) fun v6_1 =>
  QE I (fun KK => FA v3 1 fun v7 =>
  KK v7) fun v7_1 =>
  QE I (fun KK => Ld1 v7_1 fun v8 =>
  KK v8) fun v8_1 =>
  QE I (fun KK => FA v2 0 fun v10 =>
  KK v10) fun v10_1 =>
  QE I (fun KK => Ld1 v10_1 fun v11 =>
  KK v11) fun v11_1 =>
  QE I (fun KK => FA v3 0 fun v12 =>
  KK v12) fun v12_1 =>
  QE I (fun KK => Ld1 v12_1 fun v13 =>
  KK v13) fun v13_1 =>
  FnV pg (.func (.func 42) #[] #[]) #[v6_1, v8_1] fun v9 =>
  CH I <|
  FnV pg (.func (.func 42) #[] #[]) #[v11_1, v13_1] fun v14 =>
  BSlC 3 1 #[(.int .i64 0)] 2 #[(0, v9), (1, v14)] fun v15 =>
  FnV pg (.func (.func 41) #[] #[]) #[v15] fun v16 =>
  KR v16
theorem V.waits_Waits_Expire_c2_ok {a0 a1 : Value} {K : Value → WP} {w : World} (h : V.waits_Waits_Expire_c2 a0 a1 K w) : Cl pg 40 #[a0, a1] K w :=
  cl_of pg_mixed Try.func40 (args := [a0, a1]) (by kernel_rfl) (by rw [show WF pg Try.f40 [a0, a1] K = V.waits_Waits_Expire_c2 a0 a1 K from by kernel_rfl]; exact h)

def V.cmp_Or_int (a0 : Value) (KR : Value → WP) : WP :=
  LenS a0 fun v7 =>
  LoopC [(.int .i64 0), (.int .i64 0)] fun vK vs => AllE <|
  UN vs fun v2 vs =>
  UN vs fun v8 _ =>
  BinI .lss v8 v7 fun v9 =>
  Cnd v9 (IA 1 a0 v8 fun v10 =>
  Ld1 v10 fun v11 =>
  BinI .neq v11 (.int .i64 0) fun v14 =>
  Cnd v14 (KR v11)
  (BinI .add v8 (.int .i64 1) fun v16 =>
  vK [v2, v16]))
  (KR (.int .i64 0))
theorem V.cmp_Or_int_ok {a0 : Value} {K : Value → WP} {w : World} (h : V.cmp_Or_int a0 K w) : Cl pg 41 #[a0] K w :=
  cl_of pg_mixed Try.func41 (args := [a0]) (by kernel_rfl) (by rw [show WF pg Try.f41 [a0] K = V.cmp_Or_int a0 K from by kernel_rfl]; exact h)

def V.cmp_Compare_int (a0 a1 : Value) (KR : Value → WP) : WP :=
  FnV pg (.func (.func 50) #[] #[]) #[a0] fun v8 =>
  FnV pg (.func (.func 50) #[] #[]) #[a1] fun v10 =>
  Cnd v8 (Cnd v10 (KR (.int .i64 0))
  (KR (.int .i64 (-1))))
  (Cnd v10 (KR (.int .i64 1))
  (BinI .lss a0 a1 fun v16 =>
  Cnd v16 (KR (.int .i64 (-1)))
  (BinI .gtr a0 a1 fun v19 =>
  Cnd v19 (KR (.int .i64 1))
  (KR (.int .i64 0)))))
theorem V.cmp_Compare_int_ok {a0 a1 : Value} {K : Value → WP} {w : World} (h : V.cmp_Compare_int a0 a1 K w) : Cl pg 42 #[a0, a1] K w :=
  cl_of pg_mixed Try.func42 (args := [a0, a1]) (by kernel_rfl) (by rw [show WF pg Try.f42 [a0, a1] K = V.cmp_Compare_int a0 a1 K from by kernel_rfl]; exact h)

def V.jacinthref16_item (a0 a1 a2 : Value) (KR : Value → WP) : WP :=
  New 71 (Value.cells a0) fun v3 =>
  LoopC [(.int .i64 0), (.int .i64 0)] fun vK vs => AllE <|
  UN vs fun v6 vs =>
  UN vs fun v7 _ =>
  FA v3 2 fun v9 =>
  Ld1 v9 fun v10 =>
  LenS v10 fun v11 =>
  BinI .lss v7 v11 fun v12 =>
  Cnd v12 (FA v3 2 fun v15 =>
  Ld1 v15 fun v16 =>
  IA 2 v16 v7 fun v18 =>
  FA v18 0 fun v19 =>
  Ld1 v19 fun v20 =>
  BinI .eql v20 a1 fun v22 =>
  Grd v22 true (BinI .eql a2 (.int .i64 (-1)) fun v25 =>
  Grd v25 false (FA v3 2 fun v27 =>
  Ld1 v27 fun v28 =>
  IA 2 v28 v7 fun v30 =>
  FA v30 1 fun v31 =>
  Ld1 v31 fun v32 =>
  BinI .and v32 a2 fun v34 =>
  BinI .neq v34 (.int .i64 0) fun v35 =>
  Cnd v35 (KR v7)
  (BinI .add v7 (.int .i64 1) fun v14 =>
  vK [v6, v14]))
  (KR v7))
  (BinI .add v7 (.int .i64 1) fun v14_1 =>
  vK [v6, v14_1]))
  (KR (.int .i64 (-1)))
theorem V.jacinthref16_item_ok {a0 a1 a2 : Value} {K : Value → WP} {w : World} (h : V.jacinthref16_item a0 a1 a2 K w) : Cl pg 43 #[a0, a1, a2] K w :=
  cl_of pg_mixed Try.func43 (args := [a0, a1, a2]) (by kernel_rfl) (by rw [show WF pg Try.f43 [a0, a1, a2] K = V.jacinthref16_item a0 a1 a2 K from by kernel_rfl]; exact h)

def V.slices_IndexFunc_Item_Item (a0 a1 : Value) (KR : Value → WP) : WP :=
  LenS a0 fun v7 =>
  LoopC [(.int .i64 0), (.int .i64 0)] fun vK vs => AllE <|
  UN vs fun v4 vs =>
  UN vs fun v8 _ =>
  BinI .lss v8 v7 fun v9 =>
  Cnd v9 (IA 2 a0 v8 fun v14 =>
  LdN 2 v14 fun v15 =>
  FnV pg a1 #[v15] fun v16 =>
  Cnd v16 (KR v8)
  (BinI .add v8 (.int .i64 1) fun v18 =>
  vK [v4, v18]))
  (KR (.int .i64 (-1)))
theorem V.slices_IndexFunc_Item_Item_ok {a0 a1 : Value} {K : Value → WP} {w : World} (h : V.slices_IndexFunc_Item_Item a0 a1 K w) : Cl pg 44 #[a0, a1] K w :=
  cl_of pg_mixed Try.func44 (args := [a0, a1]) (by kernel_rfl) (by rw [show WF pg Try.f44 [a0, a1] K = V.slices_IndexFunc_Item_Item a0 a1 K from by kernel_rfl]; exact h)

def V.slices_IndexFunc_wait_wait (a0 a1 : Value) (KR : Value → WP) : WP :=
  LenS a0 fun v7 =>
  LoopC [(.int .i64 0), (.int .i64 0)] fun vK vs => AllE <|
  UN vs fun v4 vs =>
  UN vs fun v8 _ =>
  BinI .lss v8 v7 fun v9 =>
  Cnd v9 (IA 3 a0 v8 fun v14 =>
  LdN 3 v14 fun v15 =>
  FnV pg a1 #[v15] fun v16 =>
  Cnd v16 (KR v8)
  (BinI .add v8 (.int .i64 1) fun v18 =>
  vK [v4, v18]))
  (KR (.int .i64 (-1)))
theorem V.slices_IndexFunc_wait_wait_ok {a0 a1 : Value} {K : Value → WP} {w : World} (h : V.slices_IndexFunc_wait_wait a0 a1 K w) : Cl pg 45 #[a0, a1] K w :=
  cl_of pg_mixed Try.func45 (args := [a0, a1]) (by kernel_rfl) (by rw [show WF pg Try.f45 [a0, a1] K = V.slices_IndexFunc_wait_wait a0 a1 K from by kernel_rfl]; exact h)

def V.waits_Waits_find_c1 (a0 a1 : Value) (KR : Value → WP) : WP :=
  New 80 (Value.cells a0) fun v2 =>
  FA v2 0 fun v4 =>
  Ld1 v4 fun v5 =>
  Ld1 a1 fun v6 =>
  BinI .eql v5 v6 fun v7 =>
  KR v7
theorem V.waits_Waits_find_c1_ok {a0 a1 : Value} {K : Value → WP} {w : World} (h : V.waits_Waits_find_c1 a0 a1 K w) : Cl pg 46 #[a0, a1] K w :=
  cl_of pg_mixed Try.func46 (args := [a0, a1]) (by kernel_rfl) (by rw [show WF pg Try.f46 [a0, a1] K = V.waits_Waits_find_c1 a0 a1 K from by kernel_rfl]; exact h)

def V.waits_Waits_on_c1 (a0 a1 a2 a3 : Value) (KR : Value → WP) : WP :=
  Ld1 a1 fun v9 =>
  NilC v9 fun v10 =>
  FA v10 0 fun v11 =>
  Ld1 v11 fun v12 =>
  LenS v12 fun v13 =>
  LoopC [(.int .i64 0)] fun vK vs => AllE <|
  UN vs fun v14 _ =>
  BinI .lss v14 v13 fun v15 =>
  Cnd v15 (IA 3 v12 v14 fun v16 =>
  LdN 3 v16 fun v17 =>
  New 80 #[(.int .i64 0), (.int .i64 0), (.slice none 0 0)] fun v6 =>
  St 3 v6 v17 fun _ =>
  FA v6 2 fun v18 =>
  Ld1 v18 fun v19 =>
  LenS v19 fun v20 =>
  LoopC [(.int .i64 0)] fun vK_1 vs => AllE <|
  UN vs fun v21 _ =>
  BinI .lss v21 v20 fun v22 =>
  Cnd v22 (IA 2 v19 v21 fun v24 =>
  LdN 2 v24 fun v25 =>
  New 42 #[(.int .i64 0), (.int .i64 0)] fun v8 =>
  St 2 v8 v25 fun _ =>
  FA v8 0 fun v26 =>
  Ld1 v26 fun v27 =>
  Ld1 a2 fun v28 =>
  BinI .eql v27 v28 fun v29 =>
  Grd v29 true (Ld1 a3 fun v31 =>
  LdN 2 v8 fun v32 =>
  FnV pg v31 #[v32] fun v33 =>
  Cnd v33 (LdN 3 v6 fun v36 =>
  FnV pg a0 #[v36, v21] fun v38 =>
  Un .not v38 fun v39 =>
  Cnd v39 (KR (.tuple #[]))
  (BinI .add v14 (.int .i64 1) fun v41 =>
  vK [v41]))
  (BinI .add v21 (.int .i64 1) fun v40 =>
  vK_1 [v40]))
  (BinI .add v21 (.int .i64 1) fun v40_1 =>
  vK_1 [v40_1]))
  (BinI .add v14 (.int .i64 1) fun v41_1 =>
  vK [v41_1]))
  (KR (.tuple #[]))
theorem V.waits_Waits_on_c1_ok {a0 a1 a2 a3 : Value} {K : Value → WP} {w : World} (h : V.waits_Waits_on_c1 a0 a1 a2 a3 K w) : Cl pg 47 #[a0, a1, a2, a3] K w :=
  cl_of pg_mixed Try.func47 (args := [a0, a1, a2, a3]) (by kernel_rfl) (by rw [show WF pg Try.f47 [a0, a1, a2, a3] K = V.waits_Waits_on_c1 a0 a1 a2 a3 K from by kernel_rfl]; exact h)

def V.cmp_isNaN_int (a0 : Value) (KR : Value → WP) : WP :=
  BinI .neq a0 a0 fun v5 =>
  KR v5
theorem V.cmp_isNaN_int_ok {a0 : Value} {K : Value → WP} {w : World} (h : V.cmp_isNaN_int a0 K w) : Cl pg 50 #[a0] K w :=
  cl_of pg_mixed Try.func50 (args := [a0]) (by kernel_rfl) (by rw [show WF pg Try.f50 [a0] K = V.cmp_isNaN_int a0 K from by kernel_rfl]; exact h)
end Go.Proofs.Ythjkmgckkacegaa
