/- Several texts of this session's own, joined: V. -/
import Derived.Test.YtgkbbihaaichbaaYa
import Derived.Test.YtgkbbihaaichbaaProg
set_option maxRecDepth 100000
namespace Go.Proofs.Ytgkbbihaaichbaa
open Go Go.Jac
noncomputable abbrev pg : Program := Try.prog
theorem pg_mixed : pg.follows .mixedOrders = true := by kernel_rfl
def V.gosem_cut_init (KR : Value → WP) : WP :=
  FnV pg (.func (.func 1) #[] #[]) #[] fun _ =>
  KR (.tuple #[])
theorem V.gosem_cut_init_ok {K : Value → WP} {w : World} (h : V.gosem_cut_init  K w) : Cl pg 2 #[] K w :=
  cl_of pg_mixed Try.func2 (args := []) (by kernel_rfl) (by rw [show WF pg Try.f2 [] K = V.gosem_cut_init  K from by kernel_rfl]; exact h)

def V.jacinthlaw10_SpacePlaces (a0 : Value) (KR : Value → WP) : WP :=
  FnV pg (.func (.func 7) #[] #[]) #[(.int .i64 4), (.int .i64 3)] fun v12 =>
  EqP false v12 (.pointer none) fun v14 =>
  Grd v14 false (LenS a0 fun v17 =>
  BinI .gtr v17 (.int .i64 40) fun v18 =>
  Cnd v18 (EqP true v12 (.pointer none) fun v21 =>
  Grd v21 true (FnV pg (.func (.func 8) #[] #[]) #[] fun v23 =>
  KR v23)
  (KR (.bool false)))
  (FnV pg (.func (.func 9) #[] #[]) #[v12, (.int .i64 1024)] fun v27 =>
  Ext v27 0 fun v28 =>
  Ext v27 1 fun _ =>
  FnV pg (.func (.func 10) #[] #[]) #[v12, (.int .i64 1024), (.int .i64 50)] fun v31 =>
  EqP false v31 (.pointer none) fun v33 =>
  Cnd v33 (KR (.bool false))
  (LenS a0 fun v35 =>
  LoopC [(.bool false), (.int .i64 0), (.int .i64 0)] fun vK vs => AllE <|
  UN vs fun v2 vs =>
  UN vs fun v7 vs =>
  UN vs fun v36 _ =>
  BinI .lss v36 v35 fun v37 =>
  Cnd v37 (IA 1 a0 v36 fun v38 =>
  Ld1 v38 fun v39 =>
  FnV pg (.func (.func 11) #[] #[]) #[v31, (.int .i64 (-1)), v39, v28, (.int .i64 0), (.int .i64 1)] fun v44 =>
  Ext v44 0 fun v45 =>
  Ext v44 1 fun v46 =>
  BinI .lss v39 (.int .i64 1) fun v48 =>
  Grd v48 false (BinI .rem v39 (.int .i64 64) fun v51 =>
  BinI .neq v51 (.int .i64 0) fun v52 =>
  Grd v52 false (BinI .sub (.int .i64 1024) v7 fun v57 =>
  BinI .gtr v39 v57 fun v58 =>
  Cnd v58 (BinI .eql v46 (.int .i64 0) fun v61 =>
  Cnd v61 (KR (.bool false))
  (BinI .add v36 (.int .i64 1) fun v72 =>
  vK [v2, v7, v72]))
  (BinI .neq v46 (.int .i64 0) fun v63 =>
  Grd v63 false (BinI .neq v45 v7 fun v67 =>
  Cnd v67 (KR (.bool false))
  (BinI .add v7 v39 fun v71 =>
  BinI .add v36 (.int .i64 1) fun v72_1 =>
  vK [v2, v71, v72_1]))
  (KR (.bool false))))
  (BinI .eql v46 (.int .i64 0) fun v61_1 =>
  Cnd v61_1 (KR (.bool false))
  (BinI .add v36 (.int .i64 1) fun v72_2 =>
  vK [v2, v7, v72_2])))
  (BinI .eql v46 (.int .i64 0) fun v61_2 =>
  Cnd v61_2 (KR (.bool false))
  (BinI .add v36 (.int .i64 1) fun v72_3 =>
  vK [v2, v7, v72_3])))
  (FnV pg (.func (.func 12) #[] #[]) #[v31, v28] fun v75 =>
  FnV pg (.func (.func 13) #[] #[]) #[v31] fun v77 =>
  LenS v77 fun v78 =>
  BinI .eql v75 v78 fun v79 =>
  Grd v79 true (FnV pg (.func (.func 8) #[] #[]) #[] fun v81 =>
  KR v81)
  (KR (.bool false))))))
  (EqP true v12 (.pointer none) fun v21_1 =>
  Grd v21_1 true (FnV pg (.func (.func 8) #[] #[]) #[] fun v23_1 =>
  KR v23_1)
  (KR (.bool false)))
theorem V.jacinthlaw10_SpacePlaces_ok {a0 : Value} {K : Value → WP} {w : World} (h : V.jacinthlaw10_SpacePlaces a0 K w) : Cl pg 3 #[a0] K w :=
  cl_of pg_mixed Try.func3 (args := [a0]) (by kernel_rfl) (by rw [show WF pg Try.f3 [a0] K = V.jacinthlaw10_SpacePlaces a0 K from by kernel_rfl]; exact h)

def V.jacinthlaw10_SpaceSees (a0 a1 a2 : Value) (KR : Value → WP) : WP :=
  FnV pg (.func (.func 7) #[] #[]) #[(.int .i64 64), (.int .i64 4)] fun v26 =>
  EqP false v26 (.pointer none) fun v28 =>
  Grd v28 false (LenS a0 fun v31 =>
  BinI .gtr v31 (.int .i64 300) fun v32 =>
  Grd v32 false (BinI .lss a1 (.int .i64 0) fun v36 =>
  Grd v36 false (BinI .gtr a1 (.int .i64 200) fun v40 =>
  Grd v40 false (BinI .lss a2 (.int .i64 0) fun v44 =>
  Grd v44 false (BinI .gtr a2 (.int .i64 4) fun v48 =>
  Cnd v48 (EqP true v26 (.pointer none) fun v51 =>
  Grd v51 true (FnV pg (.func (.func 8) #[] #[]) #[] fun v53 =>
  KR v53)
  (KR (.bool false)))
  (FnV pg (.func (.func 9) #[] #[]) #[v26, (.int .i64 1024)] fun v57 =>
  Ext v57 0 fun v58 =>
  Ext v57 1 fun v59 =>
  FnV pg (.func (.func 10) #[] #[]) #[v26, (.int .i64 2048), (.int .i64 8)] fun v61 =>
  FnV pg (.func (.func 10) #[] #[]) #[v26, (.int .i64 4096), (.int .i64 8)] fun v63 =>
  BinI .neq v59 (.int .i64 0) fun v65 =>
  Grd v65 false (EqP false v61 (.pointer none) fun v68 =>
  Grd v68 false (EqP false v63 (.pointer none) fun v72 =>
  Cnd v72 (KR (.bool false))
  (BinI .mul (.int .i64 64) a2 fun v78 =>
  FnV pg (.func (.func 11) #[] #[]) #[v61, (.int .i64 (-1)), (.int .i64 512), v58, v78, (.int .i64 3)] fun v79 =>
  Ext v79 0 fun v80 =>
  Ext v79 1 fun v81 =>
  FnV pg (.func (.func 11) #[] #[]) #[v63, (.int .i64 1024), (.int .i64 1024), v58, (.int .i64 0), (.int .i64 1)] fun v85 =>
  Ext v85 0 fun v86 =>
  Ext v85 1 fun v87 =>
  BinI .neq v81 (.int .i64 0) fun v89 =>
  Grd v89 false (BinI .neq v87 (.int .i64 0) fun v92 =>
  Grd v92 false (BinI .neq v80 (.int .i64 0) fun v96 =>
  Grd v96 false (BinI .neq v86 (.int .i64 1024) fun v100 =>
  Cnd v100 (KR (.bool false))
  (FnV pg (.func (.func 14) #[] #[]) #[v61, a1, a0] fun v106 =>
  Ext v106 0 fun v107 =>
  Ext v106 1 fun v108 =>
  BinI .neq v108 (.int .i64 0) fun v110 =>
  Grd v110 false (LenS a0 fun v114 =>
  BinI .neq v107 v114 fun v115 =>
  Cnd v115 (KR (.bool false))
  (LenS a0 fun v121 =>
  FnV pg (.func (.func 15) #[] #[]) #[v61, a1, v121] fun v122 =>
  Ext v122 0 fun v123 =>
  Ext v122 1 fun v124 =>
  BinI .mul (.int .i64 64) a2 fun v128 =>
  BinI .add (.int .i64 1024) v128 fun v129 =>
  BinI .add v129 a1 fun v131 =>
  LenS a0 fun v133 =>
  FnV pg (.func (.func 15) #[] #[]) #[v63, v131, v133] fun v134 =>
  Ext v134 0 fun v135 =>
  Ext v134 1 fun v136 =>
  BinI .mul (.int .i64 64) a2 fun v141 =>
  BinI .add v141 a1 fun v143 =>
  LenS a0 fun v145 =>
  FnV pg (.func (.func 16) #[] #[]) #[v26, v58, v143, v145] fun v146 =>
  Ext v146 0 fun v147 =>
  Ext v146 1 fun v148 =>
  BSlC 5 1 #[(.int .u8 0)] 1 #[(0, (.int .u8 120))] fun v151 =>
  Ex pg (convert 36 36 v151) fun v152 =>
  FnV pg (.func (.func 14) #[] #[]) #[v63, (.int .i64 1024), v152] fun v153 =>
  Ext v153 0 fun _ =>
  Ext v153 1 fun v155 =>
  BinI .eql v124 (.int .i64 0) fun v157 =>
  Grd v157 true (BinI .eql v136 (.int .i64 0) fun v160 =>
  Grd v160 true (BinI .eql v148 (.int .i64 0) fun v164 =>
  Grd v164 true (BinI .neq v155 (.int .i64 0) fun v168 =>
  Grd v168 true (FnV pg (.func (.func 17) #[] #[]) #[v123, a0] fun v173 =>
  Grd v173 true (FnV pg (.func (.func 17) #[] #[]) #[v135, a0] fun v178 =>
  Grd v178 true (FnV pg (.func (.func 17) #[] #[]) #[v147, a0] fun v183 =>
  Grd v183 true (FnV pg (.func (.func 12) #[] #[]) #[v61, v58] fun v188 =>
  BinI .eql v188 (.int .i64 1) fun v189 =>
  Grd v189 true (FnV pg (.func (.func 8) #[] #[]) #[] fun v192 =>
  KR v192)
  (KR (.bool false)))
  (KR (.bool false)))
  (KR (.bool false)))
  (KR (.bool false)))
  (KR (.bool false)))
  (KR (.bool false)))
  (KR (.bool false)))
  (KR (.bool false))))
  (KR (.bool false))))
  (KR (.bool false)))
  (KR (.bool false)))
  (KR (.bool false))))
  (KR (.bool false)))
  (KR (.bool false))))
  (EqP true v26 (.pointer none) fun v51_1 =>
  Grd v51_1 true (FnV pg (.func (.func 8) #[] #[]) #[] fun v53_1 =>
  KR v53_1)
  (KR (.bool false))))
  (EqP true v26 (.pointer none) fun v51_2 =>
  Grd v51_2 true (FnV pg (.func (.func 8) #[] #[]) #[] fun v53_2 =>
  KR v53_2)
  (KR (.bool false))))
  (EqP true v26 (.pointer none) fun v51_3 =>
  Grd v51_3 true (FnV pg (.func (.func 8) #[] #[]) #[] fun v53_3 =>
  KR v53_3)
  (KR (.bool false))))
  (EqP true v26 (.pointer none) fun v51_4 =>
  Grd v51_4 true (FnV pg (.func (.func 8) #[] #[]) #[] fun v53_4 =>
  KR v53_4)
  (KR (.bool false))))
  (EqP true v26 (.pointer none) fun v51_5 =>
  Grd v51_5 true (FnV pg (.func (.func 8) #[] #[]) #[] fun v53_5 =>
  KR v53_5)
  (KR (.bool false)))
theorem V.jacinthlaw10_SpaceSees_ok {a0 a1 a2 : Value} {K : Value → WP} {w : World} (h : V.jacinthlaw10_SpaceSees a0 a1 a2 K w) : Cl pg 4 #[a0, a1, a2] K w :=
  cl_of pg_mixed Try.func4 (args := [a0, a1, a2]) (by kernel_rfl) (by rw [show WF pg Try.f4 [a0, a1, a2] K = V.jacinthlaw10_SpaceSees a0 a1 a2 K from by kernel_rfl]; exact h)

def V.jacinthlaw10_SpaceGuards (a0 : Value) (KR : Value → WP) : WP :=
  New 44 (Value.cells a0) fun v1 =>
  Drw <| JoinC (fun vs => AllE (UN vs fun v27 vs =>
  UN vs fun v3 vs =>
  UN vs fun v4 vs =>
  UN vs fun v5 vs =>
  UN vs fun v6 _ =>
  St 1 v6 v27 fun _ =>
  FnV pg (.func (.func 7) #[] #[]) #[(.int .i64 20), (.int .i64 3)] fun v28 =>
  EqP false v28 (.pointer none) fun v30 =>
  Grd v30 false (Ld1 v3 fun v32 =>
  BinI .lss v32 (.int .i64 0) fun v33 =>
  Grd v33 false (Ld1 v3 fun v36 =>
  BinI .gtr v36 (.int .i64 3) fun v37 =>
  Grd v37 false (Ld1 v4 fun v40 =>
  BinI .lss v40 (.int .i64 0) fun v41 =>
  Grd v41 false (Ld1 v4 fun v44 =>
  BinI .gtr v44 (.int .i64 3) fun v45 =>
  Grd v45 false (Ld1 v5 fun v48 =>
  BinI .lss v48 (.int .i64 0) fun v49 =>
  Grd v49 false (Ld1 v6 fun v52 =>
  BinI .lss v52 (.int .i64 0) fun v53 =>
  Grd v53 false (Ld1 v5 fun v56 =>
  BinI .gtr v56 (.int .i64 128) fun v57 =>
  Grd v57 false (Ld1 v6 fun v60 =>
  Ld1 v5 fun v61 =>
  BinI .sub (.int .i64 128) v61 fun v62 =>
  BinI .gtr v60 v62 fun v63 =>
  Cnd v63 (EqP true v28 (.pointer none) fun v66 =>
  Grd v66 true (FnV pg (.func (.func 8) #[] #[]) #[] fun v68 =>
  KR v68)
  (KR (.bool false)))
  (FnV pg (.func (.func 9) #[] #[]) #[v28, (.int .i64 128)] fun v72 =>
  Ext v72 0 fun v73 =>
  Ext v72 1 fun _ =>
  FnV pg (.func (.func 10) #[] #[]) #[v28, (.int .i64 128), (.int .i64 4)] fun v76 =>
  EqP false v76 (.pointer none) fun v78 =>
  Cnd v78 (KR (.bool false))
  (Ld1 v3 fun v82 =>
  FnV pg (.func (.func 11) #[] #[]) #[v76, (.int .i64 0), (.int .i64 64), v73, (.int .i64 0), v82] fun v83 =>
  Ext v83 0 fun _ =>
  Ext v83 1 fun v85 =>
  Ld1 v4 fun v89 =>
  FnV pg (.func (.func 11) #[] #[]) #[v76, (.int .i64 64), (.int .i64 64), v73, (.int .i64 64), v89] fun v90 =>
  Ext v90 0 fun _ =>
  Ext v90 1 fun v92 =>
  BinI .neq v85 (.int .i64 0) fun v94 =>
  Grd v94 false (BinI .neq v92 (.int .i64 0) fun v97 =>
  Cnd v97 (KR (.bool false))
  (Ld1 v5 fun v102 =>
  Ld1 v6 fun v103 =>
  FnV pg (.func (.func 15) #[] #[]) #[v76, v102, v103] fun v104 =>
  Ext v104 0 fun v105 =>
  Ext v104 1 fun v106 =>
  Drw <| QtC fun I =>
  QE I (fun KK => Ld1 v5 fun v109 =>
  KK v109) fun v109_1 =>
  QE I (fun KK => Ld1 v6 fun v110 =>
  KK v110) fun v110_1 =>
  MkSC 5 1 1 #[(.int .u8 0)] v110_1 v110_1 fun v111 =>
  CH I <|
  FnV pg (.func (.func 14) #[] #[]) #[v76, v109_1, v111] fun v112 =>
  QtC fun I =>
  QE I (fun KK => Ext v112 0 fun v113 =>
  KK v113) fun v113_1 =>
  QE I (fun KK => Ext v112 1 fun v114 =>
  KK v114) fun v114_1 =>
  BinI .eql v106 (.int .i64 0) fun v116 =>
  FnV pg (.func (.func 18) #[] #[v6, v5, v3, v4]) #[(.int .i64 1)] fun v118 =>
  EqB true v116 v118 fun v119 =>
  Grd v119 false (BinI .eql v114_1 (.int .i64 0) fun v122 =>
  FnV pg (.func (.func 18) #[] #[v6, v5, v3, v4]) #[(.int .i64 2)] fun v124 =>
  EqB true v122 v124 fun v125 =>
  Grd v125 false (BinI .eql v106 (.int .i64 0) fun v129 =>
  Grd v129 true (LenS v105 fun v132 =>
  Ld1 v6 fun v133 =>
  BinI .neq v132 v133 fun v134 =>
  Grd v134 false (BinI .eql v114_1 (.int .i64 0) fun v139 =>
  Grd v139 true (Ld1 v6 fun v142 =>
  BinI .neq v113_1 v142 fun v143 =>
  Grd v143 false (BinI .neq v114_1 (.int .i64 0) fun v148 =>
  Grd v148 true (BinI .neq v113_1 (.int .i64 0) fun v151 =>
  Cnd v151 (KR (.bool false))
  (FnV pg (.func (.func 19) #[] #[]) #[v76, (.int .i64 0), (.int .i64 128), (.int .i64 3)] fun v155 =>
  BinI .neq v155 (.int .i64 0) fun v156 =>
  Cnd v156 (KR (.bool false))
  (Ld1 v5 fun v159 =>
  Ld1 v6 fun v160 =>
  FnV pg (.func (.func 15) #[] #[]) #[v76, v159, v160] fun v161 =>
  Ext v161 0 fun _ =>
  Ext v161 1 fun v163 =>
  Drw <| QtC fun I =>
  QE I (fun KK => Ld1 v5 fun v166 =>
  KK v166) fun v166_1 =>
  QE I (fun KK => Ld1 v6 fun v167 =>
  KK v167) fun v167_1 =>
  MkSC 5 1 1 #[(.int .u8 0)] v167_1 v167_1 fun v168 =>
  CH I <|
  FnV pg (.func (.func 14) #[] #[]) #[v76, v166_1, v168] fun v169 =>
  QtC fun I =>
  QE I (fun KK => Ext v169 0 fun v170 =>
  KK v170) fun _ =>
  QE I (fun KK => Ext v169 1 fun v171 =>
  KK v171) fun v171_1 =>
  BinI .eql v163 (.int .i64 0) fun v173 =>
  Grd v173 true (BinI .eql v171_1 (.int .i64 0) fun v176 =>
  Grd v176 true (FnV pg (.func (.func 8) #[] #[]) #[] fun v179 =>
  KR v179)
  (KR (.bool false)))
  (KR (.bool false)))))
  (FnV pg (.func (.func 19) #[] #[]) #[v76, (.int .i64 0), (.int .i64 128), (.int .i64 3)] fun v155_1 =>
  BinI .neq v155_1 (.int .i64 0) fun v156_1 =>
  Cnd v156_1 (KR (.bool false))
  (Ld1 v5 fun v159_1 =>
  Ld1 v6 fun v160_1 =>
  FnV pg (.func (.func 15) #[] #[]) #[v76, v159_1, v160_1] fun v161_1 =>
  Ext v161_1 0 fun _ =>
  Ext v161_1 1 fun v163_1 =>
  Drw <| QtC fun I =>
  QE I (fun KK => Ld1 v5 fun v166_2 =>
  KK v166_2) fun v166_3 =>
  QE I (fun KK => Ld1 v6 fun v167_2 =>
  KK v167_2) fun v167_3 =>
  MkSC 5 1 1 #[(.int .u8 0)] v167_3 v167_3 fun v168_1 =>
  CH I <|
  FnV pg (.func (.func 14) #[] #[]) #[v76, v166_3, v168_1] fun v169_1 =>
  QtC fun I =>
  QE I (fun KK => Ext v169_1 0 fun v170_2 =>
  KK v170_2) fun _ =>
  QE I (fun KK => Ext v169_1 1 fun v171_2 =>
  KK v171_2) fun v171_3 =>
  BinI .eql v163_1 (.int .i64 0) fun v173_1 =>
  Grd v173_1 true (BinI .eql v171_3 (.int .i64 0) fun v176_1 =>
  Grd v176_1 true (FnV pg (.func (.func 8) #[] #[]) #[] fun v179_1 =>
  KR v179_1)
  (KR (.bool false)))
  (KR (.bool false)))))
  (KR (.bool false)))
  (BinI .neq v114_1 (.int .i64 0) fun v148_1 =>
  Grd v148_1 true (BinI .neq v113_1 (.int .i64 0) fun v151_1 =>
  Cnd v151_1 (KR (.bool false))
  (FnV pg (.func (.func 19) #[] #[]) #[v76, (.int .i64 0), (.int .i64 128), (.int .i64 3)] fun v155_2 =>
  BinI .neq v155_2 (.int .i64 0) fun v156_2 =>
  Cnd v156_2 (KR (.bool false))
  (Ld1 v5 fun v159_2 =>
  Ld1 v6 fun v160_2 =>
  FnV pg (.func (.func 15) #[] #[]) #[v76, v159_2, v160_2] fun v161_2 =>
  Ext v161_2 0 fun _ =>
  Ext v161_2 1 fun v163_2 =>
  Drw <| QtC fun I =>
  QE I (fun KK => Ld1 v5 fun v166_4 =>
  KK v166_4) fun v166_5 =>
  QE I (fun KK => Ld1 v6 fun v167_4 =>
  KK v167_4) fun v167_5 =>
  MkSC 5 1 1 #[(.int .u8 0)] v167_5 v167_5 fun v168_2 =>
  CH I <|
  FnV pg (.func (.func 14) #[] #[]) #[v76, v166_5, v168_2] fun v169_2 =>
  QtC fun I =>
  QE I (fun KK => Ext v169_2 0 fun v170_4 =>
  KK v170_4) fun _ =>
  QE I (fun KK => Ext v169_2 1 fun v171_4 =>
  KK v171_4) fun v171_5 =>
  BinI .eql v163_2 (.int .i64 0) fun v173_2 =>
  Grd v173_2 true (BinI .eql v171_5 (.int .i64 0) fun v176_2 =>
  Grd v176_2 true (FnV pg (.func (.func 8) #[] #[]) #[] fun v179_2 =>
  KR v179_2)
  (KR (.bool false)))
  (KR (.bool false)))))
  (FnV pg (.func (.func 19) #[] #[]) #[v76, (.int .i64 0), (.int .i64 128), (.int .i64 3)] fun v155_3 =>
  BinI .neq v155_3 (.int .i64 0) fun v156_3 =>
  Cnd v156_3 (KR (.bool false))
  (Ld1 v5 fun v159_3 =>
  Ld1 v6 fun v160_3 =>
  FnV pg (.func (.func 15) #[] #[]) #[v76, v159_3, v160_3] fun v161_3 =>
  Ext v161_3 0 fun _ =>
  Ext v161_3 1 fun v163_3 =>
  Drw <| QtC fun I =>
  QE I (fun KK => Ld1 v5 fun v166_6 =>
  KK v166_6) fun v166_7 =>
  QE I (fun KK => Ld1 v6 fun v167_6 =>
  KK v167_6) fun v167_7 =>
  MkSC 5 1 1 #[(.int .u8 0)] v167_7 v167_7 fun v168_3 =>
  CH I <|
  FnV pg (.func (.func 14) #[] #[]) #[v76, v166_7, v168_3] fun v169_3 =>
  QtC fun I =>
  QE I (fun KK => Ext v169_3 0 fun v170_6 =>
  KK v170_6) fun _ =>
  QE I (fun KK => Ext v169_3 1 fun v171_6 =>
  KK v171_6) fun v171_7 =>
  BinI .eql v163_3 (.int .i64 0) fun v173_3 =>
  Grd v173_3 true (BinI .eql v171_7 (.int .i64 0) fun v176_3 =>
  Grd v176_3 true (FnV pg (.func (.func 8) #[] #[]) #[] fun v179_3 =>
  KR v179_3)
  (KR (.bool false)))
  (KR (.bool false))))))
  (KR (.bool false)))
  (BinI .eql v114_1 (.int .i64 0) fun v139_1 =>
  Grd v139_1 true (Ld1 v6 fun v142_1 =>
  BinI .neq v113_1 v142_1 fun v143_1 =>
  Grd v143_1 false (BinI .neq v114_1 (.int .i64 0) fun v148_2 =>
  Grd v148_2 true (BinI .neq v113_1 (.int .i64 0) fun v151_2 =>
  Cnd v151_2 (KR (.bool false))
  (FnV pg (.func (.func 19) #[] #[]) #[v76, (.int .i64 0), (.int .i64 128), (.int .i64 3)] fun v155_4 =>
  BinI .neq v155_4 (.int .i64 0) fun v156_4 =>
  Cnd v156_4 (KR (.bool false))
  (Ld1 v5 fun v159_4 =>
  Ld1 v6 fun v160_4 =>
  FnV pg (.func (.func 15) #[] #[]) #[v76, v159_4, v160_4] fun v161_4 =>
  Ext v161_4 0 fun _ =>
  Ext v161_4 1 fun v163_4 =>
  Drw <| QtC fun I =>
  QE I (fun KK => Ld1 v5 fun v166_8 =>
  KK v166_8) fun v166_9 =>
  QE I (fun KK => Ld1 v6 fun v167_8 =>
  KK v167_8) fun v167_9 =>
  MkSC 5 1 1 #[(.int .u8 0)] v167_9 v167_9 fun v168_4 =>
  CH I <|
  FnV pg (.func (.func 14) #[] #[]) #[v76, v166_9, v168_4] fun v169_4 =>
  QtC fun I =>
  QE I (fun KK => Ext v169_4 0 fun v170_8 =>
  KK v170_8) fun _ =>
  QE I (fun KK => Ext v169_4 1 fun v171_8 =>
  KK v171_8) fun v171_9 =>
  BinI .eql v163_4 (.int .i64 0) fun v173_4 =>
  Grd v173_4 true (BinI .eql v171_9 (.int .i64 0) fun v176_4 =>
  Grd v176_4 true (FnV pg (.func (.func 8) #[] #[]) #[] fun v179_4 =>
  KR v179_4)
  (KR (.bool false)))
  (KR (.bool false)))))
  (FnV pg (.func (.func 19) #[] #[]) #[v76, (.int .i64 0), (.int .i64 128), (.int .i64 3)] fun v155_5 =>
  BinI .neq v155_5 (.int .i64 0) fun v156_5 =>
  Cnd v156_5 (KR (.bool false))
  (Ld1 v5 fun v159_5 =>
  Ld1 v6 fun v160_5 =>
  FnV pg (.func (.func 15) #[] #[]) #[v76, v159_5, v160_5] fun v161_5 =>
  Ext v161_5 0 fun _ =>
  Ext v161_5 1 fun v163_5 =>
  Drw <| QtC fun I =>
  QE I (fun KK => Ld1 v5 fun v166_10 =>
  KK v166_10) fun v166_11 =>
  QE I (fun KK => Ld1 v6 fun v167_10 =>
  KK v167_10) fun v167_11 =>
  MkSC 5 1 1 #[(.int .u8 0)] v167_11 v167_11 fun v168_5 =>
  CH I <|
  FnV pg (.func (.func 14) #[] #[]) #[v76, v166_11, v168_5] fun v169_5 =>
  QtC fun I =>
  QE I (fun KK => Ext v169_5 0 fun v170_10 =>
  KK v170_10) fun _ =>
  QE I (fun KK => Ext v169_5 1 fun v171_10 =>
  KK v171_10) fun v171_11 =>
  BinI .eql v163_5 (.int .i64 0) fun v173_5 =>
  Grd v173_5 true (BinI .eql v171_11 (.int .i64 0) fun v176_5 =>
  Grd v176_5 true (FnV pg (.func (.func 8) #[] #[]) #[] fun v179_5 =>
  KR v179_5)
  (KR (.bool false)))
  (KR (.bool false)))))
  (KR (.bool false)))
  (BinI .neq v114_1 (.int .i64 0) fun v148_3 =>
  Grd v148_3 true (BinI .neq v113_1 (.int .i64 0) fun v151_3 =>
  Cnd v151_3 (KR (.bool false))
  (FnV pg (.func (.func 19) #[] #[]) #[v76, (.int .i64 0), (.int .i64 128), (.int .i64 3)] fun v155_6 =>
  BinI .neq v155_6 (.int .i64 0) fun v156_6 =>
  Cnd v156_6 (KR (.bool false))
  (Ld1 v5 fun v159_6 =>
  Ld1 v6 fun v160_6 =>
  FnV pg (.func (.func 15) #[] #[]) #[v76, v159_6, v160_6] fun v161_6 =>
  Ext v161_6 0 fun _ =>
  Ext v161_6 1 fun v163_6 =>
  Drw <| QtC fun I =>
  QE I (fun KK => Ld1 v5 fun v166_12 =>
  KK v166_12) fun v166_13 =>
  QE I (fun KK => Ld1 v6 fun v167_12 =>
  KK v167_12) fun v167_13 =>
  MkSC 5 1 1 #[(.int .u8 0)] v167_13 v167_13 fun v168_6 =>
  CH I <|
  FnV pg (.func (.func 14) #[] #[]) #[v76, v166_13, v168_6] fun v169_6 =>
  QtC fun I =>
  QE I (fun KK => Ext v169_6 0 fun v170_12 =>
  KK v170_12) fun _ =>
  QE I (fun KK => Ext v169_6 1 fun v171_12 =>
  KK v171_12) fun v171_13 =>
  BinI .eql v163_6 (.int .i64 0) fun v173_6 =>
  Grd v173_6 true (BinI .eql v171_13 (.int .i64 0) fun v176_6 =>
  Grd v176_6 true (FnV pg (.func (.func 8) #[] #[]) #[] fun v179_6 =>
  KR v179_6)
  (KR (.bool false)))
  (KR (.bool false)))))
  (FnV pg (.func (.func 19) #[] #[]) #[v76, (.int .i64 0), (.int .i64 128), (.int .i64 3)] fun v155_7 =>
  BinI .neq v155_7 (.int .i64 0) fun v156_7 =>
  Cnd v156_7 (KR (.bool false))
  (Ld1 v5 fun v159_7 =>
  Ld1 v6 fun v160_7 =>
  FnV pg (.func (.func 15) #[] #[]) #[v76, v159_7, v160_7] fun v161_7 =>
  Ext v161_7 0 fun _ =>
  Ext v161_7 1 fun v163_7 =>
  Drw <| QtC fun I =>
  QE I (fun KK => Ld1 v5 fun v166_14 =>
  KK v166_14) fun v166_15 =>
  QE I (fun KK => Ld1 v6 fun v167_14 =>
  KK v167_14) fun v167_15 =>
  MkSC 5 1 1 #[(.int .u8 0)] v167_15 v167_15 fun v168_7 =>
  CH I <|
  FnV pg (.func (.func 14) #[] #[]) #[v76, v166_15, v168_7] fun v169_7 =>
  QtC fun I =>
  QE I (fun KK => Ext v169_7 0 fun v170_14 =>
  KK v170_14) fun _ =>
  QE I (fun KK => Ext v169_7 1 fun v171_14 =>
  KK v171_14) fun v171_15 =>
  BinI .eql v163_7 (.int .i64 0) fun v173_7 =>
  Grd v173_7 true (BinI .eql v171_15 (.int .i64 0) fun v176_7 =>
  Grd v176_7 true (FnV pg (.func (.func 8) #[] #[]) #[] fun v179_7 =>
  KR v179_7)
  (KR (.bool false)))
  (KR (.bool false)))))))
  (KR (.bool false)))
  (KR (.bool false))))
  (KR (.bool false)))))
  (EqP true v28 (.pointer none) fun v66_1 =>
  Grd v66_1 true (FnV pg (.func (.func 8) #[] #[]) #[] fun v68_1 =>
  KR v68_1)
  (KR (.bool false))))
  (EqP true v28 (.pointer none) fun v66_2 =>
  Grd v66_2 true (FnV pg (.func (.func 8) #[] #[]) #[] fun v68_2 =>
  KR v68_2)
  (KR (.bool false))))
  (EqP true v28 (.pointer none) fun v66_3 =>
  Grd v66_3 true (FnV pg (.func (.func 8) #[] #[]) #[] fun v68_3 =>
  KR v68_3)
  (KR (.bool false))))
  (EqP true v28 (.pointer none) fun v66_4 =>
  Grd v66_4 true (FnV pg (.func (.func 8) #[] #[]) #[] fun v68_4 =>
  KR v68_4)
  (KR (.bool false))))
  (EqP true v28 (.pointer none) fun v66_5 =>
  Grd v66_5 true (FnV pg (.func (.func 8) #[] #[]) #[] fun v68_5 =>
  KR v68_5)
  (KR (.bool false))))
  (EqP true v28 (.pointer none) fun v66_6 =>
  Grd v66_6 true (FnV pg (.func (.func 8) #[] #[]) #[] fun v68_6 =>
  KR v68_6)
  (KR (.bool false))))
  (EqP true v28 (.pointer none) fun v66_7 =>
  Grd v66_7 true (FnV pg (.func (.func 8) #[] #[]) #[] fun v68_7 =>
  KR v68_7)
  (KR (.bool false))))
  (EqP true v28 (.pointer none) fun v66_8 =>
  Grd v66_8 true (FnV pg (.func (.func 8) #[] #[]) #[] fun v68_8 =>
  KR v68_8)
  (KR (.bool false)))))
  fun vK =>
  QtC fun I =>
  QE I (fun KK => FA v1 0 fun v20 =>
  KK v20) fun v20_1 =>
  QE I (fun KK => Ld1 v20_1 fun v21 =>
  KK v21) fun v21_1 =>
  QE I (fun KK => FA v1 1 fun v22 =>
  KK v22) fun v22_1 =>
  QE I (fun KK => Ld1 v22_1 fun v23 =>
  KK v23) fun v23_1 =>
  QE I (fun KK => FA v1 2 fun v24 =>
  KK v24) fun v24_1 =>
  QE I (fun KK => Ld1 v24_1 fun v25 =>
  KK v25) fun v25_1 =>
  QE I (fun KK => FA v1 3 fun v26 =>
  KK v26) fun v26_1 =>
  QE I (fun KK => Ld1 v26_1 fun v27_1 =>
  KK v27_1) fun v27_2 =>
  And2 (New 3 #[(.int .i64 0)] fun v3_1 =>
  CH I <|
  And2 (New 3 #[(.int .i64 0)] fun v4_1 =>
  CH I <|
  And2 (New 3 #[(.int .i64 0)] fun v5_1 =>
  CH I <|
  New 3 #[(.int .i64 0)] fun v6_1 =>
  CH I <|
  St 1 v3_1 v21_1 fun _ =>
  CH I <|
  St 1 v4_1 v23_1 fun _ =>
  CH I <|
  St 1 v5_1 v25_1 fun _ =>
  CH I <|
  vK [v27_2, v3_1, v4_1, v5_1, v6_1])
  (New 3 #[(.int .i64 0)] fun v6_2 =>
  CH I <|
  New 3 #[(.int .i64 0)] fun v5_2 =>
  CH I <|
  St 1 v3_1 v21_1 fun _ =>
  CH I <|
  St 1 v4_1 v23_1 fun _ =>
  CH I <|
  St 1 v5_2 v25_1 fun _ =>
  CH I <|
  vK [v27_2, v3_1, v4_1, v5_2, v6_2]))
  (And2 (New 3 #[(.int .i64 0)] fun v5_3 =>
  CH I <|
  And2 (New 3 #[(.int .i64 0)] fun v4_2 =>
  CH I <|
  New 3 #[(.int .i64 0)] fun v6_3 =>
  CH I <|
  St 1 v3_1 v21_1 fun _ =>
  CH I <|
  St 1 v4_2 v23_1 fun _ =>
  CH I <|
  St 1 v5_3 v25_1 fun _ =>
  CH I <|
  vK [v27_2, v3_1, v4_2, v5_3, v6_3])
  (New 3 #[(.int .i64 0)] fun v6_4 =>
  CH I <|
  New 3 #[(.int .i64 0)] fun v4_3 =>
  CH I <|
  St 1 v3_1 v21_1 fun _ =>
  CH I <|
  St 1 v4_3 v23_1 fun _ =>
  CH I <|
  St 1 v5_3 v25_1 fun _ =>
  CH I <|
  vK [v27_2, v3_1, v4_3, v5_3, v6_4]))
  (New 3 #[(.int .i64 0)] fun v6_5 =>
  CH I <|
  And2 (New 3 #[(.int .i64 0)] fun v4_4 =>
  CH I <|
  New 3 #[(.int .i64 0)] fun v5_4 =>
  CH I <|
  St 1 v3_1 v21_1 fun _ =>
  CH I <|
  St 1 v4_4 v23_1 fun _ =>
  CH I <|
  St 1 v5_4 v25_1 fun _ =>
  CH I <|
  vK [v27_2, v3_1, v4_4, v5_4, v6_5])
  (New 3 #[(.int .i64 0)] fun v5_5 =>
  CH I <|
  New 3 #[(.int .i64 0)] fun v4_5 =>
  CH I <|
  St 1 v3_1 v21_1 fun _ =>
  CH I <|
  St 1 v4_5 v23_1 fun _ =>
  CH I <|
  St 1 v5_5 v25_1 fun _ =>
  CH I <|
  vK [v27_2, v3_1, v4_5, v5_5, v6_5]))))
  (And2 (New 3 #[(.int .i64 0)] fun v4_6 =>
  CH I <|
  And2 (New 3 #[(.int .i64 0)] fun v3_2 =>
  CH I <|
  And2 (New 3 #[(.int .i64 0)] fun v5_6 =>
  CH I <|
  New 3 #[(.int .i64 0)] fun v6_6 =>
  CH I <|
  St 1 v3_2 v21_1 fun _ =>
  CH I <|
  St 1 v4_6 v23_1 fun _ =>
  CH I <|
  St 1 v5_6 v25_1 fun _ =>
  CH I <|
  vK [v27_2, v3_2, v4_6, v5_6, v6_6])
  (New 3 #[(.int .i64 0)] fun v6_7 =>
  CH I <|
  New 3 #[(.int .i64 0)] fun v5_7 =>
  CH I <|
  St 1 v3_2 v21_1 fun _ =>
  CH I <|
  St 1 v4_6 v23_1 fun _ =>
  CH I <|
  St 1 v5_7 v25_1 fun _ =>
  CH I <|
  vK [v27_2, v3_2, v4_6, v5_7, v6_7]))
  (And2 (New 3 #[(.int .i64 0)] fun v5_8 =>
  CH I <|
  And2 (New 3 #[(.int .i64 0)] fun v3_3 =>
  CH I <|
  New 3 #[(.int .i64 0)] fun v6_8 =>
  CH I <|
  St 1 v3_3 v21_1 fun _ =>
  CH I <|
  St 1 v4_6 v23_1 fun _ =>
  CH I <|
  St 1 v5_8 v25_1 fun _ =>
  CH I <|
  vK [v27_2, v3_3, v4_6, v5_8, v6_8])
  (New 3 #[(.int .i64 0)] fun v6_9 =>
  CH I <|
  New 3 #[(.int .i64 0)] fun v3_4 =>
  CH I <|
  St 1 v3_4 v21_1 fun _ =>
  CH I <|
  St 1 v4_6 v23_1 fun _ =>
  CH I <|
  St 1 v5_8 v25_1 fun _ =>
  CH I <|
  vK [v27_2, v3_4, v4_6, v5_8, v6_9]))
  (New 3 #[(.int .i64 0)] fun v6_10 =>
  CH I <|
  And2 (New 3 #[(.int .i64 0)] fun v3_5 =>
  CH I <|
  New 3 #[(.int .i64 0)] fun v5_9 =>
  CH I <|
  St 1 v3_5 v21_1 fun _ =>
  CH I <|
  St 1 v4_6 v23_1 fun _ =>
  CH I <|
  St 1 v5_9 v25_1 fun _ =>
  CH I <|
  vK [v27_2, v3_5, v4_6, v5_9, v6_10])
  (New 3 #[(.int .i64 0)] fun v5_10 =>
  CH I <|
  New 3 #[(.int .i64 0)] fun v3_6 =>
  CH I <|
  St 1 v3_6 v21_1 fun _ =>
  CH I <|
  St 1 v4_6 v23_1 fun _ =>
  CH I <|
  St 1 v5_10 v25_1 fun _ =>
  CH I <|
  vK [v27_2, v3_6, v4_6, v5_10, v6_10]))))
  (And2 (New 3 #[(.int .i64 0)] fun v5_11 =>
  CH I <|
  And2 (New 3 #[(.int .i64 0)] fun v3_7 =>
  CH I <|
  And2 (New 3 #[(.int .i64 0)] fun v4_7 =>
  CH I <|
  New 3 #[(.int .i64 0)] fun v6_11 =>
  CH I <|
  St 1 v3_7 v21_1 fun _ =>
  CH I <|
  St 1 v4_7 v23_1 fun _ =>
  CH I <|
  St 1 v5_11 v25_1 fun _ =>
  CH I <|
  vK [v27_2, v3_7, v4_7, v5_11, v6_11])
  (New 3 #[(.int .i64 0)] fun v6_12 =>
  CH I <|
  New 3 #[(.int .i64 0)] fun v4_8 =>
  CH I <|
  St 1 v3_7 v21_1 fun _ =>
  CH I <|
  St 1 v4_8 v23_1 fun _ =>
  CH I <|
  St 1 v5_11 v25_1 fun _ =>
  CH I <|
  vK [v27_2, v3_7, v4_8, v5_11, v6_12]))
  (And2 (New 3 #[(.int .i64 0)] fun v4_9 =>
  CH I <|
  And2 (New 3 #[(.int .i64 0)] fun v3_8 =>
  CH I <|
  New 3 #[(.int .i64 0)] fun v6_13 =>
  CH I <|
  St 1 v3_8 v21_1 fun _ =>
  CH I <|
  St 1 v4_9 v23_1 fun _ =>
  CH I <|
  St 1 v5_11 v25_1 fun _ =>
  CH I <|
  vK [v27_2, v3_8, v4_9, v5_11, v6_13])
  (New 3 #[(.int .i64 0)] fun v6_14 =>
  CH I <|
  New 3 #[(.int .i64 0)] fun v3_9 =>
  CH I <|
  St 1 v3_9 v21_1 fun _ =>
  CH I <|
  St 1 v4_9 v23_1 fun _ =>
  CH I <|
  St 1 v5_11 v25_1 fun _ =>
  CH I <|
  vK [v27_2, v3_9, v4_9, v5_11, v6_14]))
  (New 3 #[(.int .i64 0)] fun v6_15 =>
  CH I <|
  And2 (New 3 #[(.int .i64 0)] fun v3_10 =>
  CH I <|
  New 3 #[(.int .i64 0)] fun v4_10 =>
  CH I <|
  St 1 v3_10 v21_1 fun _ =>
  CH I <|
  St 1 v4_10 v23_1 fun _ =>
  CH I <|
  St 1 v5_11 v25_1 fun _ =>
  CH I <|
  vK [v27_2, v3_10, v4_10, v5_11, v6_15])
  (New 3 #[(.int .i64 0)] fun v4_11 =>
  CH I <|
  New 3 #[(.int .i64 0)] fun v3_11 =>
  CH I <|
  St 1 v3_11 v21_1 fun _ =>
  CH I <|
  St 1 v4_11 v23_1 fun _ =>
  CH I <|
  St 1 v5_11 v25_1 fun _ =>
  CH I <|
  vK [v27_2, v3_11, v4_11, v5_11, v6_15]))))
  (New 3 #[(.int .i64 0)] fun v6_16 =>
  CH I <|
  And2 (New 3 #[(.int .i64 0)] fun v3_12 =>
  CH I <|
  And2 (New 3 #[(.int .i64 0)] fun v4_12 =>
  CH I <|
  New 3 #[(.int .i64 0)] fun v5_12 =>
  CH I <|
  St 1 v3_12 v21_1 fun _ =>
  CH I <|
  St 1 v4_12 v23_1 fun _ =>
  CH I <|
  St 1 v5_12 v25_1 fun _ =>
  CH I <|
  vK [v27_2, v3_12, v4_12, v5_12, v6_16])
  (New 3 #[(.int .i64 0)] fun v5_13 =>
  CH I <|
  New 3 #[(.int .i64 0)] fun v4_13 =>
  CH I <|
  St 1 v3_12 v21_1 fun _ =>
  CH I <|
  St 1 v4_13 v23_1 fun _ =>
  CH I <|
  St 1 v5_13 v25_1 fun _ =>
  CH I <|
  vK [v27_2, v3_12, v4_13, v5_13, v6_16]))
  (And2 (New 3 #[(.int .i64 0)] fun v4_14 =>
  CH I <|
  And2 (New 3 #[(.int .i64 0)] fun v3_13 =>
  CH I <|
  New 3 #[(.int .i64 0)] fun v5_14 =>
  CH I <|
  St 1 v3_13 v21_1 fun _ =>
  CH I <|
  St 1 v4_14 v23_1 fun _ =>
  CH I <|
  St 1 v5_14 v25_1 fun _ =>
  CH I <|
  vK [v27_2, v3_13, v4_14, v5_14, v6_16])
  (New 3 #[(.int .i64 0)] fun v5_15 =>
  CH I <|
  New 3 #[(.int .i64 0)] fun v3_14 =>
  CH I <|
  St 1 v3_14 v21_1 fun _ =>
  CH I <|
  St 1 v4_14 v23_1 fun _ =>
  CH I <|
  St 1 v5_15 v25_1 fun _ =>
  CH I <|
  vK [v27_2, v3_14, v4_14, v5_15, v6_16]))
  (New 3 #[(.int .i64 0)] fun v5_16 =>
  CH I <|
  And2 (New 3 #[(.int .i64 0)] fun v3_15 =>
  CH I <|
  New 3 #[(.int .i64 0)] fun v4_15 =>
  CH I <|
  St 1 v3_15 v21_1 fun _ =>
  CH I <|
  St 1 v4_15 v23_1 fun _ =>
  CH I <|
  St 1 v5_16 v25_1 fun _ =>
  CH I <|
  vK [v27_2, v3_15, v4_15, v5_16, v6_16])
  (New 3 #[(.int .i64 0)] fun v4_16 =>
  CH I <|
  New 3 #[(.int .i64 0)] fun v3_16 =>
  CH I <|
  St 1 v3_16 v21_1 fun _ =>
  CH I <|
  St 1 v4_16 v23_1 fun _ =>
  CH I <|
  St 1 v5_16 v25_1 fun _ =>
  CH I <|
  vK [v27_2, v3_16, v4_16, v5_16, v6_16]))))))
theorem V.jacinthlaw10_SpaceGuards_ok {a0 : Value} {K : Value → WP} {w : World} (h : V.jacinthlaw10_SpaceGuards a0 K w) : Cl pg 5 #[a0] K w :=
  cl_of pg_mixed Try.func5 (args := [a0]) (by kernel_rfl) (by rw [show WF pg Try.f5 [a0] K = V.jacinthlaw10_SpaceGuards a0 K from by kernel_rfl]; exact h)

def V.jacinthlaw10_SpaceDrops (a0 a1 : Value) (KR : Value → WP) : WP :=
  FnV pg (.func (.func 7) #[] #[]) #[(.int .i64 20), (.int .i64 10)] fun v19 =>
  EqP false v19 (.pointer none) fun v21 =>
  Grd v21 false (BinI .lss a0 (.int .i64 1) fun v24 =>
  Grd v24 false (BinI .gtr a0 (.int .i64 8) fun v28 =>
  Cnd v28 (EqP true v19 (.pointer none) fun v31 =>
  Grd v31 true (FnV pg (.func (.func 8) #[] #[]) #[] fun v33 =>
  KR v33)
  (KR (.bool false)))
  (FnV pg (.func (.func 10) #[] #[]) #[v19, (.int .i64 1024), (.int .i64 20)] fun v36 =>
  EqP false v36 (.pointer none) fun v38 =>
  Cnd v38 (KR (.bool false))
  (LoopC [(.bool false), (.int .i64 0)] fun vK vs => AllE <|
  UN vs fun v4 vs =>
  UN vs fun v40 _ =>
  BinI .lss v40 a0 fun v41 =>
  Cnd v41 (FnV pg (.func (.func 9) #[] #[]) #[v19, (.int .i64 64)] fun v45 =>
  Ext v45 0 fun v46 =>
  Ext v45 1 fun _ =>
  FnV pg (.func (.func 11) #[] #[]) #[v36, (.int .i64 (-1)), (.int .i64 64), v46, (.int .i64 0), (.int .i64 3)] fun v51 =>
  Ext v51 0 fun v52 =>
  Ext v51 1 fun v53 =>
  BinI .neq v53 (.int .i64 0) fun v55 =>
  Grd v55 false (BinI .mul (.int .i64 64) v40 fun v59 =>
  BinI .neq v52 v59 fun v60 =>
  Cnd v60 (KR (.bool false))
  (BinI .add v40 (.int .i64 1) fun v62 =>
  vK [v4, v62]))
  (KR (.bool false)))
  (BinI .lss a1 (.int .i64 1) fun v64 =>
  Grd v64 false (BinI .gtr a1 a0 fun v68 =>
  Cnd v68 (FnV pg (.func (.func 8) #[] #[]) #[] fun v70 =>
  KR v70)
  (FnV pg (.func (.func 20) #[] #[]) #[v19, a1] fun v74 =>
  Ext v74 0 fun _ =>
  Ext v74 1 fun v76 =>
  BinI .neq v76 (.int .i64 0) fun v78 =>
  Cnd v78 (KR (.bool false))
  (LoopC [v4, (.int .i64 0)] fun vK_1 vs => AllE <|
  UN vs fun v4_1 vs =>
  UN vs fun v80 _ =>
  BinI .lss v80 a0 fun v81 =>
  Cnd v81 (BinI .mul (.int .i64 64) v80 fun v86 =>
  FnV pg (.func (.func 15) #[] #[]) #[v36, v86, (.int .i64 4)] fun v87 =>
  Ext v87 0 fun _ =>
  Ext v87 1 fun v89 =>
  BinI .add v80 (.int .i64 1) fun v93 =>
  FnV pg (.func (.func 11) #[] #[]) #[v36, (.int .i64 (-1)), (.int .i64 64), v93, (.int .i64 0), (.int .i64 1)] fun v94 =>
  Ext v94 0 fun _ =>
  Ext v94 1 fun v96 =>
  BinI .eql v89 (.int .i64 0) fun v98 =>
  BinI .add v80 (.int .i64 1) fun v100 =>
  BinI .neq v100 a1 fun v102 =>
  EqB true v98 v102 fun v103 =>
  Grd v103 false (BinI .eql v96 (.int .i64 0) fun v106 =>
  BinI .add v80 (.int .i64 1) fun v108 =>
  BinI .neq v108 a1 fun v110 =>
  EqB true v106 v110 fun v111 =>
  Cnd v111 (KR (.bool false))
  (BinI .add v80 (.int .i64 1) fun v113 =>
  vK_1 [v4_1, v113]))
  (KR (.bool false)))
  (FnV pg (.func (.func 12) #[] #[]) #[v36, a1] fun v116 =>
  BinI .eql v116 (.int .i64 1) fun v117 =>
  Grd v117 true (FnV pg (.func (.func 8) #[] #[]) #[] fun v119 =>
  KR v119)
  (KR (.bool false))))))
  (FnV pg (.func (.func 8) #[] #[]) #[] fun v70_1 =>
  KR v70_1)))))
  (EqP true v19 (.pointer none) fun v31_1 =>
  Grd v31_1 true (FnV pg (.func (.func 8) #[] #[]) #[] fun v33_1 =>
  KR v33_1)
  (KR (.bool false))))
  (EqP true v19 (.pointer none) fun v31_2 =>
  Grd v31_2 true (FnV pg (.func (.func 8) #[] #[]) #[] fun v33_2 =>
  KR v33_2)
  (KR (.bool false)))
theorem V.jacinthlaw10_SpaceDrops_ok {a0 a1 : Value} {K : Value → WP} {w : World} (h : V.jacinthlaw10_SpaceDrops a0 a1 K w) : Cl pg 6 #[a0, a1] K w :=
  cl_of pg_mixed Try.func6 (args := [a0, a1]) (by kernel_rfl) (by rw [show WF pg Try.f6 [a0, a1] K = V.jacinthlaw10_SpaceDrops a0 a1 K from by kernel_rfl]; exact h)

def V.vmo_New (a0 a1 : Value) (KR : Value → WP) : WP :=
  FnV pg (.func (.func 21) #[] #[]) #[a0] fun v7 =>
  EqP false v7 (.pointer none) fun v9 =>
  Grd v9 false (BinI .lss a1 (.int .i64 0) fun v12 =>
  Grd v12 false (BinI .gtr a1 (.int .i64 65536) fun v16 =>
  Cnd v16 (KR (.pointer none))
  (Ex pg (Instr.makeMap 53 none) fun v19 =>
  Ex pg (bldS #[(.pointer none), (.map none), (.int .i64 0), (.int .i64 0)] [(0, 1), (1, 1), (2, 1), (3, 1)] #[(0, v7), (1, v19), (2, a1)]) fun v21 =>
  New 55 (Value.cells v21) fun v22 =>
  KR v22))
  (KR (.pointer none)))
  (KR (.pointer none))
theorem V.vmo_New_ok {a0 a1 : Value} {K : Value → WP} {w : World} (h : V.vmo_New a0 a1 K w) : Cl pg 7 #[a0, a1] K w :=
  cl_of pg_mixed Try.func7 (args := [a0, a1]) (by kernel_rfl) (by rw [show WF pg Try.f7 [a0, a1] K = V.vmo_New a0 a1 K from by kernel_rfl]; exact h)

def V.jacinthlaw10_awake (KR : Value → WP) : WP :=
  FnV pg (.func (.func 7) #[] #[]) #[(.int .i64 8), (.int .i64 4)] fun v9 =>
  EqP false v9 (.pointer none) fun v11 =>
  Cnd v11 (KR (.bool false))
  (FnV pg (.func (.func 9) #[] #[]) #[v9, (.int .i64 128)] fun _ =>
  FnV pg (.func (.func 10) #[] #[]) #[v9, (.int .i64 512), (.int .i64 4)] fun v15 =>
  EqP false v15 (.pointer none) fun v17 =>
  Cnd v17 (KR (.bool false))
  (FnV pg (.func (.func 11) #[] #[]) #[v15, (.int .i64 64), (.int .i64 128), (.int .i64 1), (.int .i64 0), (.int .i64 3)] fun v20 =>
  Ext v20 0 fun v21 =>
  Ext v20 1 fun v22 =>
  BSlC 5 1 #[(.int .u8 0)] 4 #[(0, (.int .u8 97)), (1, (.int .u8 98)), (2, (.int .u8 99)), (3, (.int .u8 100))] fun v25 =>
  Ex pg (convert 36 36 v25) fun v26 =>
  FnV pg (.func (.func 14) #[] #[]) #[v15, (.int .i64 126), v26] fun v27 =>
  Ext v27 0 fun v28 =>
  Ext v27 1 fun v29 =>
  FnV pg (.func (.func 16) #[] #[]) #[v9, (.int .i64 1), (.int .i64 62), (.int .i64 4)] fun v32 =>
  Ext v32 0 fun v33 =>
  Ext v32 1 fun v34 =>
  BinI .eql v21 (.int .i64 64) fun v36 =>
  Grd v36 true (BinI .eql v22 (.int .i64 0) fun v39 =>
  Grd v39 true (BinI .eql v28 (.int .i64 4) fun v43 =>
  Grd v43 true (BinI .eql v29 (.int .i64 0) fun v47 =>
  Grd v47 true (BinI .eql v34 (.int .i64 0) fun v51 =>
  Grd v51 true (Ex pg (convert 36 9 v33) fun v55 =>
  BinX pg .eql 9 (.tmp 55) (.const (.string ⟨#[97, 98, 99, 100]⟩)) v55 (.string ⟨#[97, 98, 99, 100]⟩) fun v56 =>
  KR v56)
  (KR (.bool false)))
  (KR (.bool false)))
  (KR (.bool false)))
  (KR (.bool false)))
  (KR (.bool false))))
theorem V.jacinthlaw10_awake_ok {K : Value → WP} {w : World} (h : V.jacinthlaw10_awake  K w) : Cl pg 8 #[] K w :=
  cl_of pg_mixed Try.func8 (args := []) (by kernel_rfl) (by rw [show WF pg Try.f8 [] K = V.jacinthlaw10_awake  K from by kernel_rfl]; exact h)

def V.vmo_Set_Create (a0 a1 : Value) (KR : Value → WP) : WP :=
  FnV pg (.func (.func 22) #[] #[]) #[a1] fun v9 =>
  Ext v9 0 fun v10 =>
  Ext v9 1 fun v11 =>
  BinI .neq v11 (.int .i64 0) fun v13 =>
  Cnd v13 (KR (.tuple #[(.int .i64 0), v11]))
  (Ex pg (Instr.makeMap 58 none) fun v17 =>
  Ex pg (bldS #[(.int .i64 0), (.int .i64 0), (.map none), (.slice none 0 0), (.bool false), (.int .i64 0), (.int .i64 0), (.bool false)] [(0, 1), (1, 1), (2, 1), (3, 1), (4, 1), (5, 1), (6, 1), (7, 1)] #[(0, v10), (2, v17)]) fun v18 =>
  New 60 (Value.cells v18) fun v19 =>
  FnV pg (.func (.func 23) #[] #[]) #[a0, v19] fun v20 =>
  Ext v20 0 fun v21 =>
  Ext v20 1 fun v22 =>
  KR (.tuple #[v21, v22]))
theorem V.vmo_Set_Create_ok {a0 a1 : Value} {K : Value → WP} {w : World} (h : V.vmo_Set_Create a0 a1 K w) : Cl pg 9 #[a0, a1] K w :=
  cl_of pg_mixed Try.func9 (args := [a0, a1]) (by kernel_rfl) (by rw [show WF pg Try.f9 [a0, a1] K = V.vmo_Set_Create a0 a1 K from by kernel_rfl]; exact h)

def V.space_New (a0 a1 a2 : Value) (KR : Value → WP) : WP :=
  FnV pg (.func (.func 24) #[] #[]) #[a1, a2] fun v10 =>
  EqP false a0 (.pointer none) fun v12 =>
  Grd v12 false (EqP false v10 (.pointer none) fun v15 =>
  Cnd v15 (KR (.pointer none))
  (Ex pg (bldS #[(.pointer none), (.pointer none), (.int .i64 0), (.int .i64 0)] [(0, 1), (1, 1), (2, 1), (3, 1)] #[(0, a0), (1, v10), (2, a1), (3, a2)]) fun v21 =>
  New 64 (Value.cells v21) fun v22 =>
  KR v22))
  (KR (.pointer none))
theorem V.space_New_ok {a0 a1 a2 : Value} {K : Value → WP} {w : World} (h : V.space_New a0 a1 a2 K w) : Cl pg 10 #[a0, a1, a2] K w :=
  cl_of pg_mixed Try.func10 (args := [a0, a1, a2]) (by kernel_rfl) (by rw [show WF pg Try.f10 [a0, a1, a2] K = V.space_New a0 a1 a2 K from by kernel_rfl]; exact h)

def V.space_Space_Map (a0 a1 a2 a3 a4 a5 : Value) (KR : Value → WP) : WP :=
  NilC a0 fun v20 =>
  FA v20 0 fun v21 =>
  Ld1 v21 fun v22 =>
  FnV pg (.func (.func 25) #[] #[]) #[v22, a3] fun v24 =>
  Ext v24 0 fun v25 =>
  Ext v24 1 fun v26 =>
  New 66 #[(.int .i64 0), (.int .i64 0), (.int .i64 0), (.int .i64 0), (.bool false), (.bool false)] fun v14 =>
  St 6 v14 v25 fun _ =>
  Un .not v26 fun v29 =>
  Grd v29 false (FA v14 5 fun v31 =>
  Ld1 v31 fun v32 =>
  Cnd v32 (KR (.tuple #[(.int .i64 0), (.int .i64 (-25))]))
  (BinI .lss a2 (.int .i64 0) fun v36 =>
  Grd v36 false (BinI .lss a4 (.int .i64 0) fun v39 =>
  Cnd v39 (KR (.tuple #[(.int .i64 0), (.int .i64 (-10))]))
  (FA v14 0 fun v44 =>
  Ld1 v44 fun v45 =>
  FnV pg (.func (.func 26) #[] #[]) #[a4, a2, v45] fun v46 =>
  Un .not v46 fun v47 =>
  Cnd v47 (KR (.tuple #[(.int .i64 0), (.int .i64 (-14))]))
  (JoinC (fun vs => AllE (UN vs fun v1 vs =>
  UN vs fun _ vs =>
  UN vs fun _ _ =>
  NilC a0 fun v63 =>
  FA v63 1 fun v64 =>
  Ld1 v64 fun v65 =>
  Ex pg (bldS #[(.int .i64 0), (.int .i64 0), (.int .i64 0), (.int .i64 0), (.int .i64 0)] [(0, 1), (1, 1), (2, 1), (3, 1), (4, 1)] #[(0, v1), (1, a2), (2, a3), (3, a4), (4, a5)]) fun v71 =>
  FnV pg (.func (.func 28) #[] #[]) #[v65, v71] fun v72 =>
  BinI .neq v72 (.int .i64 0) fun v74 =>
  Cnd v74 (KR (.tuple #[(.int .i64 0), v72]))
  (KR (.tuple #[v1, (.int .i64 0)]))))
  fun vK =>
  BinI .eql a1 (.int .i64 (-1)) fun v49 =>
  Cnd v49 (NilC a0 fun v52 =>
  FA v52 1 fun v53 =>
  Ld1 v53 fun v54 =>
  FnV pg (.func (.func 27) #[] #[]) #[v54, a2] fun v56 =>
  Ext v56 0 fun v57 =>
  Ext v56 1 fun v58 =>
  BinI .neq v58 (.int .i64 0) fun v60 =>
  Cnd v60 (KR (.tuple #[(.int .i64 0), v58]))
  (vK [v57, (.int .i64 0), (.int .i64 0)]))
  (vK [a1, (.int .i64 0), (.int .i64 0)]))))
  (KR (.tuple #[(.int .i64 0), (.int .i64 (-10))]))))
  (KR (.tuple #[(.int .i64 0), (.int .i64 (-25))]))
theorem V.space_Space_Map_ok {a0 a1 a2 a3 a4 a5 : Value} {K : Value → WP} {w : World} (h : V.space_Space_Map a0 a1 a2 a3 a4 a5 K w) : Cl pg 11 #[a0, a1, a2, a3, a4, a5] K w :=
  cl_of pg_mixed Try.func11 (args := [a0, a1, a2, a3, a4, a5]) (by kernel_rfl) (by rw [show WF pg Try.f11 [a0, a1, a2, a3, a4, a5] K = V.space_Space_Map a0 a1 a2 a3 a4 a5 K from by kernel_rfl]; exact h)

def V.space_Space_Uses (a0 a1 : Value) (KR : Value → WP) : WP :=
  NilC a0 fun v9 =>
  FA v9 1 fun v10 =>
  Ld1 v10 fun v11 =>
  FnV pg (.func (.func 29) #[] #[]) #[v11] fun v12 =>
  LenS v12 fun v13 =>
  LoopC [(.int .i64 0), (.int .i64 0)] fun vK vs => AllE <|
  UN vs fun v5 vs =>
  UN vs fun v14 _ =>
  BinI .lss v14 v13 fun v15 =>
  Cnd v15 (IA 5 v12 v14 fun v16 =>
  LdN 5 v16 fun v17 =>
  New 72 #[(.int .i64 0), (.int .i64 0), (.int .i64 0), (.int .i64 0), (.int .i64 0)] fun v7 =>
  St 5 v7 v17 fun _ =>
  FA v7 2 fun v18 =>
  Ld1 v18 fun v19 =>
  BinI .eql v19 a1 fun v21 =>
  Cnd v21 (BinI .add v5 (.int .i64 1) fun v23 =>
  BinI .add v14 (.int .i64 1) fun v24 =>
  vK [v23, v24])
  (BinI .add v14 (.int .i64 1) fun v24_1 =>
  vK [v5, v24_1]))
  (KR v5)
theorem V.space_Space_Uses_ok {a0 a1 : Value} {K : Value → WP} {w : World} (h : V.space_Space_Uses a0 a1 K w) : Cl pg 12 #[a0, a1] K w :=
  cl_of pg_mixed Try.func12 (args := [a0, a1]) (by kernel_rfl) (by rw [show WF pg Try.f12 [a0, a1] K = V.space_Space_Uses a0 a1 K from by kernel_rfl]; exact h)

def V.space_Space_Pieces (a0 : Value) (KR : Value → WP) : WP :=
  NilC a0 fun v4 =>
  FA v4 1 fun v5 =>
  Ld1 v5 fun v6 =>
  FnV pg (.func (.func 29) #[] #[]) #[v6] fun v7 =>
  KR v7
theorem V.space_Space_Pieces_ok {a0 : Value} {K : Value → WP} {w : World} (h : V.space_Space_Pieces a0 K w) : Cl pg 13 #[a0] K w :=
  cl_of pg_mixed Try.func13 (args := [a0]) (by kernel_rfl) (by rw [show WF pg Try.f13 [a0] K = V.space_Space_Pieces a0 K from by kernel_rfl]; exact h)

def V.space_Space_Write (a0 a1 a2 : Value) (KR : Value → WP) : WP :=
  LenS a2 fun v18 =>
  FnV pg (.func (.func 30) #[] #[]) #[a0, a1, v18, (.int .i64 2)] fun v19 =>
  Ext v19 0 fun v20 =>
  Ext v19 1 fun v21 =>
  BinI .neq v21 (.int .i64 0) fun v23 =>
  Cnd v23 (KR (.tuple #[(.int .i64 0), v21]))
  (LenS v20 fun v26 =>
  LoopC [(.int .i64 0), (.int .i64 0), (.int .i64 0), (.int .i64 0)] fun vK vs => AllE <|
  UN vs fun v6 vs =>
  UN vs fun v7 vs =>
  UN vs fun v10 vs =>
  UN vs fun v27 _ =>
  BinI .lss v27 v26 fun v28 =>
  Cnd v28 (IA 5 v20 v27 fun v29 =>
  LdN 5 v29 fun v30 =>
  New 72 #[(.int .i64 0), (.int .i64 0), (.int .i64 0), (.int .i64 0), (.int .i64 0)] fun v12 =>
  St 5 v12 v30 fun _ =>
  Drw <| QtC fun I =>
  QE I (fun KK => NilC a0 fun v32 =>
  KK v32) fun v32_1 =>
  QE I (fun KK => FA v32_1 0 fun v33 =>
  KK v33) fun v33_1 =>
  QE I (fun KK => Ld1 v33_1 fun v34 =>
  KK v34) fun v34_1 =>
  QE I (fun KK => FA v12 2 fun v35 =>
  KK v35) fun v35_1 =>
  QE I (fun KK => Ld1 v35_1 fun v36 =>
  KK v36) fun v36_1 =>
  QE I (fun KK => FA v12 3 fun v37 =>
  KK v37) fun v37_1 =>
  QE I (fun KK => Ld1 v37_1 fun v38 =>
  KK v38) fun v38_1 =>
  QE I (fun KK => FA v12 1 fun v42 =>
  KK v42) fun v42_1 =>
  QE I (fun KK => Ld1 v42_1 fun v43 =>
  KK v43) fun v43_1 =>
  QE I (fun KK => BinI .add v10 v43_1 fun v44 =>
  KK v44) fun v44_1 =>
  QE I (fun KK => SlC 1 a2 (some v10) (some v44_1) fun v45 =>
  KK v45) fun v45_1 =>
  FnV pg (.func (.func 31) #[] #[]) #[v34_1, v36_1, v38_1, v45_1] fun v46 =>
  BinI .neq v46 (.int .i64 0) fun v48 =>
  Cnd v48 (KR (.tuple #[v10, v46]))
  (FA v12 1 fun v52 =>
  Ld1 v52 fun v53 =>
  BinI .add v10 v53 fun v54 =>
  BinI .add v27 (.int .i64 1) fun v55 =>
  vK [v6, v7, v54, v55]))
  (KR (.tuple #[v10, (.int .i64 0)])))
theorem V.space_Space_Write_ok {a0 a1 a2 : Value} {K : Value → WP} {w : World} (h : V.space_Space_Write a0 a1 a2 K w) : Cl pg 14 #[a0, a1, a2] K w :=
  cl_of pg_mixed Try.func14 (args := [a0, a1, a2]) (by kernel_rfl) (by rw [show WF pg Try.f14 [a0, a1, a2] K = V.space_Space_Write a0 a1 a2 K from by kernel_rfl]; exact h)

def V.space_Space_Read (a0 a1 a2 : Value) (KR : Value → WP) : WP :=
  FnV pg (.func (.func 30) #[] #[]) #[a0, a1, a2, (.int .i64 1)] fun v19 =>
  Ext v19 0 fun v20 =>
  Ext v19 1 fun v21 =>
  BinI .neq v21 (.int .i64 0) fun v23 =>
  Cnd v23 (KR (.tuple #[(.slice none 0 0), v21]))
  (LenS v20 fun v26 =>
  LoopC [(.slice none 0 0), (.int .i64 0), (.slice none 0 0), (.int .i64 0)] fun vK vs => AllE <|
  UN vs fun v6 vs =>
  UN vs fun v7 vs =>
  UN vs fun v10 vs =>
  UN vs fun v27 _ =>
  BinI .lss v27 v26 fun v28 =>
  Cnd v28 (IA 5 v20 v27 fun v29 =>
  LdN 5 v29 fun v30 =>
  New 72 #[(.int .i64 0), (.int .i64 0), (.int .i64 0), (.int .i64 0), (.int .i64 0)] fun v12 =>
  St 5 v12 v30 fun _ =>
  Drw <| QtC fun I =>
  QE I (fun KK => NilC a0 fun v33 =>
  KK v33) fun v33_1 =>
  QE I (fun KK => FA v33_1 0 fun v34 =>
  KK v34) fun v34_1 =>
  QE I (fun KK => Ld1 v34_1 fun v35 =>
  KK v35) fun v35_1 =>
  QE I (fun KK => FA v12 2 fun v36 =>
  KK v36) fun v36_1 =>
  QE I (fun KK => Ld1 v36_1 fun v37 =>
  KK v37) fun v37_1 =>
  QE I (fun KK => FA v12 3 fun v38 =>
  KK v38) fun v38_1 =>
  QE I (fun KK => Ld1 v38_1 fun v39 =>
  KK v39) fun v39_1 =>
  QE I (fun KK => FA v12 1 fun v40 =>
  KK v40) fun v40_1 =>
  QE I (fun KK => Ld1 v40_1 fun v41 =>
  KK v41) fun v41_1 =>
  FnV pg (.func (.func 16) #[] #[]) #[v35_1, v37_1, v39_1, v41_1] fun v42 =>
  QtC fun I =>
  QE I (fun KK => Ext v42 0 fun v43 =>
  KK v43) fun v43_1 =>
  QE I (fun KK => Ext v42 1 fun v44 =>
  KK v44) fun v44_1 =>
  BinI .neq v44_1 (.int .i64 0) fun v46 =>
  Cnd v46 (KR (.tuple #[(.slice none 0 0), v44_1]))
  (AppC 5 1 1 #[(.int .u8 0)] v10 v43_1 fun v50 =>
  BinI .add v27 (.int .i64 1) fun v51 =>
  vK [v6, v7, v50, v51]))
  (KR (.tuple #[v10, (.int .i64 0)])))
theorem V.space_Space_Read_ok {a0 a1 a2 : Value} {K : Value → WP} {w : World} (h : V.space_Space_Read a0 a1 a2 K w) : Cl pg 15 #[a0, a1, a2] K w :=
  cl_of pg_mixed Try.func15 (args := [a0, a1, a2]) (by kernel_rfl) (by rw [show WF pg Try.f15 [a0, a1, a2] K = V.space_Space_Read a0 a1 a2 K from by kernel_rfl]; exact h)

def V.vmo_Set_Read (a0 a1 a2 a3 : Value) (KR : Value → WP) : WP :=
  FnV pg (.func (.func 32) #[] #[]) #[a0, a1] fun v20 =>
  EqP true v20 (.pointer none) fun v21 =>
  Grd v21 true (BinI .lss a3 (.int .i64 0) fun v24 =>
  Grd v24 false (BinI .gtr a3 (.int .i64 4096) fun v27 =>
  Cnd v27 (KR (.tuple #[(.slice none 0 0), (.int .i64 (-10))]))
  (FnV pg (.func (.func 33) #[] #[]) #[a0, a1, a2, a3] fun v35 =>
  Ext v35 0 fun v36 =>
  Ext v35 1 fun v37 =>
  Ext v35 2 fun v38 =>
  BinI .neq v38 (.int .i64 0) fun v40 =>
  Cnd v40 (KR (.tuple #[(.slice none 0 0), v38]))
  (MkSC 5 1 1 #[(.int .u8 0)] (.int .i64 0) a3 fun v43 =>
  LoopC [v43] fun vK vs => AllE <|
  UN vs fun v12 _ =>
  LenS v12 fun v45 =>
  BinI .lss v45 a3 fun v47 =>
  Cnd v47 (LenS v12 fun v50 =>
  BinI .add v37 v50 fun v51 =>
  BinI .rem v51 (.int .i64 64) fun v52 =>
  LenS v12 fun v55 =>
  BinI .sub a3 v55 fun v56 =>
  BinI .sub (.int .i64 64) v52 fun v58 =>
  Ex pg (Builtin.min_ #[3, 3] 3 #[v56, v58]) fun v59 =>
  MkSC 5 1 1 #[(.int .u8 0)] v59 v59 fun v61 =>
  NilC v36 fun v64 =>
  FA v64 2 fun v65 =>
  Ld1 v65 fun v66 =>
  LenS v12 fun v69 =>
  BinI .add v37 v69 fun v70 =>
  BinI .quo v70 (.int .i64 64) fun v71 =>
  Ex pg (Instr.lookup 58 v66 v71 true) fun v72 =>
  Ext v72 0 fun v73 =>
  Ext v72 1 fun v74 =>
  Cnd v74 (NilC a0 fun v78 =>
  FA v78 0 fun v79 =>
  Ld1 v79 fun v80 =>
  FnV pg (.func (.func 34) #[] #[]) #[v80, v73, v52, v59] fun v84 =>
  Ext v84 0 fun v85 =>
  Ext v84 1 fun _ =>
  AppC 5 1 1 #[(.int .u8 0)] v12 v85 fun v89 =>
  vK [v89])
  (AppC 5 1 1 #[(.int .u8 0)] v12 v61 fun v89_1 =>
  vK [v89_1]))
  (KR (.tuple #[v12, (.int .i64 0)])))))
  (KR (.tuple #[(.slice none 0 0), (.int .i64 (-10))])))
  (FnV pg (.func (.func 33) #[] #[]) #[a0, a1, a2, a3] fun v35_1 =>
  Ext v35_1 0 fun v36_1 =>
  Ext v35_1 1 fun v37_1 =>
  Ext v35_1 2 fun v38_1 =>
  BinI .neq v38_1 (.int .i64 0) fun v40_1 =>
  Cnd v40_1 (KR (.tuple #[(.slice none 0 0), v38_1]))
  (MkSC 5 1 1 #[(.int .u8 0)] (.int .i64 0) a3 fun v43_1 =>
  LoopC [v43_1] fun vK_1 vs => AllE <|
  UN vs fun v12_1 _ =>
  LenS v12_1 fun v45_1 =>
  BinI .lss v45_1 a3 fun v47_1 =>
  Cnd v47_1 (LenS v12_1 fun v50_1 =>
  BinI .add v37_1 v50_1 fun v51_1 =>
  BinI .rem v51_1 (.int .i64 64) fun v52_1 =>
  LenS v12_1 fun v55_1 =>
  BinI .sub a3 v55_1 fun v56_1 =>
  BinI .sub (.int .i64 64) v52_1 fun v58_1 =>
  Ex pg (Builtin.min_ #[3, 3] 3 #[v56_1, v58_1]) fun v59_1 =>
  MkSC 5 1 1 #[(.int .u8 0)] v59_1 v59_1 fun v61_1 =>
  NilC v36_1 fun v64_1 =>
  FA v64_1 2 fun v65_1 =>
  Ld1 v65_1 fun v66_1 =>
  LenS v12_1 fun v69_1 =>
  BinI .add v37_1 v69_1 fun v70_1 =>
  BinI .quo v70_1 (.int .i64 64) fun v71_1 =>
  Ex pg (Instr.lookup 58 v66_1 v71_1 true) fun v72_1 =>
  Ext v72_1 0 fun v73_1 =>
  Ext v72_1 1 fun v74_1 =>
  Cnd v74_1 (NilC a0 fun v78_1 =>
  FA v78_1 0 fun v79_1 =>
  Ld1 v79_1 fun v80_1 =>
  FnV pg (.func (.func 34) #[] #[]) #[v80_1, v73_1, v52_1, v59_1] fun v84_1 =>
  Ext v84_1 0 fun v85_1 =>
  Ext v84_1 1 fun _ =>
  AppC 5 1 1 #[(.int .u8 0)] v12_1 v85_1 fun v89_2 =>
  vK_1 [v89_2])
  (AppC 5 1 1 #[(.int .u8 0)] v12_1 v61_1 fun v89_3 =>
  vK_1 [v89_3]))
  (KR (.tuple #[v12_1, (.int .i64 0)]))))
theorem V.vmo_Set_Read_ok {a0 a1 a2 a3 : Value} {K : Value → WP} {w : World} (h : V.vmo_Set_Read a0 a1 a2 a3 K w) : Cl pg 16 #[a0, a1, a2, a3] K w :=
  cl_of pg_mixed Try.func16 (args := [a0, a1, a2, a3]) (by kernel_rfl) (by rw [show WF pg Try.f16 [a0, a1, a2, a3] K = V.vmo_Set_Read a0 a1 a2 a3 K from by kernel_rfl]; exact h)

def V.jacinthref07_Same (a0 a1 : Value) (KR : Value → WP) : WP :=
  Ex pg (convert 36 9 a0) fun v6 =>
  Ex pg (convert 36 9 a1) fun v8 =>
  BinX pg .eql 9 (.tmp 6) (.tmp 8) v6 v8 fun v9 =>
  KR v9
theorem V.jacinthref07_Same_ok {a0 a1 : Value} {K : Value → WP} {w : World} (h : V.jacinthref07_Same a0 a1 K w) : Cl pg 17 #[a0, a1] K w :=
  cl_of pg_mixed Try.func17 (args := [a0, a1]) (by kernel_rfl) (by rw [show WF pg Try.f17 [a0, a1] K = V.jacinthref07_Same a0 a1 K from by kernel_rfl]; exact h)

def V.jacinthlaw10_SpaceGuards_c1 (a0 a1 a2 a3 a4 : Value) (KR : Value → WP) : WP :=
  Ld1 a1 fun v7 =>
  BinI .eql v7 (.int .i64 0) fun v8 =>
  Grd v8 false (Ld1 a2 fun v10 =>
  BinI .geq v10 (.int .i64 64) fun v11 =>
  Grd v11 false (Ld1 a3 fun v14 =>
  BinI .and v14 a0 fun v16 =>
  BinI .neq v16 (.int .i64 0) fun v17 =>
  Grd v17 true (Ld1 a1 fun v20 =>
  BinI .eql v20 (.int .i64 0) fun v21 =>
  Grd v21 false (Ld1 a2 fun v23 =>
  Ld1 a1 fun v24 =>
  BinI .add v23 v24 fun v25 =>
  BinI .leq v25 (.int .i64 64) fun v26 =>
  Grd v26 false (Ld1 a4 fun v29 =>
  BinI .and v29 a0 fun v31 =>
  BinI .neq v31 (.int .i64 0) fun v32 =>
  KR v32)
  (KR (.bool true)))
  (KR (.bool true)))
  (KR (.bool false)))
  (Ld1 a1 fun v20_1 =>
  BinI .eql v20_1 (.int .i64 0) fun v21_1 =>
  Grd v21_1 false (Ld1 a2 fun v23_1 =>
  Ld1 a1 fun v24_1 =>
  BinI .add v23_1 v24_1 fun v25_1 =>
  BinI .leq v25_1 (.int .i64 64) fun v26_1 =>
  Grd v26_1 false (Ld1 a4 fun v29_1 =>
  BinI .and v29_1 a0 fun v31_1 =>
  BinI .neq v31_1 (.int .i64 0) fun v32_1 =>
  KR v32_1)
  (KR (.bool true)))
  (KR (.bool true))))
  (Ld1 a1 fun v20_2 =>
  BinI .eql v20_2 (.int .i64 0) fun v21_2 =>
  Grd v21_2 false (Ld1 a2 fun v23_2 =>
  Ld1 a1 fun v24_2 =>
  BinI .add v23_2 v24_2 fun v25_2 =>
  BinI .leq v25_2 (.int .i64 64) fun v26_2 =>
  Grd v26_2 false (Ld1 a4 fun v29_2 =>
  BinI .and v29_2 a0 fun v31_2 =>
  BinI .neq v31_2 (.int .i64 0) fun v32_2 =>
  KR v32_2)
  (KR (.bool true)))
  (KR (.bool true)))
theorem V.jacinthlaw10_SpaceGuards_c1_ok {a0 a1 a2 a3 a4 : Value} {K : Value → WP} {w : World} (h : V.jacinthlaw10_SpaceGuards_c1 a0 a1 a2 a3 a4 K w) : Cl pg 18 #[a0, a1, a2, a3, a4] K w :=
  cl_of pg_mixed Try.func18 (args := [a0, a1, a2, a3, a4]) (by kernel_rfl) (by rw [show WF pg Try.f18 [a0, a1, a2, a3, a4] K = V.jacinthlaw10_SpaceGuards_c1 a0 a1 a2 a3 a4 K from by kernel_rfl]; exact h)

def V.space_Space_Protect (a0 a1 a2 a3 : Value) (KR : Value → WP) : WP :=
  NilC a0 fun v10 =>
  FA v10 1 fun v11 =>
  Ld1 v11 fun v12 =>
  FnV pg (.func (.func 35) #[] #[]) #[v12, a1, a2, a3] fun v16 =>
  KR v16
theorem V.space_Space_Protect_ok {a0 a1 a2 a3 : Value} {K : Value → WP} {w : World} (h : V.space_Space_Protect a0 a1 a2 a3 K w) : Cl pg 19 #[a0, a1, a2, a3] K w :=
  cl_of pg_mixed Try.func19 (args := [a0, a1, a2, a3]) (by kernel_rfl) (by rw [show WF pg Try.f19 [a0, a1, a2, a3] K = V.space_Space_Protect a0 a1 a2 a3 K from by kernel_rfl]; exact h)

def V.vmo_Set_Drop (a0 a1 : Value) (KR : Value → WP) : WP :=
  New 3 (Value.cells a1) fun v3 =>
  Ld1 v3 fun v11 =>
  FnV pg (.func (.func 32) #[] #[]) #[a0, v11] fun v12 =>
  EqP false v12 (.pointer none) fun v14 =>
  Cnd v14 (KR (.tuple #[(.slice none 0 0), (.int .i64 (-25))]))
  (NilC v12 fun v16 =>
  FA v16 7 fun v17 =>
  St 1 v17 (.bool true) fun _ =>
  LoopC [(.slice none 0 0), v12] fun vK vs => AllE <|
  UN vs fun v4 vs =>
  UN vs fun v6 _ =>
  EqP true v6 (.pointer none) fun v19 =>
  Grd v19 true (NilC v6 fun v22 =>
  FA v22 7 fun v23 =>
  Ld1 v23 fun v24 =>
  Grd v24 true (NilC v6 fun v28 =>
  FA v28 3 fun v29 =>
  Ld1 v29 fun v30 =>
  LenS v30 fun v31 =>
  BinI .eql v31 (.int .i64 0) fun v32 =>
  Cnd v32 (NilC v6 fun v35 =>
  FA v35 2 fun v36 =>
  Ld1 v36 fun v37 =>
  FnV pg (.func (.func 37) #[] #[]) #[v37] fun v38 =>
  FnV pg (.func (.func 36) #[] #[]) #[v38] fun v39 =>
  LenS v39 fun v40 =>
  LoopC [(.int .i64 0)] fun vK_1 vs => AllE <|
  UN vs fun v41 _ =>
  BinI .lss v41 v40 fun v42 =>
  Cnd v42 (IA 1 v39 v41 fun v43 =>
  Ld1 v43 fun v44 =>
  FnV pg (.func (.func 38) #[] #[]) #[a0, v6, v44] fun _ =>
  BinI .add v41 (.int .i64 1) fun v49 =>
  vK_1 [v49])
  (Drw <| QtC fun I =>
  QE I (fun KK => NilC a0 fun v51 =>
  KK v51) fun v51_1 =>
  QE I (fun KK => FA v51_1 1 fun v52 =>
  KK v52) fun v52_1 =>
  QE I (fun KK => Ld1 v52_1 fun v53 =>
  KK v53) fun v53_1 =>
  QE I (fun KK => Ld1 v3 fun v54 =>
  KK v54) fun v54_1 =>
  Ex pg (Builtin.delete_ #[53, 3] 0 #[v53_1, v54_1]) fun _ =>
  Ld1 v3 fun v56 =>
  BSlC 3 1 #[(.int .i64 0)] 1 #[(0, v56)] fun v57 =>
  AppC 3 1 8 #[(.int .i64 0)] v4 v57 fun v58 =>
  Drw <| QtC fun I =>
  QE I (fun KK => NilC a0 fun v60 =>
  KK v60) fun v60_1 =>
  QE I (fun KK => FA v60_1 1 fun v61 =>
  KK v61) fun v61_1 =>
  QE I (fun KK => Ld1 v61_1 fun v62 =>
  KK v62) fun v62_1 =>
  QE I (fun KK => NilC v6 fun v64 =>
  KK v64) fun v64_1 =>
  QE I (fun KK => FA v64_1 1 fun v65 =>
  KK v65) fun v65_1 =>
  QE I (fun KK => Ld1 v65_1 fun v66 =>
  KK v66) fun v66_1 =>
  Ex pg (Instr.lookup 53 v62_1 v66_1 false) fun v67 =>
  EqP true v67 (.pointer none) fun v69 =>
  Cnd v69 (NilC v67 fun v72 =>
  FA v72 3 fun v73 =>
  Ld1 v73 fun v74 =>
  FnV pg (.func (.func 39) #[] #[]) #[v74, (.func (.func 40) #[] #[v3])] fun v76 =>
  NilC v67 fun v77 =>
  FA v77 3 fun v78 =>
  St 1 v78 v76 fun _ =>
  NilC v6 fun v80 =>
  FA v80 1 fun v81 =>
  Ld1 v81 fun v82 =>
  St 1 v3 v82 fun _ =>
  vK [v58, v67])
  (NilC v6 fun v80_1 =>
  FA v80_1 1 fun v81_1 =>
  Ld1 v81_1 fun v82_1 =>
  St 1 v3 v82_1 fun _ =>
  vK [v58, v67])))
  (KR (.tuple #[v4, (.int .i64 0)])))
  (KR (.tuple #[v4, (.int .i64 0)])))
  (KR (.tuple #[v4, (.int .i64 0)])))
theorem V.vmo_Set_Drop_ok {a0 a1 : Value} {K : Value → WP} {w : World} (h : V.vmo_Set_Drop a0 a1 K w) : Cl pg 20 #[a0, a1] K w :=
  cl_of pg_mixed Try.func20 (args := [a0, a1]) (by kernel_rfl) (by rw [show WF pg Try.f20 [a0, a1] K = V.vmo_Set_Drop a0 a1 K from by kernel_rfl]; exact h)

def V.pages_New (a0 : Value) (KR : Value → WP) : WP :=
  BinI .lss a0 (.int .i64 0) fun v4 =>
  Grd v4 false (BinI .gtr a0 (.int .i64 65536) fun v7 =>
  Cnd v7 (KR (.pointer none))
  (Ex pg (bldS #[(.slice none 0 0), (.int .i64 0), (.int .i64 0)] [(0, 1), (1, 1), (2, 1)] #[(1, a0)]) fun v10 =>
  New 88 (Value.cells v10) fun v11 =>
  KR v11))
  (KR (.pointer none))
theorem V.pages_New_ok {a0 : Value} {K : Value → WP} {w : World} (h : V.pages_New a0 K w) : Cl pg 21 #[a0] K w :=
  cl_of pg_mixed Try.func21 (args := [a0]) (by kernel_rfl) (by rw [show WF pg Try.f21 [a0] K = V.pages_New a0 K from by kernel_rfl]; exact h)

def V.vmo_size (a0 : Value) (KR : Value → WP) : WP :=
  BinI .lss a0 (.int .i64 0) fun v8 =>
  Cnd v8 (KR (.tuple #[(.int .i64 0), (.int .i64 (-10))]))
  (BinI .gtr a0 (.int .i64 4294967296) fun v11 =>
  Cnd v11 (KR (.tuple #[(.int .i64 0), (.int .i64 (-14))]))
  (FnV pg (.func (.func 41) #[] #[]) #[a0, (.int .i64 64)] fun v14 =>
  Ext v14 0 fun v15 =>
  Ext v14 1 fun _ =>
  KR (.tuple #[v15, (.int .i64 0)])))
theorem V.vmo_size_ok {a0 : Value} {K : Value → WP} {w : World} (h : V.vmo_size a0 K w) : Cl pg 22 #[a0] K w :=
  cl_of pg_mixed Try.func22 (args := [a0]) (by kernel_rfl) (by rw [show WF pg Try.f22 [a0] K = V.vmo_size a0 K from by kernel_rfl]; exact h)

def V.vmo_Set_add (a0 a1 : Value) (KR : Value → WP) : WP :=
  Drw <| QtC fun I =>
  QE I (fun KK => NilC a0 fun v8 =>
  KK v8) fun v8_1 =>
  QE I (fun KK => FA v8_1 1 fun v9 =>
  KK v9) fun v9_1 =>
  QE I (fun KK => Ld1 v9_1 fun v10 =>
  KK v10) fun v10_1 =>
  QE I (fun KK => Ex pg (Builtin.len_ #[53] 3 #[v10_1]) fun v11 =>
  KK v11) fun v11_1 =>
  QE I (fun KK => NilC a0 fun v13 =>
  KK v13) fun v13_1 =>
  QE I (fun KK => FA v13_1 2 fun v14 =>
  KK v14) fun v14_1 =>
  QE I (fun KK => Ld1 v14_1 fun v15 =>
  KK v15) fun v15_1 =>
  BinI .geq v11_1 v15_1 fun v16 =>
  Cnd v16 (KR (.tuple #[(.int .i64 0), (.int .i64 (-4))]))
  (NilC a0 fun v18 =>
  FA v18 3 fun v19 =>
  Ld1 v19 fun v20 =>
  BinI .add v20 (.int .i64 1) fun v21 =>
  NilC a0 fun v22 =>
  FA v22 3 fun v23 =>
  St 1 v23 v21 fun _ =>
  Drw <| QtC fun I =>
  QE I (fun KK => NilC a0 fun v25 =>
  KK v25) fun v25_1 =>
  QE I (fun KK => FA v25_1 1 fun v26 =>
  KK v26) fun v26_1 =>
  QE I (fun KK => Ld1 v26_1 fun v27 =>
  KK v27) fun v27_1 =>
  QE I (fun KK => NilC a0 fun v29 =>
  KK v29) fun v29_1 =>
  QE I (fun KK => FA v29_1 3 fun v30 =>
  KK v30) fun v30_1 =>
  QE I (fun KK => Ld1 v30_1 fun v31 =>
  KK v31) fun v31_1 =>
  Ex pg (do Instr.mapUpdate 53 v27_1 v31_1 a1; pure undef) fun _ =>
  Drw <| QtC fun I =>
  QE I (fun KK => NilC a0 fun v34 =>
  KK v34) fun v34_1 =>
  QE I (fun KK => FA v34_1 1 fun v35 =>
  KK v35) fun v35_1 =>
  QE I (fun KK => Ld1 v35_1 fun v36 =>
  KK v36) fun v36_1 =>
  QE I (fun KK => NilC a1 fun v38 =>
  KK v38) fun v38_1 =>
  QE I (fun KK => FA v38_1 1 fun v39 =>
  KK v39) fun v39_1 =>
  QE I (fun KK => Ld1 v39_1 fun v40 =>
  KK v40) fun v40_1 =>
  Ex pg (Instr.lookup 53 v36_1 v40_1 false) fun v41 =>
  EqP true v41 (.pointer none) fun v43 =>
  Cnd v43 (Drw <| QtC fun I =>
  QE I (fun KK => NilC v41 fun v46 =>
  KK v46) fun v46_1 =>
  QE I (fun KK => FA v46_1 3 fun v47 =>
  KK v47) fun v47_1 =>
  QE I (fun KK => Ld1 v47_1 fun v48 =>
  KK v48) fun v48_1 =>
  QE I (fun KK => NilC a0 fun v50 =>
  KK v50) fun v50_1 =>
  QE I (fun KK => FA v50_1 3 fun v51 =>
  KK v51) fun v51_1 =>
  QE I (fun KK => Ld1 v51_1 fun v52 =>
  KK v52) fun v52_1 =>
  BSlC 3 1 #[(.int .i64 0)] 1 #[(0, v52_1)] fun v53 =>
  CH I <|
  AppC 3 1 8 #[(.int .i64 0)] v48_1 v53 fun v54 =>
  NilC v41 fun v55 =>
  FA v55 3 fun v56 =>
  St 1 v56 v54 fun _ =>
  NilC a0 fun v58 =>
  FA v58 3 fun v59 =>
  Ld1 v59 fun v60 =>
  KR (.tuple #[v60, (.int .i64 0)]))
  (NilC a0 fun v58_1 =>
  FA v58_1 3 fun v59_1 =>
  Ld1 v59_1 fun v60_1 =>
  KR (.tuple #[v60_1, (.int .i64 0)])))
theorem V.vmo_Set_add_ok {a0 a1 : Value} {K : Value → WP} {w : World} (h : V.vmo_Set_add a0 a1 K w) : Cl pg 23 #[a0, a1] K w :=
  cl_of pg_mixed Try.func23 (args := [a0, a1]) (by kernel_rfl) (by rw [show WF pg Try.f23 [a0, a1] K = V.vmo_Set_add a0 a1 K from by kernel_rfl]; exact h)

def V.region_New (a0 a1 : Value) (KR : Value → WP) : WP :=
  BinI .lss a0 (.int .i64 0) fun v6 =>
  Grd v6 false (BinI .gtr a0 (.int .i64 4294967296) fun v9 =>
  Grd v9 false (BSlC 3 1 #[(.int .i64 0)] 1 #[(0, a0)] fun v13 =>
  FnV pg (.func (.func 42) #[] #[]) #[v13] fun v14 =>
  Un .not v14 fun v15 =>
  Grd v15 false (BinI .lss a1 (.int .i64 0) fun v19 =>
  Grd v19 false (BinI .gtr a1 (.int .i64 65536) fun v23 =>
  Cnd v23 (KR (.pointer none))
  (Ex pg (bldS #[(.int .i64 0), (.int .i64 0), (.slice none 0 0)] [(0, 1), (1, 1), (2, 1)] #[(0, a0), (1, a1)]) fun v27 =>
  New 92 (Value.cells v27) fun v28 =>
  KR v28))
  (KR (.pointer none)))
  (KR (.pointer none)))
  (KR (.pointer none)))
  (KR (.pointer none))
theorem V.region_New_ok {a0 a1 : Value} {K : Value → WP} {w : World} (h : V.region_New a0 a1 K w) : Cl pg 24 #[a0, a1] K w :=
  cl_of pg_mixed Try.func24 (args := [a0, a1]) (by kernel_rfl) (by rw [show WF pg Try.f24 [a0, a1] K = V.region_New a0 a1 K from by kernel_rfl]; exact h)

def V.vmo_Set_Info (a0 a1 : Value) (KR : Value → WP) : WP :=
  New 66 #[(.int .i64 0), (.int .i64 0), (.int .i64 0), (.int .i64 0), (.bool false), (.bool false)] fun v4 =>
  NilC a0 fun v8 =>
  FA v8 1 fun v9 =>
  Ld1 v9 fun v10 =>
  Ex pg (Instr.lookup 53 v10 a1 false) fun v12 =>
  EqP false v12 (.pointer none) fun v14 =>
  Cnd v14 (Ex pg (bldS #[(.int .i64 0), (.int .i64 0), (.int .i64 0), (.int .i64 0), (.bool false), (.bool false)] [(0, 1), (1, 1), (2, 1), (3, 1), (4, 1), (5, 1)] #[]) fun v15 =>
  St 6 v4 v15 fun _ =>
  LdN 6 v4 fun vr =>
  KR (.tuple #[vr, (.bool false)]))
  (Drw <| QtC fun I =>
  QE I (fun KK => NilC v12 fun v17 =>
  KK v17) fun v17_1 =>
  QE I (fun KK => FA v17_1 0 fun v18 =>
  KK v18) fun v18_1 =>
  QE I (fun KK => Ld1 v18_1 fun v19 =>
  KK v19) fun v19_1 =>
  QE I (fun KK => NilC v12 fun v21 =>
  KK v21) fun v21_1 =>
  QE I (fun KK => FA v21_1 1 fun v22 =>
  KK v22) fun v22_1 =>
  QE I (fun KK => Ld1 v22_1 fun v23 =>
  KK v23) fun v23_1 =>
  QE I (fun KK => NilC v12 fun v25 =>
  KK v25) fun v25_1 =>
  QE I (fun KK => FA v25_1 3 fun v26 =>
  KK v26) fun v26_1 =>
  QE I (fun KK => Ld1 v26_1 fun v27 =>
  KK v27) fun v27_1 =>
  QE I (fun KK => LenS v27_1 fun v28 =>
  KK v28) fun v28_1 =>
  QE I (fun KK => NilC v12 fun v30 =>
  KK v30) fun v30_1 =>
  QE I (fun KK => FA v30_1 2 fun v31 =>
  KK v31) fun v31_1 =>
  QE I (fun KK => Ld1 v31_1 fun v32 =>
  KK v32) fun v32_1 =>
  QE I (fun KK => Ex pg (Builtin.len_ #[58] 3 #[v32_1]) fun v33 =>
  KK v33) fun v33_1 =>
  QE I (fun KK => NilC v12 fun v35 =>
  KK v35) fun v35_1 =>
  QE I (fun KK => FA v35_1 4 fun v36 =>
  KK v36) fun v36_1 =>
  QE I (fun KK => Ld1 v36_1 fun v37 =>
  KK v37) fun v37_1 =>
  QE I (fun KK => NilC v12 fun v39 =>
  KK v39) fun v39_1 =>
  QE I (fun KK => FA v39_1 7 fun v40 =>
  KK v40) fun v40_1 =>
  QE I (fun KK => Ld1 v40_1 fun v41 =>
  KK v41) fun v41_1 =>
  Ex pg (bldS #[(.int .i64 0), (.int .i64 0), (.int .i64 0), (.int .i64 0), (.bool false), (.bool false)] [(0, 1), (1, 1), (2, 1), (3, 1), (4, 1), (5, 1)] #[(0, v19_1), (1, v23_1), (2, v28_1), (3, v33_1), (4, v37_1), (5, v41_1)]) fun v42 =>
  St 6 v4 v42 fun _ =>
  LdN 6 v4 fun vr_1 =>
  KR (.tuple #[vr_1, (.bool true)]))
theorem V.vmo_Set_Info_ok {a0 a1 : Value} {K : Value → WP} {w : World} (h : V.vmo_Set_Info a0 a1 K w) : Cl pg 25 #[a0, a1] K w :=
  cl_of pg_mixed Try.func25 (args := [a0, a1]) (by kernel_rfl) (by rw [show WF pg Try.f25 [a0, a1] K = V.vmo_Set_Info a0 a1 K from by kernel_rfl]; exact h)

def V.num_Within (a0 a1 a2 : Value) (KR : Value → WP) : WP :=
  BinI .geq a0 (.int .i64 0) fun v8 =>
  Grd v8 true (BinI .geq a1 (.int .i64 0) fun v11 =>
  Grd v11 true (BinI .leq a0 a2 fun v16 =>
  Grd v16 true (BinI .sub a2 a0 fun v22 =>
  BinI .leq a1 v22 fun v23 =>
  KR v23)
  (KR (.bool false)))
  (KR (.bool false)))
  (KR (.bool false))
theorem V.num_Within_ok {a0 a1 a2 : Value} {K : Value → WP} {w : World} (h : V.num_Within a0 a1 a2 K w) : Cl pg 26 #[a0, a1, a2] K w :=
  cl_of pg_mixed Try.func26 (args := [a0, a1, a2]) (by kernel_rfl) (by rw [show WF pg Try.f26 [a0, a1, a2] K = V.num_Within a0 a1 a2 K from by kernel_rfl]; exact h)

def V.region_Region_Place (a0 a1 : Value) (KR : Value → WP) : WP :=
  BinI .leq a1 (.int .i64 0) fun v9 =>
  Grd v9 false (BSlC 3 1 #[(.int .i64 0)] 1 #[(0, a1)] fun v12 =>
  FnV pg (.func (.func 42) #[] #[]) #[v12] fun v13 =>
  Un .not v13 fun v14 =>
  Cnd v14 (KR (.tuple #[(.int .i64 0), (.int .i64 (-10))]))
  (NilC a0 fun v17 =>
  FA v17 2 fun v18 =>
  Ld1 v18 fun v19 =>
  LenS v19 fun v20 =>
  LoopC [(.int .i64 0), (.int .i64 0), (.int .i64 0)] fun vK vs => AllE <|
  UN vs fun v5 vs =>
  UN vs fun v4 vs =>
  UN vs fun v21 _ =>
  BinI .lss v21 v20 fun v22 =>
  Cnd v22 (IA 5 v19 v21 fun v23 =>
  LdN 5 v23 fun v24 =>
  New 72 #[(.int .i64 0), (.int .i64 0), (.int .i64 0), (.int .i64 0), (.int .i64 0)] fun v7 =>
  St 5 v7 v24 fun _ =>
  FA v7 0 fun v25 =>
  Ld1 v25 fun v26 =>
  BinI .sub v26 v4 fun v28 =>
  BinI .geq v28 a1 fun v30 =>
  Cnd v30 (KR (.tuple #[v4, (.int .i64 0)]))
  (LdN 5 v7 fun v32 =>
  FnV pg (.func (.func 43) #[] #[]) #[v32] fun v33 =>
  BinI .add v21 (.int .i64 1) fun v34 =>
  vK [v5, v33, v34]))
  (NilC a0 fun v36 =>
  FA v36 0 fun v37 =>
  Ld1 v37 fun v38 =>
  BinI .sub v38 v4 fun v40 =>
  BinI .lss v40 a1 fun v42 =>
  Cnd v42 (KR (.tuple #[(.int .i64 0), (.int .i64 (-4))]))
  (KR (.tuple #[v4, (.int .i64 0)])))))
  (KR (.tuple #[(.int .i64 0), (.int .i64 (-10))]))
theorem V.region_Region_Place_ok {a0 a1 : Value} {K : Value → WP} {w : World} (h : V.region_Region_Place a0 a1 K w) : Cl pg 27 #[a0, a1] K w :=
  cl_of pg_mixed Try.func27 (args := [a0, a1]) (by kernel_rfl) (by rw [show WF pg Try.f27 [a0, a1] K = V.region_Region_Place a0 a1 K from by kernel_rfl]; exact h)

def V.region_Region_Put (a0 a1 : Value) (KR : Value → WP) : WP :=
  New 72 (Value.cells a1) fun v3 =>
  New 26 #[(.int .i64 0)] fun v4 =>
  FA v3 0 fun v8 =>
  Ld1 v8 fun v9 =>
  FA v3 1 fun v10 =>
  Ld1 v10 fun v11 =>
  FA v3 3 fun v12 =>
  Ld1 v12 fun v13 =>
  BSlC 3 1 #[(.int .i64 0)] 3 #[(0, v9), (1, v11), (2, v13)] fun v14 =>
  FnV pg (.func (.func 42) #[] #[]) #[v14] fun v15 =>
  Un .not v15 fun v16 =>
  Grd v16 false (FA v3 1 fun v18 =>
  Ld1 v18 fun v19 =>
  BinI .eql v19 (.int .i64 0) fun v20 =>
  Grd v20 false (FA v3 3 fun v23 =>
  Ld1 v23 fun v24 =>
  BinI .gtr v24 (.int .i64 4294967296) fun v25 =>
  Grd v25 false (FA v3 4 fun v28 =>
  Ld1 v28 fun v29 =>
  FnV pg (.func (.func 44) #[] #[]) #[v29] fun v30 =>
  Cnd v30 (St 1 v4 (.int .i64 (-10)) fun _ =>
  Ld1 v4 fun vr =>
  KR vr)
  (Drw <| QtC fun I =>
  QE I (fun KK => FA v3 0 fun v33 =>
  KK v33) fun v33_1 =>
  QE I (fun KK => Ld1 v33_1 fun v34 =>
  KK v34) fun v34_1 =>
  QE I (fun KK => FA v3 1 fun v35 =>
  KK v35) fun v35_1 =>
  QE I (fun KK => Ld1 v35_1 fun v36 =>
  KK v36) fun v36_1 =>
  QE I (fun KK => NilC a0 fun v38 =>
  KK v38) fun v38_1 =>
  QE I (fun KK => FA v38_1 0 fun v39 =>
  KK v39) fun v39_1 =>
  QE I (fun KK => Ld1 v39_1 fun v40 =>
  KK v40) fun v40_1 =>
  FnV pg (.func (.func 26) #[] #[]) #[v34_1, v36_1, v40_1] fun v41 =>
  Un .not v41 fun v42 =>
  Cnd v42 (St 1 v4 (.int .i64 (-14)) fun _ =>
  Ld1 v4 fun vr_1 =>
  KR vr_1)
  (FA v3 0 fun v44 =>
  Ld1 v44 fun v45 =>
  FA v3 1 fun v46 =>
  Ld1 v46 fun v47 =>
  FnV pg (.func (.func 45) #[] #[]) #[a0, v45, v47] fun v48 =>
  RF0 pg v48 (fun vl vs vK =>
  UN vs fun _ vs =>
  UN vs fun _ vs =>
  UNe vs <|
  RBeg vl <|
  St 1 v4 (.int .i64 (-26)) fun _ =>
  REnd vl (some .ret) vK)
  fun vm vj =>
  JumpC vj (Drw <| QtC fun I =>
  QE I (fun KK => NilC a0 fun v52 =>
  KK v52) fun v52_1 =>
  QE I (fun KK => FA v52_1 2 fun v53 =>
  KK v53) fun v53_1 =>
  QE I (fun KK => Ld1 v53_1 fun v54 =>
  KK v54) fun v54_1 =>
  QE I (fun KK => LenS v54_1 fun v55 =>
  KK v55) fun v55_1 =>
  QE I (fun KK => NilC a0 fun v57 =>
  KK v57) fun v57_1 =>
  QE I (fun KK => FA v57_1 1 fun v58 =>
  KK v58) fun v58_1 =>
  QE I (fun KK => Ld1 v58_1 fun v59 =>
  KK v59) fun v59_1 =>
  BinI .geq v55_1 v59_1 fun v60 =>
  Cnd v60 (St 1 v4 (.int .i64 (-4)) fun _ =>
  LvC (.tuple #[vm]) <| Ld1 v4 fun vr_2 =>
  KR vr_2)
  (Drw <| QtC fun I =>
  QE I (fun KK => NilC a0 fun v63 =>
  KK v63) fun v63_1 =>
  QE I (fun KK => FA v63_1 2 fun v64 =>
  KK v64) fun v64_1 =>
  QE I (fun KK => Ld1 v64_1 fun v65 =>
  KK v65) fun v65_1 =>
  QE I (fun KK => FA v3 0 fun v66 =>
  KK v66) fun v66_1 =>
  QE I (fun KK => Ld1 v66_1 fun v67 =>
  KK v67) fun v67_1 =>
  FnV pg (.func (.func 46) #[] #[]) #[v65_1, v67_1, (.func (.func 47) #[] #[])] fun v68 =>
  QtC fun I =>
  QE I (fun KK => Ext v68 0 fun v69 =>
  KK v69) fun v69_1 =>
  QE I (fun KK => Ext v68 1 fun v70 =>
  KK v70) fun _ =>
  Drw <| QtC fun I =>
  QE I (fun KK => NilC a0 fun v73 =>
  KK v73) fun v73_1 =>
  QE I (fun KK => FA v73_1 2 fun v74 =>
  KK v74) fun v74_1 =>
  QE I (fun KK => Ld1 v74_1 fun v75 =>
  KK v75) fun v75_1 =>
  QE I (fun KK => LdN 5 v3 fun v77 =>
  KK v77) fun v77_1 =>
  BSlC 72 5 #[(.int .i64 0), (.int .i64 0), (.int .i64 0), (.int .i64 0), (.int .i64 0)] 1 #[(0, v77_1)] fun v78 =>
  CH I <|
  FnV pg (.func (.func 49) #[] #[]) #[v75_1, v69_1, v78] fun v79 =>
  NilC a0 fun v80 =>
  FA v80 2 fun v81 =>
  St 1 v81 v79 fun _ =>
  St 1 v4 (.int .i64 0) fun _ =>
  LvC (.tuple #[vm]) <| Ld1 v4 fun vr_3 =>
  KR vr_3))
  (LvC (.tuple #[vm]) <| Ld1 v4 fun vr_4 =>
  KR vr_4)
  (fun _ => fun _ => False))))
  (St 1 v4 (.int .i64 (-10)) fun _ =>
  Ld1 v4 fun vr_5 =>
  KR vr_5))
  (St 1 v4 (.int .i64 (-10)) fun _ =>
  Ld1 v4 fun vr_6 =>
  KR vr_6))
  (St 1 v4 (.int .i64 (-10)) fun _ =>
  Ld1 v4 fun vr_7 =>
  KR vr_7)
theorem V.region_Region_Put_ok {a0 a1 : Value} {K : Value → WP} {w : World} (h : V.region_Region_Put a0 a1 K w) : Cl pg 28 #[a0, a1] K w :=
  cl_of pg_mixed Try.func28 (args := [a0, a1]) (by kernel_rfl) (by rw [show WF pg Try.f28 [a0, a1] K = V.region_Region_Put a0 a1 K from by kernel_rfl]; exact h)

def V.region_Region_List (a0 : Value) (KR : Value → WP) : WP :=
  NilC a0 fun v4 =>
  FA v4 2 fun v5 =>
  Ld1 v5 fun v6 =>
  FnV pg (.func (.func 50) #[] #[]) #[v6] fun v7 =>
  KR v7
theorem V.region_Region_List_ok {a0 : Value} {K : Value → WP} {w : World} (h : V.region_Region_List a0 K w) : Cl pg 29 #[a0] K w :=
  cl_of pg_mixed Try.func29 (args := [a0]) (by kernel_rfl) (by rw [show WF pg Try.f29 [a0] K = V.region_Region_List a0 K from by kernel_rfl]; exact h)

def V.space_Space_parts (a0 a1 a2 a3 : Value) (KR : Value → WP) : WP :=
  BinI .lss a2 (.int .i64 0) fun v15 =>
  Grd v15 false (BinI .gtr a2 (.int .i64 4096) fun v18 =>
  Cnd v18 (KR (.tuple #[(.slice none 0 0), (.int .i64 (-10))]))
  (NilC a0 fun v22 =>
  FA v22 1 fun v23 =>
  Ld1 v23 fun v24 =>
  FnV pg (.func (.func 51) #[] #[]) #[v24, a1, a2] fun v27 =>
  Ext v27 0 fun v28 =>
  Ext v27 1 fun v29 =>
  BinI .neq v29 (.int .i64 0) fun v31 =>
  Cnd v31 (KR (.tuple #[(.slice none 0 0), v29]))
  (LenS v28 fun v34 =>
  LoopC [(.slice none 0 0), (.int .i64 0), (.int .i64 0)] fun vK vs => AllE <|
  UN vs fun v8 vs =>
  UN vs fun v9 vs =>
  UN vs fun v35 _ =>
  BinI .lss v35 v34 fun v36 =>
  Cnd v36 (IA 5 v28 v35 fun v37 =>
  LdN 5 v37 fun v38 =>
  New 72 #[(.int .i64 0), (.int .i64 0), (.int .i64 0), (.int .i64 0), (.int .i64 0)] fun v13 =>
  St 5 v13 v38 fun _ =>
  FA v13 4 fun v39 =>
  Ld1 v39 fun v40 =>
  BinI .and v40 a3 fun v42 =>
  BinI .eql v42 (.int .i64 0) fun v43 =>
  Cnd v43 (KR (.tuple #[(.slice none 0 0), (.int .i64 (-30))]))
  (BinI .add v35 (.int .i64 1) fun v44 =>
  vK [v8, v9, v44]))
  (KR (.tuple #[v28, (.int .i64 0)])))))
  (KR (.tuple #[(.slice none 0 0), (.int .i64 (-10))]))
theorem V.space_Space_parts_ok {a0 a1 a2 a3 : Value} {K : Value → WP} {w : World} (h : V.space_Space_parts a0 a1 a2 a3 K w) : Cl pg 30 #[a0, a1, a2, a3] K w :=
  cl_of pg_mixed Try.func30 (args := [a0, a1, a2, a3]) (by kernel_rfl) (by rw [show WF pg Try.f30 [a0, a1, a2, a3] K = V.space_Space_parts a0 a1 a2 a3 K from by kernel_rfl]; exact h)

def V.vmo_Set_Write (a0 a1 a2 a3 : Value) (KR : Value → WP) : WP :=
  FnV pg (.func (.func 32) #[] #[]) #[a0, a1] fun v13 =>
  EqP true v13 (.pointer none) fun v14 =>
  Grd v14 true (LenS a3 fun v17 =>
  BinI .gtr v17 (.int .i64 4096) fun v18 =>
  Cnd v18 (KR (.int .i64 (-10)))
  (LenS a3 fun v25 =>
  FnV pg (.func (.func 33) #[] #[]) #[a0, a1, a2, v25] fun v26 =>
  Ext v26 0 fun v27 =>
  Ext v26 1 fun v28 =>
  Ext v26 2 fun v29 =>
  BinI .neq v29 (.int .i64 0) fun v31 =>
  Cnd v31 (KR v29)
  (LenS a3 fun v37 =>
  FnV pg (.func (.func 53) #[] #[]) #[v28, v37] fun v38 =>
  FnV pg (.func (.func 52) #[] #[]) #[a0, v27, v38] fun v39 =>
  BinI .eql v39 (.int .i64 0) fun v41 =>
  Cnd v41 (FnV pg (.func (.func 54) #[] #[]) #[a0, v27, v28, a3] fun _ =>
  KR v39)
  (KR v39))))
  (LenS a3 fun v25_1 =>
  FnV pg (.func (.func 33) #[] #[]) #[a0, a1, a2, v25_1] fun v26_1 =>
  Ext v26_1 0 fun v27_1 =>
  Ext v26_1 1 fun v28_1 =>
  Ext v26_1 2 fun v29_1 =>
  BinI .neq v29_1 (.int .i64 0) fun v31_1 =>
  Cnd v31_1 (KR v29_1)
  (LenS a3 fun v37_1 =>
  FnV pg (.func (.func 53) #[] #[]) #[v28_1, v37_1] fun v38_1 =>
  FnV pg (.func (.func 52) #[] #[]) #[a0, v27_1, v38_1] fun v39_1 =>
  BinI .eql v39_1 (.int .i64 0) fun v41_1 =>
  Cnd v41_1 (FnV pg (.func (.func 54) #[] #[]) #[a0, v27_1, v28_1, a3] fun _ =>
  KR v39_1)
  (KR v39_1)))
theorem V.vmo_Set_Write_ok {a0 a1 a2 a3 : Value} {K : Value → WP} {w : World} (h : V.vmo_Set_Write a0 a1 a2 a3 K w) : Cl pg 31 #[a0, a1, a2, a3] K w :=
  cl_of pg_mixed Try.func31 (args := [a0, a1, a2, a3]) (by kernel_rfl) (by rw [show WF pg Try.f31 [a0, a1, a2, a3] K = V.vmo_Set_Write a0 a1 a2 a3 K from by kernel_rfl]; exact h)

def V.vmo_Set_find (a0 a1 : Value) (KR : Value → WP) : WP :=
  NilC a0 fun v7 =>
  FA v7 1 fun v8 =>
  Ld1 v8 fun v9 =>
  Ex pg (Instr.lookup 53 v9 a1 false) fun v11 =>
  EqP true v11 (.pointer none) fun v13 =>
  Grd v13 true (NilC v11 fun v16 =>
  FA v16 7 fun v17 =>
  Ld1 v17 fun v18 =>
  Un .not v18 fun v19 =>
  Cnd v19 (KR v11)
  (KR (.pointer none)))
  (KR (.pointer none))
theorem V.vmo_Set_find_ok {a0 a1 : Value} {K : Value → WP} {w : World} (h : V.vmo_Set_find a0 a1 K w) : Cl pg 32 #[a0, a1] K w :=
  cl_of pg_mixed Try.func32 (args := [a0, a1]) (by kernel_rfl) (by rw [show WF pg Try.f32 [a0, a1] K = V.vmo_Set_find a0 a1 K from by kernel_rfl]; exact h)

def V.vmo_Set_reach (a0 a1 a2 a3 : Value) (KR : Value → WP) : WP :=
  FnV pg (.func (.func 32) #[] #[]) #[a0, a1] fun v16 =>
  EqP false v16 (.pointer none) fun v18 =>
  Cnd v18 (KR (.tuple #[(.pointer none), (.int .i64 0), (.int .i64 (-25))]))
  (NilC v16 fun v22 =>
  FA v22 0 fun v23 =>
  Ld1 v23 fun v24 =>
  FnV pg (.func (.func 26) #[] #[]) #[a2, a3, v24] fun v25 =>
  Un .not v25 fun v26 =>
  Cnd v26 (KR (.tuple #[(.pointer none), (.int .i64 0), (.int .i64 (-14))]))
  (FnV pg (.func (.func 55) #[] #[]) #[a0, v16] fun v30 =>
  Ext v30 0 fun v31 =>
  Ext v30 1 fun v32 =>
  BinI .add v32 a2 fun v36 =>
  KR (.tuple #[v31, v36, (.int .i64 0)])))
theorem V.vmo_Set_reach_ok {a0 a1 a2 a3 : Value} {K : Value → WP} {w : World} (h : V.vmo_Set_reach a0 a1 a2 a3 K w) : Cl pg 33 #[a0, a1, a2, a3] K w :=
  cl_of pg_mixed Try.func33 (args := [a0, a1, a2, a3]) (by kernel_rfl) (by rw [show WF pg Try.f33 [a0, a1, a2, a3] K = V.vmo_Set_reach a0 a1 a2 a3 K from by kernel_rfl]; exact h)

def V.pages_Pool_Read (a0 a1 a2 a3 : Value) (KR : Value → WP) : WP :=
  FnV pg (.func (.func 56) #[] #[]) #[a0, a1] fun v13 =>
  EqP false v13 (.pointer none) fun v16 =>
  Cnd v16 (KR (.tuple #[(.slice none 0 0), (.int .i64 (-25))]))
  (FnV pg (.func (.func 26) #[] #[]) #[a2, a3, (.int .i64 64)] fun v20 =>
  Un .not v20 fun v21 =>
  Cnd v21 (KR (.tuple #[(.slice none 0 0), (.int .i64 (-14))]))
  (NilC v13 fun v23 =>
  FA v23 0 fun v24 =>
  BinI .add a2 a3 fun v28 =>
  Ex pg (Instr.sliceAt 111 v24 (some a2) (some v28) none) fun v29 =>
  FnV pg (.func (.func 57) #[] #[]) #[v29] fun v30 =>
  KR (.tuple #[v30, (.int .i64 0)])))
theorem V.pages_Pool_Read_ok {a0 a1 a2 a3 : Value} {K : Value → WP} {w : World} (h : V.pages_Pool_Read a0 a1 a2 a3 K w) : Cl pg 34 #[a0, a1, a2, a3] K w :=
  cl_of pg_mixed Try.func34 (args := [a0, a1, a2, a3]) (by kernel_rfl) (by rw [show WF pg Try.f34 [a0, a1, a2, a3] K = V.pages_Pool_Read a0 a1 a2 a3 K from by kernel_rfl]; exact h)

def V.region_Region_Protect (a0 a1 a2 a3 : Value) (KR : Value → WP) : WP :=
  FnV pg (.func (.func 44) #[] #[]) #[a3] fun v15 =>
  Cnd v15 (KR (.int .i64 (-10)))
  (FnV pg (.func (.func 58) #[] #[]) #[a0, a1, a2] fun v19 =>
  BinI .neq v19 (.int .i64 0) fun v21 =>
  Cnd v21 (KR v19)
  (FnV pg (.func (.func 59) #[] #[]) #[a0, a1, a2] fun v27 =>
  Ext v27 0 fun v28 =>
  Ext v27 1 fun v29 =>
  LenS v29 fun v31 =>
  LoopC [(.int .i64 0), (.int .i64 0)] fun vK vs => AllE <|
  UN vs fun v12 vs =>
  UN vs fun v32 _ =>
  BinI .lss v32 v31 fun v33 =>
  Cnd v33 (IA 5 v29 v32 fun v38 =>
  FA v38 1 fun v39 =>
  Ld1 v39 fun v40 =>
  BinI .add v12 v40 fun v41 =>
  IA 5 v29 v32 fun v45 =>
  FA v45 4 fun v46 =>
  St 1 v46 a3 fun _ =>
  BinI .add v32 (.int .i64 1) fun v47 =>
  vK [v41, v47])
  (BinI .neq v12 a2 fun v51 =>
  Cnd v51 (KR (.int .i64 (-25)))
  (LenS v28 fun v54 =>
  LenS v29 fun v56 =>
  BinI .add v54 v56 fun v57 =>
  NilC a0 fun v59 =>
  FA v59 1 fun v60 =>
  Ld1 v60 fun v61 =>
  BinI .gtr v57 v61 fun v62 =>
  Cnd v62 (KR (.int .i64 (-4)))
  (AppC 72 5 40 #[(.int .i64 0), (.int .i64 0), (.int .i64 0), (.int .i64 0), (.int .i64 0)] v28 v29 fun v66 =>
  FnV pg (.func (.func 61) #[] #[]) #[v66] fun v67 =>
  FnV pg (.func (.func 60) #[] #[]) #[v67, (.func (.func 62) #[] #[])] fun v68 =>
  NilC a0 fun v69 =>
  FA v69 2 fun v70 =>
  St 1 v70 v68 fun _ =>
  KR (.int .i64 0))))))
theorem V.region_Region_Protect_ok {a0 a1 a2 a3 : Value} {K : Value → WP} {w : World} (h : V.region_Region_Protect a0 a1 a2 a3 K w) : Cl pg 35 #[a0, a1, a2, a3] K w :=
  cl_of pg_mixed Try.func35 (args := [a0, a1, a2, a3]) (by kernel_rfl) (by rw [show WF pg Try.f35 [a0, a1, a2, a3] K = V.region_Region_Protect a0 a1 a2 a3 K from by kernel_rfl]; exact h)

def V.slices_Sorted_int (a0 : Value) (KR : Value → WP) : WP :=
  FnV pg (.func (.func 63) #[] #[]) #[a0] fun v5 =>
  FnV pg (.func (.func 64) #[] #[]) #[v5] fun _ =>
  KR v5
theorem V.slices_Sorted_int_ok {a0 : Value} {K : Value → WP} {w : World} (h : V.slices_Sorted_int a0 K w) : Cl pg 36 #[a0] K w :=
  cl_of pg_mixed Try.func36 (args := [a0]) (by kernel_rfl) (by rw [show WF pg Try.f36 [a0] K = V.slices_Sorted_int a0 K from by kernel_rfl]; exact h)

def V.maps_Keys_map_int_int_int_int (a0 : Value) (KR : Value → WP) : WP :=
  New 58 (Value.cells a0) fun v1 =>
  KR (.func (.func 65) #[] #[v1])
theorem V.maps_Keys_map_int_int_int_int_ok {a0 : Value} {K : Value → WP} {w : World} (h : V.maps_Keys_map_int_int_int_int a0 K w) : Cl pg 37 #[a0] K w :=
  cl_of pg_mixed Try.func37 (args := [a0]) (by kernel_rfl) (by rw [show WF pg Try.f37 [a0] K = V.maps_Keys_map_int_int_int_int a0 K from by kernel_rfl]; exact h)

def V.vmo_Set_release (a0 a1 a2 : Value) (KR : Value → WP) : WP :=
  NilC a1 fun v10 =>
  FA v10 2 fun v11 =>
  Ld1 v11 fun v12 =>
  Ex pg (Instr.lookup 58 v12 a2 true) fun v14 =>
  Ext v14 0 fun v15 =>
  Ext v14 1 fun v16 =>
  Cnd v16 (NilC a0 fun v19 =>
  FA v19 0 fun v20 =>
  Ld1 v20 fun v21 =>
  FnV pg (.func (.func 66) #[] #[]) #[v21, v15] fun _ =>
  NilC a1 fun v25 =>
  FA v25 2 fun v26 =>
  Ld1 v26 fun v27 =>
  Ex pg (Builtin.delete_ #[58, 3] 0 #[v27, a2]) fun _ =>
  KR (.tuple #[]))
  (KR (.tuple #[]))
theorem V.vmo_Set_release_ok {a0 a1 a2 : Value} {K : Value → WP} {w : World} (h : V.vmo_Set_release a0 a1 a2 K w) : Cl pg 38 #[a0, a1, a2] K w :=
  cl_of pg_mixed Try.func38 (args := [a0, a1, a2]) (by kernel_rfl) (by rw [show WF pg Try.f38 [a0, a1, a2] K = V.vmo_Set_release a0 a1 a2 K from by kernel_rfl]; exact h)

def V.slices_DeleteFunc_int_int (a0 a1 : Value) (KR : Value → WP) : WP :=
  FnV pg (.func (.func 67) #[] #[]) #[a0, a1] fun v10 =>
  BinI .eql v10 (.int .i64 (-1)) fun v12 =>
  Cnd v12 (KR a0)
  (BinI .add v10 (.int .i64 1) fun v15 =>
  LoopC [v10, v15] fun vK vs => AllE <|
  UN vs fun v5 vs =>
  UN vs fun v6 _ =>
  LenS a0 fun v18 =>
  BinI .lss v6 v18 fun v19 =>
  Cnd v19 (IA 1 a0 v6 fun v24 =>
  Ld1 v24 fun v25 =>
  FnV pg a1 #[v25] fun v28 =>
  Un .not v28 fun v29 =>
  Cnd v29 (IA 1 a0 v5 fun v33 =>
  St 1 v33 v25 fun _ =>
  BinI .add v5 (.int .i64 1) fun v35 =>
  BinI .add v6 (.int .i64 1) fun v21 =>
  vK [v35, v21])
  (BinI .add v6 (.int .i64 1) fun v21_1 =>
  vK [v5, v21_1]))
  (SlC 1 a0 (some v5) none fun v38 =>
  Ex pg (clrS #[(.int .i64 0)] v38) fun _ =>
  SlC 1 a0 none (some v5) fun v41 =>
  KR v41))
theorem V.slices_DeleteFunc_int_int_ok {a0 a1 : Value} {K : Value → WP} {w : World} (h : V.slices_DeleteFunc_int_int a0 a1 K w) : Cl pg 39 #[a0, a1] K w :=
  cl_of pg_mixed Try.func39 (args := [a0, a1]) (by kernel_rfl) (by rw [show WF pg Try.f39 [a0, a1] K = V.slices_DeleteFunc_int_int a0 a1 K from by kernel_rfl]; exact h)

def V.vmo_Set_Drop_c1 (a0 a1 : Value) (KR : Value → WP) : WP :=
  Ld1 a1 fun v5 =>
  BinI .eql a0 v5 fun v6 =>
  KR v6
theorem V.vmo_Set_Drop_c1_ok {a0 a1 : Value} {K : Value → WP} {w : World} (h : V.vmo_Set_Drop_c1 a0 a1 K w) : Cl pg 40 #[a0, a1] K w :=
  cl_of pg_mixed Try.func40 (args := [a0, a1]) (by kernel_rfl) (by rw [show WF pg Try.f40 [a0, a1] K = V.vmo_Set_Drop_c1 a0 a1 K from by kernel_rfl]; exact h)

def V.num_Up (a0 a1 : Value) (KR : Value → WP) : WP :=
  FnV pg (.func (.func 68) #[] #[]) #[a0, a1] fun v11 =>
  Ext v11 0 fun v12 =>
  Ext v11 1 fun v13 =>
  Un .not v13 fun v15 =>
  Grd v15 false (BinI .eql v12 a0 fun v19 =>
  Cnd v19 (KR (.tuple #[v12, v13]))
  (FnV pg (.func (.func 69) #[] #[]) #[v12, a1] fun v25 =>
  Ext v25 0 fun v26 =>
  Ext v25 1 fun v27 =>
  KR (.tuple #[v26, v27])))
  (KR (.tuple #[v12, v13]))
theorem V.num_Up_ok {a0 a1 : Value} {K : Value → WP} {w : World} (h : V.num_Up a0 a1 K w) : Cl pg 41 #[a0, a1] K w :=
  cl_of pg_mixed Try.func41 (args := [a0, a1]) (by kernel_rfl) (by rw [show WF pg Try.f41 [a0, a1] K = V.num_Up a0 a1 K from by kernel_rfl]; exact h)

def V.region_pages (a0 : Value) (KR : Value → WP) : WP :=
  FnV pg (.func (.func 70) #[] #[]) #[a0, (.func (.func 71) #[] #[])] fun v4 =>
  Un .not v4 fun v5 =>
  KR v5
theorem V.region_pages_ok {a0 : Value} {K : Value → WP} {w : World} (h : V.region_pages a0 K w) : Cl pg 42 #[a0] K w :=
  cl_of pg_mixed Try.func42 (args := [a0]) (by kernel_rfl) (by rw [show WF pg Try.f42 [a0] K = V.region_pages a0 K from by kernel_rfl]; exact h)

def V.region_Piece_end (a0 : Value) (KR : Value → WP) : WP :=
  New 72 (Value.cells a0) fun v1 =>
  FA v1 0 fun v3 =>
  Ld1 v3 fun v4 =>
  FA v1 1 fun v5 =>
  Ld1 v5 fun v6 =>
  BinI .add v4 v6 fun v7 =>
  KR v7
theorem V.region_Piece_end_ok {a0 : Value} {K : Value → WP} {w : World} (h : V.region_Piece_end a0 K w) : Cl pg 43 #[a0] K w :=
  cl_of pg_mixed Try.func43 (args := [a0]) (by kernel_rfl) (by rw [show WF pg Try.f43 [a0] K = V.region_Piece_end a0 K from by kernel_rfl]; exact h)

def V.region_wrong (a0 : Value) (KR : Value → WP) : WP :=
  BinI .lss a0 (.int .i64 0) fun v4 =>
  Grd v4 false (BinI .gtr a0 (.int .i64 3) fun v7 =>
  KR v7)
  (KR (.bool true))
theorem V.region_wrong_ok {a0 : Value} {K : Value → WP} {w : World} (h : V.region_wrong a0 K w) : Cl pg 44 #[a0] K w :=
  cl_of pg_mixed Try.func44 (args := [a0]) (by kernel_rfl) (by rw [show WF pg Try.f44 [a0] K = V.region_wrong a0 K from by kernel_rfl]; exact h)

def V.region_Region_over (a0 a1 a2 : Value) (KR : Value → WP) : WP :=
  New 61 (Value.cells a0) fun v3 =>
  New 3 (Value.cells a1) fun v4 =>
  New 3 (Value.cells a2) fun v5 =>
  KR (.func (.func 72) #[] #[v3, v4, v5])
theorem V.region_Region_over_ok {a0 a1 a2 : Value} {K : Value → WP} {w : World} (h : V.region_Region_over a0 a1 a2 K w) : Cl pg 45 #[a0, a1, a2] K w :=
  cl_of pg_mixed Try.func45 (args := [a0, a1, a2]) (by kernel_rfl) (by rw [show WF pg Try.f45 [a0, a1, a2] K = V.region_Region_over a0 a1 a2 K from by kernel_rfl]; exact h)

def V.slices_BinarySearchFunc_Piece_Piece_int (a0 a1 a2 : Value) (KR : Value → WP) : WP :=
  LenS a0 fun v13 =>
  LoopC [(.int .i64 0), v13] fun vK vs => AllE <|
  UN vs fun v9 vs =>
  UN vs fun v10 _ =>
  BinI .lss v9 v10 fun v17 =>
  Cnd v17 (BinI .add v9 v10 fun v20 =>
  ConvI .u64 v20 fun v21 =>
  BinI .shr v21 (.int .u64 1) fun v22 =>
  ConvI .i64 v22 fun v23 =>
  IA 5 a0 v23 fun v27 =>
  LdN 5 v27 fun v28 =>
  FnV pg a2 #[v28, a1] fun v30 =>
  BinI .lss v30 (.int .i64 0) fun v31 =>
  Cnd v31 (BinI .add v23 (.int .i64 1) fun v33 =>
  vK [v33, v10])
  (vK [v9, v23]))
  (BinI .lss v9 v13 fun v38 =>
  Grd v38 true (IA 5 a0 v9 fun v43 =>
  LdN 5 v43 fun v44 =>
  FnV pg a2 #[v44, a1] fun v46 =>
  BinI .eql v46 (.int .i64 0) fun v47 =>
  KR (.tuple #[v9, v47]))
  (KR (.tuple #[v9, (.bool false)])))
theorem V.slices_BinarySearchFunc_Piece_Piece_int_ok {a0 a1 a2 : Value} {K : Value → WP} {w : World} (h : V.slices_BinarySearchFunc_Piece_Piece_int a0 a1 a2 K w) : Cl pg 46 #[a0, a1, a2] K w :=
  cl_of pg_mixed Try.func46 (args := [a0, a1, a2]) (by kernel_rfl) (by rw [show WF pg Try.f46 [a0, a1, a2] K = V.slices_BinarySearchFunc_Piece_Piece_int a0 a1 a2 K from by kernel_rfl]; exact h)

def V.region_Region_Put_c1 (a0 a1 : Value) (KR : Value → WP) : WP :=
  New 72 (Value.cells a0) fun v2 =>
  FA v2 0 fun v5 =>
  Ld1 v5 fun v6 =>
  FnV pg (.func (.func 48) #[] #[]) #[v6, a1] fun v8 =>
  KR v8
theorem V.region_Region_Put_c1_ok {a0 a1 : Value} {K : Value → WP} {w : World} (h : V.region_Region_Put_c1 a0 a1 K w) : Cl pg 47 #[a0, a1] K w :=
  cl_of pg_mixed Try.func47 (args := [a0, a1]) (by kernel_rfl) (by rw [show WF pg Try.f47 [a0, a1] K = V.region_Region_Put_c1 a0 a1 K from by kernel_rfl]; exact h)

def V.cmp_Compare_int (a0 a1 : Value) (KR : Value → WP) : WP :=
  FnV pg (.func (.func 74) #[] #[]) #[a0] fun v8 =>
  FnV pg (.func (.func 74) #[] #[]) #[a1] fun v10 =>
  Cnd v8 (Cnd v10 (KR (.int .i64 0))
  (KR (.int .i64 (-1))))
  (Cnd v10 (KR (.int .i64 1))
  (BinI .lss a0 a1 fun v16 =>
  Cnd v16 (KR (.int .i64 (-1)))
  (BinI .gtr a0 a1 fun v19 =>
  Cnd v19 (KR (.int .i64 1))
  (KR (.int .i64 0)))))
theorem V.cmp_Compare_int_ok {a0 a1 : Value} {K : Value → WP} {w : World} (h : V.cmp_Compare_int a0 a1 K w) : Cl pg 48 #[a0, a1] K w :=
  cl_of pg_mixed Try.func48 (args := [a0, a1]) (by kernel_rfl) (by rw [show WF pg Try.f48 [a0, a1] K = V.cmp_Compare_int a0 a1 K from by kernel_rfl]; exact h)

def V.slices_Insert_Piece_Piece (a0 a1 a2 : Value) (KR : Value → WP) : WP :=
  SlC 5 a0 (some a1) none fun _ =>
  LenS a2 fun v14 =>
  BinI .eql v14 (.int .i64 0) fun v16 =>
  Cnd v16 (KR a0)
  (LenS a0 fun v19 =>
  BinI .eql a1 v19 fun v22 =>
  Cnd v22 (AppC 72 5 40 #[(.int .i64 0), (.int .i64 0), (.int .i64 0), (.int .i64 0), (.int .i64 0)] a0 a2 fun v25 =>
  KR v25)
  (BinI .add v19 v14 fun v28 =>
  Ex pg (Builtin.cap_ #[33] 3 #[a0]) fun v30 =>
  BinI .gtr v28 v30 fun v31 =>
  Cnd v31 (SlC 5 a0 none (some a1) fun v34 =>
  BinI .add v19 v14 fun v37 =>
  BinI .sub v37 a1 fun v39 =>
  Ex pg (Builtin.append_ #[33, 3] 33 #[v34, v39]) fun v40 =>
  SlC 5 v40 (some a1) none fun v43 =>
  Ex pg (Builtin.copy_ #[33, 33] 3 #[v43, a2]) fun _ =>
  Drw <| QtC fun I =>
  QE I (fun KK => BinI .add a1 v14 fun v49 =>
  KK v49) fun v49_1 =>
  QE I (fun KK => SlC 5 v40 (some v49_1) none fun v50 =>
  KK v50) fun v50_1 =>
  QE I (fun KK => SlC 5 a0 (some a1) none fun v53 =>
  KK v53) fun v53_1 =>
  Ex pg (Builtin.copy_ #[33, 33] 3 #[v50_1, v53_1]) fun _ =>
  KR v40)
  (BinI .add v19 v14 fun v59 =>
  SlC 5 a0 none (some v59) fun v60 =>
  BinI .add a1 v14 fun v65 =>
  SlC 5 v60 (some v65) none fun v66 =>
  FnV pg (.func (.func 75) #[] #[]) #[a2, v66] fun v67 =>
  Un .not v67 fun v68 =>
  Cnd v68 (Drw <| QtC fun I =>
  QE I (fun KK => BinI .add a1 v14 fun v72 =>
  KK v72) fun v72_1 =>
  QE I (fun KK => SlC 5 v60 (some v72_1) none fun v73 =>
  KK v73) fun v73_1 =>
  QE I (fun KK => SlC 5 v60 (some a1) none fun v76 =>
  KK v76) fun v76_1 =>
  Ex pg (Builtin.copy_ #[33, 33] 3 #[v73_1, v76_1]) fun _ =>
  SlC 5 v60 (some a1) none fun v80 =>
  Ex pg (Builtin.copy_ #[33, 33] 3 #[v80, a2]) fun _ =>
  KR v60)
  (SlC 5 v60 (some v19) none fun v86 =>
  Ex pg (Builtin.copy_ #[33, 33] 3 #[v86, a2]) fun _ =>
  SlC 5 v60 (some a1) none fun v91 =>
  FnV pg (.func (.func 76) #[] #[]) #[v91, v14] fun _ =>
  KR v60))))
theorem V.slices_Insert_Piece_Piece_ok {a0 a1 a2 : Value} {K : Value → WP} {w : World} (h : V.slices_Insert_Piece_Piece a0 a1 a2 K w) : Cl pg 49 #[a0, a1, a2] K w :=
  cl_of pg_mixed Try.func49 (args := [a0, a1, a2]) (by kernel_rfl) (by rw [show WF pg Try.f49 [a0, a1, a2] K = V.slices_Insert_Piece_Piece a0 a1 a2 K from by kernel_rfl]; exact h)

def V.slices_Clone_Piece_Piece (a0 : Value) (KR : Value → WP) : WP :=
  BinX pg .eql 33 (.tmp 3) (.const (.slice none 0 0)) a0 (.slice none 0 0) fun v4 =>
  Cnd v4 (KR (.slice none 0 0))
  (BSlC 72 5 #[(.int .i64 0), (.int .i64 0), (.int .i64 0), (.int .i64 0), (.int .i64 0)] 0 #[] fun v5 =>
  AppC 72 5 40 #[(.int .i64 0), (.int .i64 0), (.int .i64 0), (.int .i64 0), (.int .i64 0)] v5 a0 fun v7 =>
  KR v7)
theorem V.slices_Clone_Piece_Piece_ok {a0 : Value} {K : Value → WP} {w : World} (h : V.slices_Clone_Piece_Piece a0 K w) : Cl pg 50 #[a0] K w :=
  cl_of pg_mixed Try.func50 (args := [a0]) (by kernel_rfl) (by rw [show WF pg Try.f50 [a0] K = V.slices_Clone_Piece_Piece a0 K from by kernel_rfl]; exact h)

def V.region_Region_Span (a0 a1 a2 : Value) (KR : Value → WP) : WP :=
  New 3 (Value.cells a1) fun v4 =>
  New 3 (Value.cells a2) fun v5 =>
  Ld1 v4 fun v13 =>
  BinI .lss v13 (.int .i64 0) fun v14 =>
  Grd v14 false (Ld1 v5 fun v16 =>
  BinI .lss v16 (.int .i64 0) fun v17 =>
  Cnd v17 (KR (.tuple #[(.slice none 0 0), (.int .i64 (-10))]))
  (Drw <| QtC fun I =>
  QE I (fun KK => Ld1 v4 fun v20 =>
  KK v20) fun v20_1 =>
  QE I (fun KK => Ld1 v5 fun v21 =>
  KK v21) fun v21_1 =>
  QE I (fun KK => NilC a0 fun v23 =>
  KK v23) fun v23_1 =>
  QE I (fun KK => FA v23_1 0 fun v24 =>
  KK v24) fun v24_1 =>
  QE I (fun KK => Ld1 v24_1 fun v25 =>
  KK v25) fun v25_1 =>
  FnV pg (.func (.func 26) #[] #[]) #[v20_1, v21_1, v25_1] fun v26 =>
  Un .not v26 fun v27 =>
  Cnd v27 (KR (.tuple #[(.slice none 0 0), (.int .i64 (-25))]))
  (New 33 #[(.slice none 0 0)] fun v8 =>
  New 3 #[(.int .i64 0)] fun v9 =>
  St 1 v9 (.int .i64 0) fun _ =>
  Ld1 v4 fun v29 =>
  Ld1 v5 fun v30 =>
  FnV pg (.func (.func 45) #[] #[]) #[a0, v29, v30] fun v31 =>
  RF0 pg v31 (fun vl vs vK =>
  UN vs fun _ vs =>
  UN vs fun v33 vs =>
  UNe vs <|
  New 72 #[(.int .i64 0), (.int .i64 0), (.int .i64 0), (.int .i64 0), (.int .i64 0)] fun v11 =>
  St 5 v11 v33 fun _ =>
  RBeg vl <|
  Drw <| QtC fun I =>
  QE I (fun KK => Ld1 v8 fun v34 =>
  KK v34) fun v34_1 =>
  QE I (fun KK => LdN 5 v11 fun v35 =>
  KK v35) fun v35_1 =>
  QE I (fun KK => Ld1 v4 fun v36 =>
  KK v36) fun v36_1 =>
  QE I (fun KK => Ld1 v4 fun v37 =>
  KK v37) fun v37_1 =>
  QE I (fun KK => Ld1 v5 fun v38 =>
  KK v38) fun v38_1 =>
  QE I (fun KK => BinI .add v37_1 v38_1 fun v39 =>
  KK v39) fun v39_1 =>
  FnV pg (.func (.func 77) #[] #[]) #[v35_1, v36_1, v39_1] fun v40 =>
  CH I <|
  BSlC 72 5 #[(.int .i64 0), (.int .i64 0), (.int .i64 0), (.int .i64 0), (.int .i64 0)] 1 #[(0, v40)] fun v41 =>
  CH I <|
  AppC 72 5 40 #[(.int .i64 0), (.int .i64 0), (.int .i64 0), (.int .i64 0), (.int .i64 0)] v34_1 v41 fun v42 =>
  St 1 v8 v42 fun _ =>
  Drw <| QtC fun I =>
  QE I (fun KK => Ld1 v9 fun v43 =>
  KK v43) fun v43_1 =>
  QE I (fun KK => Ld1 v8 fun v44 =>
  KK v44) fun v44_1 =>
  QE I (fun KK => Ld1 v8 fun v45 =>
  KK v45) fun v45_1 =>
  QE I (fun KK => LenS v45_1 fun v46 =>
  KK v46) fun v46_1 =>
  QE I (fun KK => BinI .sub v46_1 (.int .i64 1) fun v47 =>
  KK v47) fun v47_1 =>
  QE I (fun KK => IA 5 v44_1 v47_1 fun v48 =>
  KK v48) fun v48_1 =>
  QE I (fun KK => FA v48_1 1 fun v49 =>
  KK v49) fun v49_1 =>
  QE I (fun KK => Ld1 v49_1 fun v50 =>
  KK v50) fun v50_1 =>
  BinI .add v43_1 v50_1 fun v51 =>
  St 1 v9 v51 fun _ =>
  REnd vl none vK)
  fun vm vj =>
  JumpC vj (Ld1 v9 fun v52 =>
  Ld1 v5 fun v53 =>
  BinI .neq v52 v53 fun v54 =>
  Cnd v54 (LvC (.tuple #[vm]) <| KR (.tuple #[(.slice none 0 0), (.int .i64 (-25))]))
  (Ld1 v8 fun v55 =>
  LvC (.tuple #[vm]) <| KR (.tuple #[v55, (.int .i64 0)])))
  (LvC (.tuple #[vm]) <| KR (.tuple #[(.slice none 0 0), (.int .i64 0)]))
  (fun _ => fun _ => False))))
  (KR (.tuple #[(.slice none 0 0), (.int .i64 (-10))]))
theorem V.region_Region_Span_ok {a0 a1 a2 : Value} {K : Value → WP} {w : World} (h : V.region_Region_Span a0 a1 a2 K w) : Cl pg 51 #[a0, a1, a2] K w :=
  cl_of pg_mixed Try.func51 (args := [a0, a1, a2]) (by kernel_rfl) (by rw [show WF pg Try.f51 [a0, a1, a2] K = V.region_Region_Span a0 a1 a2 K from by kernel_rfl]; exact h)

def V.vmo_Set_commit (a0 a1 a2 : Value) (KR : Value → WP) : WP :=
  LenS a2 fun v17 =>
  LoopC [(.int .i64 0), (.int .i64 0)] fun vK vs => AllE <|
  UN vs fun v7 vs =>
  UN vs fun v18 _ =>
  BinI .lss v18 v17 fun v19 =>
  Cnd v19 (IA 1 a2 v18 fun v20 =>
  Ld1 v20 fun v21 =>
  NilC a1 fun v24 =>
  FA v24 2 fun v25 =>
  Ld1 v25 fun v26 =>
  Ex pg (Instr.lookup 58 v26 v21 true) fun v28 =>
  Ext v28 0 fun v29 =>
  Ext v28 1 fun v30 =>
  Un .not v30 fun v32 =>
  Grd v32 false (NilC a0 fun v35 =>
  FA v35 0 fun v36 =>
  Ld1 v36 fun v37 =>
  FnV pg (.func (.func 78) #[] #[]) #[v37, v29] fun v39 =>
  BinI .gtr v39 (.int .i64 1) fun v40 =>
  Cnd v40 (BinI .add v7 (.int .i64 1) fun v43 =>
  BinI .add v18 (.int .i64 1) fun v44 =>
  vK [v43, v44])
  (BinI .add v18 (.int .i64 1) fun v44_1 =>
  vK [v7, v44_1]))
  (BinI .add v7 (.int .i64 1) fun v43_1 =>
  BinI .add v18 (.int .i64 1) fun v44_2 =>
  vK [v43_1, v44_2]))
  (NilC a0 fun v47 =>
  FA v47 0 fun v48 =>
  Ld1 v48 fun v49 =>
  FnV pg (.func (.func 79) #[] #[]) #[v49] fun v50 =>
  BinI .gtr v7 v50 fun v51 =>
  Cnd v51 (KR (.int .i64 (-4)))
  (LenS a2 fun v53 =>
  LoopC [(.int .i64 0)] fun vK_1 vs => AllE <|
  UN vs fun v54 _ =>
  BinI .lss v54 v53 fun v55 =>
  Cnd v55 (IA 1 a2 v54 fun v56 =>
  Ld1 v56 fun v57 =>
  NilC a1 fun v60 =>
  FA v60 2 fun v61 =>
  Ld1 v61 fun v62 =>
  Ex pg (Instr.lookup 58 v62 v57 true) fun v64 =>
  Ext v64 0 fun v65 =>
  Ext v64 1 fun v66 =>
  Cnd v66 (NilC a0 fun v70 =>
  FA v70 0 fun v71 =>
  Ld1 v71 fun v72 =>
  FnV pg (.func (.func 80) #[] #[]) #[v72, v65] fun v74 =>
  Ext v74 0 fun v75 =>
  Ext v74 1 fun _ =>
  NilC a1 fun v86 =>
  FA v86 2 fun v87 =>
  Ld1 v87 fun v88 =>
  Ex pg (do Instr.mapUpdate 58 v88 v57 v75; pure undef) fun _ =>
  BinI .add v54 (.int .i64 1) fun v91 =>
  vK_1 [v91])
  (NilC a0 fun v79 =>
  FA v79 0 fun v80 =>
  Ld1 v80 fun v81 =>
  FnV pg (.func (.func 81) #[] #[]) #[v81] fun v82 =>
  Ext v82 0 fun v83 =>
  Ext v82 1 fun _ =>
  NilC a1 fun v86_1 =>
  FA v86_1 2 fun v87_1 =>
  Ld1 v87_1 fun v88_1 =>
  Ex pg (do Instr.mapUpdate 58 v88_1 v57 v83; pure undef) fun _ =>
  BinI .add v54 (.int .i64 1) fun v91_1 =>
  vK_1 [v91_1]))
  (KR (.int .i64 0))))
theorem V.vmo_Set_commit_ok {a0 a1 a2 : Value} {K : Value → WP} {w : World} (h : V.vmo_Set_commit a0 a1 a2 K w) : Cl pg 52 #[a0, a1, a2] K w :=
  cl_of pg_mixed Try.func52 (args := [a0, a1, a2]) (by kernel_rfl) (by rw [show WF pg Try.f52 [a0, a1, a2] K = V.vmo_Set_commit a0 a1 a2 K from by kernel_rfl]; exact h)

def V.vmo_touched (a0 a1 : Value) (KR : Value → WP) : WP :=
  FnV pg (.func (.func 82) #[] #[]) #[a0, a1] fun v13 =>
  Ext v13 0 fun v14 =>
  Ext v13 1 fun v15 =>
  Ext v13 2 fun _ =>
  LoopC [(.slice none 0 0), (.int .i64 0)] fun vK vs => AllE <|
  UN vs fun v8 vs =>
  UN vs fun v18 _ =>
  BinI .lss v18 v15 fun v19 =>
  Cnd v19 (BinI .add v14 v18 fun v24 =>
  BSlC 3 1 #[(.int .i64 0)] 1 #[(0, v24)] fun v25 =>
  AppC 3 1 8 #[(.int .i64 0)] v8 v25 fun v26 =>
  BinI .add v18 (.int .i64 1) fun v27 =>
  vK [v26, v27])
  (KR v8)
theorem V.vmo_touched_ok {a0 a1 : Value} {K : Value → WP} {w : World} (h : V.vmo_touched a0 a1 K w) : Cl pg 53 #[a0, a1] K w :=
  cl_of pg_mixed Try.func53 (args := [a0, a1]) (by kernel_rfl) (by rw [show WF pg Try.f53 [a0, a1] K = V.vmo_touched a0 a1 K from by kernel_rfl]; exact h)

def V.vmo_Set_put (a0 a1 a2 a3 : Value) (KR : Value → WP) : WP :=
  LoopC [a2, a3] fun vK vs => AllE <|
  UN vs fun v2 vs =>
  UN vs fun v3 _ =>
  LenS v3 fun v11 =>
  BinI .gtr v11 (.int .i64 0) fun v12 =>
  Cnd v12 (BinI .rem v2 (.int .i64 64) fun v14 =>
  LenS v3 fun v16 =>
  BinI .sub (.int .i64 64) v14 fun v18 =>
  Ex pg (Builtin.min_ #[3, 3] 3 #[v16, v18]) fun v19 =>
  Drw <| QtC fun I =>
  QE I (fun KK => NilC a0 fun v21 =>
  KK v21) fun v21_1 =>
  QE I (fun KK => FA v21_1 0 fun v22 =>
  KK v22) fun v22_1 =>
  QE I (fun KK => Ld1 v22_1 fun v23 =>
  KK v23) fun v23_1 =>
  QE I (fun KK => NilC a1 fun v25 =>
  KK v25) fun v25_1 =>
  QE I (fun KK => FA v25_1 2 fun v26 =>
  KK v26) fun v26_1 =>
  QE I (fun KK => Ld1 v26_1 fun v27 =>
  KK v27) fun v27_1 =>
  QE I (fun KK => BinI .quo v2 (.int .i64 64) fun v29 =>
  KK v29) fun v29_1 =>
  QE I (fun KK => Ex pg (Instr.lookup 58 v27_1 v29_1 false) fun v30 =>
  KK v30) fun v30_1 =>
  QE I (fun KK => SlC 1 v3 none (some v19) fun v34 =>
  KK v34) fun v34_1 =>
  FnV pg (.func (.func 83) #[] #[]) #[v23_1, v30_1, v14, v34_1] fun _ =>
  BinI .add v2 v19 fun v38 =>
  SlC 1 v3 (some v19) none fun v41 =>
  vK [v38, v41])
  (KR (.tuple #[]))
theorem V.vmo_Set_put_ok {a0 a1 a2 a3 : Value} {K : Value → WP} {w : World} (h : V.vmo_Set_put a0 a1 a2 a3 K w) : Cl pg 54 #[a0, a1, a2, a3] K w :=
  cl_of pg_mixed Try.func54 (args := [a0, a1, a2, a3]) (by kernel_rfl) (by rw [show WF pg Try.f54 [a0, a1, a2, a3] K = V.vmo_Set_put a0 a1 a2 a3 K from by kernel_rfl]; exact h)

def V.vmo_Set_base (a0 a1 : Value) (KR : Value → WP) : WP :=
  LoopC [(.int .i64 0), a1] fun vK vs => AllE <|
  UN vs fun v6 vs =>
  UN vs fun v1 _ =>
  NilC v1 fun v8 =>
  FA v8 4 fun v9 =>
  Ld1 v9 fun v10 =>
  Cnd v10 (NilC v1 fun v13 =>
  FA v13 5 fun v14 =>
  Ld1 v14 fun v15 =>
  BinI .add v6 v15 fun v16 =>
  Drw <| QtC fun I =>
  QE I (fun KK => NilC a0 fun v18 =>
  KK v18) fun v18_1 =>
  QE I (fun KK => FA v18_1 1 fun v19 =>
  KK v19) fun v19_1 =>
  QE I (fun KK => Ld1 v19_1 fun v20 =>
  KK v20) fun v20_1 =>
  QE I (fun KK => NilC v1 fun v22 =>
  KK v22) fun v22_1 =>
  QE I (fun KK => FA v22_1 1 fun v23 =>
  KK v23) fun v23_1 =>
  QE I (fun KK => Ld1 v23_1 fun v24 =>
  KK v24) fun v24_1 =>
  Ex pg (Instr.lookup 53 v20_1 v24_1 false) fun v25 =>
  vK [v16, v25])
  (KR (.tuple #[v1, v6]))
theorem V.vmo_Set_base_ok {a0 a1 : Value} {K : Value → WP} {w : World} (h : V.vmo_Set_base a0 a1 K w) : Cl pg 55 #[a0, a1] K w :=
  cl_of pg_mixed Try.func55 (args := [a0, a1]) (by kernel_rfl) (by rw [show WF pg Try.f55 [a0, a1] K = V.vmo_Set_base a0 a1 K from by kernel_rfl]; exact h)

def V.pages_Pool_find (a0 a1 : Value) (KR : Value → WP) : WP :=
  BinI .lss a1 (.int .i64 0) fun v6 =>
  Grd v6 false (NilC a0 fun v10 =>
  FA v10 0 fun v11 =>
  Ld1 v11 fun v12 =>
  LenS v12 fun v13 =>
  BinI .geq a1 v13 fun v14 =>
  Grd v14 false (NilC a0 fun v18 =>
  FA v18 0 fun v19 =>
  Ld1 v19 fun v20 =>
  IA 65 v20 a1 fun v22 =>
  FA v22 64 fun v23 =>
  Ld1 v23 fun v24 =>
  BinI .eql v24 (.int .i64 0) fun v25 =>
  Cnd v25 (KR (.pointer none))
  (NilC a0 fun v28 =>
  FA v28 0 fun v29 =>
  Ld1 v29 fun v30 =>
  IA 65 v30 a1 fun v32 =>
  KR v32))
  (KR (.pointer none)))
  (KR (.pointer none))
theorem V.pages_Pool_find_ok {a0 a1 : Value} {K : Value → WP} {w : World} (h : V.pages_Pool_find a0 a1 K w) : Cl pg 56 #[a0, a1] K w :=
  cl_of pg_mixed Try.func56 (args := [a0, a1]) (by kernel_rfl) (by rw [show WF pg Try.f56 [a0, a1] K = V.pages_Pool_find a0 a1 K from by kernel_rfl]; exact h)

def V.bytes_Clone (a0 : Value) (KR : Value → WP) : WP :=
  BinX pg .eql 36 (.tmp 3) (.const (.slice none 0 0)) a0 (.slice none 0 0) fun v4 =>
  Cnd v4 (KR (.slice none 0 0))
  (BSlC 5 1 #[(.int .u8 0)] 0 #[] fun v5 =>
  AppC 5 1 1 #[(.int .u8 0)] v5 a0 fun v7 =>
  KR v7)
theorem V.bytes_Clone_ok {a0 : Value} {K : Value → WP} {w : World} (h : V.bytes_Clone a0 K w) : Cl pg 57 #[a0] K w :=
  cl_of pg_mixed Try.func57 (args := [a0]) (by kernel_rfl) (by rw [show WF pg Try.f57 [a0] K = V.bytes_Clone a0 K from by kernel_rfl]; exact h)

def V.region_Region_check (a0 a1 a2 : Value) (KR : Value → WP) : WP :=
  BSlC 3 1 #[(.int .i64 0)] 2 #[(0, a1), (1, a2)] fun v10 =>
  FnV pg (.func (.func 42) #[] #[]) #[v10] fun v11 =>
  Un .not v11 fun v12 =>
  Grd v12 false (BinI .eql a2 (.int .i64 0) fun v15 =>
  Cnd v15 (KR (.int .i64 (-10)))
  (NilC a0 fun v21 =>
  FA v21 0 fun v22 =>
  Ld1 v22 fun v23 =>
  FnV pg (.func (.func 26) #[] #[]) #[a1, a2, v23] fun v24 =>
  Un .not v24 fun v25 =>
  Cnd v25 (KR (.int .i64 (-14)))
  (KR (.int .i64 0))))
  (KR (.int .i64 (-10)))
theorem V.region_Region_check_ok {a0 a1 a2 : Value} {K : Value → WP} {w : World} (h : V.region_Region_check a0 a1 a2 K w) : Cl pg 58 #[a0, a1, a2] K w :=
  cl_of pg_mixed Try.func58 (args := [a0, a1, a2]) (by kernel_rfl) (by rw [show WF pg Try.f58 [a0, a1, a2] K = V.region_Region_check a0 a1 a2 K from by kernel_rfl]; exact h)

def V.region_Region_split (a0 a1 a2 : Value) (KR : Value → WP) : WP :=
  NilC a0 fun v11 =>
  FA v11 2 fun v12 =>
  Ld1 v12 fun v13 =>
  LenS v13 fun v14 =>
  LoopC [(.slice none 0 0), (.slice none 0 0), (.int .i64 0)] fun vK vs => AllE <|
  UN vs fun v7 vs =>
  UN vs fun v6 vs =>
  UN vs fun v15 _ =>
  BinI .lss v15 v14 fun v16 =>
  Cnd v16 (IA 5 v13 v15 fun v17 =>
  LdN 5 v17 fun v18 =>
  New 72 #[(.int .i64 0), (.int .i64 0), (.int .i64 0), (.int .i64 0), (.int .i64 0)] fun v9 =>
  St 5 v9 v18 fun _ =>
  FA v9 0 fun v19 =>
  Ld1 v19 fun v20 =>
  FA v9 1 fun v21 =>
  Ld1 v21 fun v22 =>
  FnV pg (.func (.func 73) #[] #[]) #[v20, v22, a1, a2] fun v25 =>
  Un .not v25 fun v26 =>
  Cnd v26 (LdN 5 v9 fun v28 =>
  BSlC 72 5 #[(.int .i64 0), (.int .i64 0), (.int .i64 0), (.int .i64 0), (.int .i64 0)] 1 #[(0, v28)] fun v29 =>
  AppC 72 5 40 #[(.int .i64 0), (.int .i64 0), (.int .i64 0), (.int .i64 0), (.int .i64 0)] v6 v29 fun v30 =>
  BinI .add v15 (.int .i64 1) fun v68 =>
  vK [v7, v30, v68])
  (JoinC (fun vs => AllE (UN vs fun v6_1 _ =>
  LdN 5 v9 fun v44 =>
  BinI .add a1 a2 fun v48 =>
  FnV pg (.func (.func 77) #[] #[]) #[v44, a1, v48] fun v49 =>
  BSlC 72 5 #[(.int .i64 0), (.int .i64 0), (.int .i64 0), (.int .i64 0), (.int .i64 0)] 1 #[(0, v49)] fun v50 =>
  AppC 72 5 40 #[(.int .i64 0), (.int .i64 0), (.int .i64 0), (.int .i64 0), (.int .i64 0)] v7 v50 fun v51 =>
  LdN 5 v9 fun v52 =>
  FnV pg (.func (.func 43) #[] #[]) #[v52] fun v53 =>
  BinI .add a1 a2 fun v56 =>
  BinI .gtr v53 v56 fun v57 =>
  Cnd v57 (Drw <| QtC fun I =>
  QE I (fun KK => LdN 5 v9 fun v59 =>
  KK v59) fun v59_1 =>
  QE I (fun KK => BinI .add a1 a2 fun v62 =>
  KK v62) fun v62_1 =>
  QE I (fun KK => LdN 5 v9 fun v63 =>
  KK v63) fun v63_1 =>
  FnV pg (.func (.func 43) #[] #[]) #[v63_1] fun v64 =>
  CH I <|
  FnV pg (.func (.func 77) #[] #[]) #[v59_1, v62_1, v64] fun v65 =>
  BSlC 72 5 #[(.int .i64 0), (.int .i64 0), (.int .i64 0), (.int .i64 0), (.int .i64 0)] 1 #[(0, v65)] fun v66 =>
  AppC 72 5 40 #[(.int .i64 0), (.int .i64 0), (.int .i64 0), (.int .i64 0), (.int .i64 0)] v6_1 v66 fun v67 =>
  BinI .add v15 (.int .i64 1) fun v68_1 =>
  vK [v51, v67, v68_1])
  (BinI .add v15 (.int .i64 1) fun v68_2 =>
  vK [v51, v6_1, v68_2])))
  fun vK_1 =>
  FA v9 0 fun v31 =>
  Ld1 v31 fun v32 =>
  BinI .lss v32 a1 fun v34 =>
  Cnd v34 (LdN 5 v9 fun v36 =>
  FA v9 0 fun v37 =>
  Ld1 v37 fun v38 =>
  FnV pg (.func (.func 77) #[] #[]) #[v36, v38, a1] fun v40 =>
  BSlC 72 5 #[(.int .i64 0), (.int .i64 0), (.int .i64 0), (.int .i64 0), (.int .i64 0)] 1 #[(0, v40)] fun v41 =>
  AppC 72 5 40 #[(.int .i64 0), (.int .i64 0), (.int .i64 0), (.int .i64 0), (.int .i64 0)] v6 v41 fun v42 =>
  vK_1 [v42])
  (vK_1 [v6])))
  (KR (.tuple #[v6, v7]))
theorem V.region_Region_split_ok {a0 a1 a2 : Value} {K : Value → WP} {w : World} (h : V.region_Region_split a0 a1 a2 K w) : Cl pg 59 #[a0, a1, a2] K w :=
  cl_of pg_mixed Try.func59 (args := [a0, a1, a2]) (by kernel_rfl) (by rw [show WF pg Try.f59 [a0, a1, a2] K = V.region_Region_split a0 a1 a2 K from by kernel_rfl]; exact h)

def V.slices_SortedFunc_Piece (a0 a1 : Value) (KR : Value → WP) : WP :=
  FnV pg (.func (.func 84) #[] #[]) #[a0] fun v7 =>
  FnV pg (.func (.func 85) #[] #[]) #[v7, a1] fun _ =>
  KR v7
theorem V.slices_SortedFunc_Piece_ok {a0 a1 : Value} {K : Value → WP} {w : World} (h : V.slices_SortedFunc_Piece a0 a1 K w) : Cl pg 60 #[a0, a1] K w :=
  cl_of pg_mixed Try.func60 (args := [a0, a1]) (by kernel_rfl) (by rw [show WF pg Try.f60 [a0, a1] K = V.slices_SortedFunc_Piece a0 a1 K from by kernel_rfl]; exact h)

def V.slices_Values_Piece_Piece (a0 : Value) (KR : Value → WP) : WP :=
  New 33 (Value.cells a0) fun v1 =>
  KR (.func (.func 86) #[] #[v1])
theorem V.slices_Values_Piece_Piece_ok {a0 : Value} {K : Value → WP} {w : World} (h : V.slices_Values_Piece_Piece a0 K w) : Cl pg 61 #[a0] K w :=
  cl_of pg_mixed Try.func61 (args := [a0]) (by kernel_rfl) (by rw [show WF pg Try.f61 [a0] K = V.slices_Values_Piece_Piece a0 K from by kernel_rfl]; exact h)

def V.region_Region_Protect_c1 (a0 a1 : Value) (KR : Value → WP) : WP :=
  New 72 (Value.cells a0) fun v2 =>
  New 72 (Value.cells a1) fun v3 =>
  FA v2 0 fun v5 =>
  Ld1 v5 fun v6 =>
  FA v3 0 fun v7 =>
  Ld1 v7 fun v8 =>
  FnV pg (.func (.func 48) #[] #[]) #[v6, v8] fun v9 =>
  KR v9
theorem V.region_Region_Protect_c1_ok {a0 a1 : Value} {K : Value → WP} {w : World} (h : V.region_Region_Protect_c1 a0 a1 K w) : Cl pg 62 #[a0, a1] K w :=
  cl_of pg_mixed Try.func62 (args := [a0, a1]) (by kernel_rfl) (by rw [show WF pg Try.f62 [a0, a1] K = V.region_Region_Protect_c1 a0 a1 K from by kernel_rfl]; exact h)

def V.slices_Collect_int (a0 : Value) (KR : Value → WP) : WP :=
  FnV pg (.func (.func 87) #[] #[]) #[(.slice none 0 0), a0] fun v4 =>
  KR v4
theorem V.slices_Collect_int_ok {a0 : Value} {K : Value → WP} {w : World} (h : V.slices_Collect_int a0 K w) : Cl pg 63 #[a0] K w :=
  cl_of pg_mixed Try.func63 (args := [a0]) (by kernel_rfl) (by rw [show WF pg Try.f63 [a0] K = V.slices_Collect_int a0 K from by kernel_rfl]; exact h)

def V.slices_Sort_int_int (a0 : Value) (KR : Value → WP) : WP :=
  LenS a0 fun v4 =>
  ConvI .u64 v4 fun v8 =>
  FnV pg (.func (.func 89) #[] #[]) #[v8] fun v9 =>
  FnV pg (.func (.func 88) #[] #[]) #[a0, (.int .i64 0), v4, v9] fun _ =>
  KR (.tuple #[])
theorem V.slices_Sort_int_int_ok {a0 : Value} {K : Value → WP} {w : World} (h : V.slices_Sort_int_int a0 K w) : Cl pg 64 #[a0] K w :=
  cl_of pg_mixed Try.func64 (args := [a0]) (by kernel_rfl) (by rw [show WF pg Try.f64 [a0] K = V.slices_Sort_int_int a0 K from by kernel_rfl]; exact h)

def V.maps_Keys_c1_map_int_int_int_int (a0 a1 : Value) (KR : Value → WP) : WP :=
  Ld1 a1 fun v4 =>
  Ex pg (Instr.range 58 v4) fun v5 =>
  LoopC [] fun vK _ => AllE <|
  Ex pg (Instr.next v5 false 0) fun v6 =>
  Ext v6 0 fun v7 =>
  Cnd v7 (Ex pg (Instr.entry v5) fun v8 =>
  Ext v8 0 fun v9 =>
  FnV pg a0 #[v9] fun v12 =>
  Un .not v12 fun v13 =>
  Cnd v13 (KR (.tuple #[]))
  (vK []))
  (KR (.tuple #[]))
theorem V.maps_Keys_c1_map_int_int_int_int_ok {a0 a1 : Value} {K : Value → WP} {w : World} (h : V.maps_Keys_c1_map_int_int_int_int a0 a1 K w) : Cl pg 65 #[a0, a1] K w :=
  cl_of pg_mixed Try.func65 (args := [a0, a1]) (by kernel_rfl) (by rw [show WF pg Try.f65 [a0, a1] K = V.maps_Keys_c1_map_int_int_int_int a0 a1 K from by kernel_rfl]; exact h)

def V.pages_Pool_Release (a0 a1 : Value) (KR : Value → WP) : WP :=
  FnV pg (.func (.func 56) #[] #[]) #[a0, a1] fun v8 =>
  EqP false v8 (.pointer none) fun v10 =>
  Cnd v10 (KR (.int .i64 (-25)))
  (NilC v8 fun v12 =>
  FA v12 64 fun v13 =>
  Ld1 v13 fun v14 =>
  BinI .sub v14 (.int .i64 1) fun v15 =>
  NilC v8 fun v16 =>
  FA v16 64 fun v17 =>
  St 1 v17 v15 fun _ =>
  NilC v8 fun v19 =>
  FA v19 64 fun v20 =>
  Ld1 v20 fun v21 =>
  BinI .eql v21 (.int .i64 0) fun v22 =>
  Cnd v22 (NilC a0 fun v24 =>
  FA v24 2 fun v25 =>
  Ld1 v25 fun v26 =>
  BinI .sub v26 (.int .i64 1) fun v27 =>
  NilC a0 fun v28 =>
  FA v28 2 fun v29 =>
  St 1 v29 v27 fun _ =>
  KR (.int .i64 0))
  (KR (.int .i64 0)))
theorem V.pages_Pool_Release_ok {a0 a1 : Value} {K : Value → WP} {w : World} (h : V.pages_Pool_Release a0 a1 K w) : Cl pg 66 #[a0, a1] K w :=
  cl_of pg_mixed Try.func66 (args := [a0, a1]) (by kernel_rfl) (by rw [show WF pg Try.f66 [a0, a1] K = V.pages_Pool_Release a0 a1 K from by kernel_rfl]; exact h)

def V.slices_IndexFunc_int_int (a0 a1 : Value) (KR : Value → WP) : WP :=
  LenS a0 fun v7 =>
  LoopC [(.int .i64 0), (.int .i64 0)] fun vK vs => AllE <|
  UN vs fun v4 vs =>
  UN vs fun v8 _ =>
  BinI .lss v8 v7 fun v9 =>
  Cnd v9 (IA 1 a0 v8 fun v14 =>
  Ld1 v14 fun v15 =>
  FnV pg a1 #[v15] fun v16 =>
  Cnd v16 (KR v8)
  (BinI .add v8 (.int .i64 1) fun v18 =>
  vK [v4, v18]))
  (KR (.int .i64 (-1)))
theorem V.slices_IndexFunc_int_int_ok {a0 a1 : Value} {K : Value → WP} {w : World} (h : V.slices_IndexFunc_int_int a0 a1 K w) : Cl pg 67 #[a0, a1] K w :=
  cl_of pg_mixed Try.func67 (args := [a0, a1]) (by kernel_rfl) (by rw [show WF pg Try.f67 [a0, a1] K = V.slices_IndexFunc_int_int a0 a1 K from by kernel_rfl]; exact h)

def V.num_Down (a0 a1 : Value) (KR : Value → WP) : WP :=
  BinI .lss a1 (.int .i64 1) fun v7 =>
  Grd v7 false (BinI .lss a0 (.int .i64 0) fun v10 =>
  Cnd v10 (KR (.tuple #[(.int .i64 0), (.bool false)]))
  (BinI .rem a0 a1 fun v15 =>
  BinI .sub a0 v15 fun v16 =>
  KR (.tuple #[v16, (.bool true)])))
  (KR (.tuple #[(.int .i64 0), (.bool false)]))
theorem V.num_Down_ok {a0 a1 : Value} {K : Value → WP} {w : World} (h : V.num_Down a0 a1 K w) : Cl pg 68 #[a0, a1] K w :=
  cl_of pg_mixed Try.func68 (args := [a0, a1]) (by kernel_rfl) (by rw [show WF pg Try.f68 [a0, a1] K = V.num_Down a0 a1 K from by kernel_rfl]; exact h)

def V.num_Add (a0 a1 : Value) (KR : Value → WP) : WP :=
  BinI .add a0 a1 fun v9 =>
  BinI .gtr v9 a0 fun v12 =>
  BinI .gtr a1 (.int .i64 0) fun v14 =>
  EqB true v12 v14 fun v15 =>
  Grd v15 true (BinI .neq a1 (.int .i64 0) fun v18 =>
  Cnd v18 (KR (.tuple #[(.int .i64 0), (.bool false)]))
  (KR (.tuple #[v9, (.bool true)])))
  (KR (.tuple #[v9, (.bool true)]))
theorem V.num_Add_ok {a0 a1 : Value} {K : Value → WP} {w : World} (h : V.num_Add a0 a1 K w) : Cl pg 69 #[a0, a1] K w :=
  cl_of pg_mixed Try.func69 (args := [a0, a1]) (by kernel_rfl) (by rw [show WF pg Try.f69 [a0, a1] K = V.num_Add a0 a1 K from by kernel_rfl]; exact h)

def V.slices_ContainsFunc_int_int (a0 a1 : Value) (KR : Value → WP) : WP :=
  FnV pg (.func (.func 67) #[] #[]) #[a0, a1] fun v7 =>
  BinI .geq v7 (.int .i64 0) fun v8 =>
  KR v8
theorem V.slices_ContainsFunc_int_int_ok {a0 a1 : Value} {K : Value → WP} {w : World} (h : V.slices_ContainsFunc_int_int a0 a1 K w) : Cl pg 70 #[a0, a1] K w :=
  cl_of pg_mixed Try.func70 (args := [a0, a1]) (by kernel_rfl) (by rw [show WF pg Try.f70 [a0, a1] K = V.slices_ContainsFunc_int_int a0 a1 K from by kernel_rfl]; exact h)

def V.region_pages_c1 (a0 : Value) (KR : Value → WP) : WP :=
  BinI .lss a0 (.int .i64 0) fun v4 =>
  Grd v4 false (BinI .rem a0 (.int .i64 64) fun v7 =>
  BinI .neq v7 (.int .i64 0) fun v8 =>
  KR v8)
  (KR (.bool true))
theorem V.region_pages_c1_ok {a0 : Value} {K : Value → WP} {w : World} (h : V.region_pages_c1 a0 K w) : Cl pg 71 #[a0] K w :=
  cl_of pg_mixed Try.func71 (args := [a0]) (by kernel_rfl) (by rw [show WF pg Try.f71 [a0] K = V.region_pages_c1 a0 K from by kernel_rfl]; exact h)

def V.region_Region_over_c1 (a0 a1 a2 a3 : Value) (KR : Value → WP) : WP :=
  Ld1 a1 fun v7 =>
  NilC v7 fun v8 =>
  FA v8 2 fun v9 =>
  Ld1 v9 fun v10 =>
  LenS v10 fun v11 =>
  LoopC [(.int .i64 0)] fun vK vs => AllE <|
  UN vs fun v12 _ =>
  BinI .lss v12 v11 fun v13 =>
  Cnd v13 (IA 5 v10 v12 fun v15 =>
  LdN 5 v15 fun v16 =>
  New 72 #[(.int .i64 0), (.int .i64 0), (.int .i64 0), (.int .i64 0), (.int .i64 0)] fun v6 =>
  St 5 v6 v16 fun _ =>
  FA v6 0 fun v17 =>
  Ld1 v17 fun v18 =>
  FA v6 1 fun v19 =>
  Ld1 v19 fun v20 =>
  Ld1 a2 fun v21 =>
  Ld1 a3 fun v22 =>
  FnV pg (.func (.func 73) #[] #[]) #[v18, v20, v21, v22] fun v23 =>
  Grd v23 true (LdN 5 v6 fun v27 =>
  FnV pg a0 #[v12, v27] fun v28 =>
  Un .not v28 fun v29 =>
  Cnd v29 (KR (.tuple #[]))
  (BinI .add v12 (.int .i64 1) fun v31 =>
  vK [v31]))
  (BinI .add v12 (.int .i64 1) fun v31_1 =>
  vK [v31_1]))
  (KR (.tuple #[]))
theorem V.region_Region_over_c1_ok {a0 a1 a2 a3 : Value} {K : Value → WP} {w : World} (h : V.region_Region_over_c1 a0 a1 a2 a3 K w) : Cl pg 72 #[a0, a1, a2, a3] K w :=
  cl_of pg_mixed Try.func72 (args := [a0, a1, a2, a3]) (by kernel_rfl) (by rw [show WF pg Try.f72 [a0, a1, a2, a3] K = V.region_Region_over_c1 a0 a1 a2 a3 K from by kernel_rfl]; exact h)

def V.num_Overlap (a0 a1 a2 a3 : Value) (KR : Value → WP) : WP :=
  Ex pg (Builtin.min_ #[3, 3, 3, 3] 3 #[a0, a1, a2, a3]) fun v13 =>
  BinI .lss v13 (.int .i64 0) fun v14 =>
  Grd v14 false (BinI .eql a1 (.int .i64 0) fun v17 =>
  Grd v17 false (BinI .eql a3 (.int .i64 0) fun v21 =>
  Cnd v21 (KR (.bool false))
  (BinI .leq a0 a2 fun v25 =>
  Cnd v25 (BinI .sub a2 a0 fun v28 =>
  BinI .lss v28 a1 fun v30 =>
  KR v30)
  (BinI .sub a0 a2 fun v33 =>
  BinI .lss v33 a3 fun v35 =>
  KR v35)))
  (KR (.bool false)))
  (KR (.bool false))
theorem V.num_Overlap_ok {a0 a1 a2 a3 : Value} {K : Value → WP} {w : World} (h : V.num_Overlap a0 a1 a2 a3 K w) : Cl pg 73 #[a0, a1, a2, a3] K w :=
  cl_of pg_mixed Try.func73 (args := [a0, a1, a2, a3]) (by kernel_rfl) (by rw [show WF pg Try.f73 [a0, a1, a2, a3] K = V.num_Overlap a0 a1 a2 a3 K from by kernel_rfl]; exact h)

def V.cmp_isNaN_int (a0 : Value) (KR : Value → WP) : WP :=
  BinI .neq a0 a0 fun v5 =>
  KR v5
theorem V.cmp_isNaN_int_ok {a0 : Value} {K : Value → WP} {w : World} (h : V.cmp_isNaN_int a0 K w) : Cl pg 74 #[a0] K w :=
  cl_of pg_mixed Try.func74 (args := [a0]) (by kernel_rfl) (by rw [show WF pg Try.f74 [a0] K = V.cmp_isNaN_int a0 K from by kernel_rfl]; exact h)

def V.slices_rotateRight_Piece (a0 a1 : Value) (KR : Value → WP) : WP :=
  LenS a0 fun v6 =>
  BinI .sub v6 a1 fun v8 =>
  FnV pg (.func (.func 90) #[] #[]) #[a0, v8] fun _ =>
  KR (.tuple #[])
theorem V.slices_rotateRight_Piece_ok {a0 a1 : Value} {K : Value → WP} {w : World} (h : V.slices_rotateRight_Piece a0 a1 K w) : Cl pg 76 #[a0, a1] K w :=
  cl_of pg_mixed Try.func76 (args := [a0, a1]) (by kernel_rfl) (by rw [show WF pg Try.f76 [a0, a1] K = V.slices_rotateRight_Piece a0 a1 K from by kernel_rfl]; exact h)

def V.region_Piece_part (a0 a1 a2 : Value) (KR : Value → WP) : WP :=
  New 72 (Value.cells a0) fun v3 =>
  New 72 #[(.int .i64 0), (.int .i64 0), (.int .i64 0), (.int .i64 0), (.int .i64 0)] fun v6 =>
  Drw <| JoinC (fun vs => AllE (UN vs fun v14 vs =>
  UN vs fun v1 _ =>
  FA v3 3 fun v15 =>
  Ld1 v15 fun v16 =>
  FA v3 0 fun v18 =>
  Ld1 v18 fun v19 =>
  BinI .sub v1 v19 fun v20 =>
  BinI .add v16 v20 fun v21 =>
  FA v3 3 fun v22 =>
  St 1 v22 v21 fun _ =>
  BinI .sub v14 v1 fun v26 =>
  FA v3 0 fun v27 =>
  St 1 v27 v1 fun _ =>
  FA v3 1 fun v28 =>
  St 1 v28 v26 fun _ =>
  LdN 5 v3 fun v29 =>
  St 5 v6 v29 fun _ =>
  LdN 5 v6 fun vr =>
  KR vr))
  fun vK =>
  QtC fun I =>
  QE I (fun KK => FA v3 0 fun v8 =>
  KK v8) fun v8_1 =>
  QE I (fun KK => Ld1 v8_1 fun v9 =>
  KK v9) fun v9_1 =>
  QE I (fun KK => Ex pg (Builtin.max_ #[3, 3] 3 #[a1, v9_1]) fun v10 =>
  KK v10) fun v10_1 =>
  QE I (fun KK => LdN 5 v3 fun v12 =>
  KK v12) fun v12_1 =>
  FnV pg (.func (.func 43) #[] #[]) #[v12_1] fun v13 =>
  CH I <|
  And2 (Ex pg (Builtin.min_ #[3, 3] 3 #[a2, v13]) fun v14_1 =>
  CH I <|
  vK [v14_1, v10_1])
  (Ex pg (Builtin.min_ #[3, 3] 3 #[a2, v13]) fun v14_2 =>
  CH I <|
  vK [v14_2, v10_1])
theorem V.region_Piece_part_ok {a0 a1 a2 : Value} {K : Value → WP} {w : World} (h : V.region_Piece_part a0 a1 a2 K w) : Cl pg 77 #[a0, a1, a2] K w :=
  cl_of pg_mixed Try.func77 (args := [a0, a1, a2]) (by kernel_rfl) (by rw [show WF pg Try.f77 [a0, a1, a2] K = V.region_Piece_part a0 a1 a2 K from by kernel_rfl]; exact h)

def V.pages_Pool_Users (a0 a1 : Value) (KR : Value → WP) : WP :=
  FnV pg (.func (.func 56) #[] #[]) #[a0, a1] fun v8 =>
  EqP true v8 (.pointer none) fun v10 =>
  Cnd v10 (NilC v8 fun v12 =>
  FA v12 64 fun v13 =>
  Ld1 v13 fun v14 =>
  KR v14)
  (KR (.int .i64 0))
theorem V.pages_Pool_Users_ok {a0 a1 : Value} {K : Value → WP} {w : World} (h : V.pages_Pool_Users a0 a1 K w) : Cl pg 78 #[a0, a1] K w :=
  cl_of pg_mixed Try.func78 (args := [a0, a1]) (by kernel_rfl) (by rw [show WF pg Try.f78 [a0, a1] K = V.pages_Pool_Users a0 a1 K from by kernel_rfl]; exact h)

def V.pages_Pool_Room (a0 : Value) (KR : Value → WP) : WP :=
  Drw <| QtC fun I =>
  QE I (fun KK => NilC a0 fun v4 =>
  KK v4) fun v4_1 =>
  QE I (fun KK => FA v4_1 1 fun v5 =>
  KK v5) fun v5_1 =>
  QE I (fun KK => Ld1 v5_1 fun v6 =>
  KK v6) fun v6_1 =>
  QE I (fun KK => NilC a0 fun v8 =>
  KK v8) fun v8_1 =>
  QE I (fun KK => FA v8_1 2 fun v9 =>
  KK v9) fun v9_1 =>
  QE I (fun KK => Ld1 v9_1 fun v10 =>
  KK v10) fun v10_1 =>
  BinI .sub v6_1 v10_1 fun v11 =>
  KR v11
theorem V.pages_Pool_Room_ok {a0 : Value} {K : Value → WP} {w : World} (h : V.pages_Pool_Room a0 K w) : Cl pg 79 #[a0] K w :=
  cl_of pg_mixed Try.func79 (args := [a0]) (by kernel_rfl) (by rw [show WF pg Try.f79 [a0] K = V.pages_Pool_Room a0 K from by kernel_rfl]; exact h)

def V.pages_Pool_Own (a0 a1 : Value) (KR : Value → WP) : WP :=
  FnV pg (.func (.func 56) #[] #[]) #[a0, a1] fun v12 =>
  EqP false v12 (.pointer none) fun v15 =>
  Cnd v15 (KR (.tuple #[(.int .i64 0), (.int .i64 (-25))]))
  (NilC v12 fun v18 =>
  FA v18 64 fun v19 =>
  Ld1 v19 fun v20 =>
  BinI .eql v20 (.int .i64 1) fun v21 =>
  Cnd v21 (KR (.tuple #[a1, (.int .i64 0)]))
  (NilC v12 fun v24 =>
  FA v24 0 fun v25 =>
  LdN 64 v25 fun v26 =>
  New 111 #[(.int .u8 0), (.int .u8 0), (.int .u8 0), (.int .u8 0), (.int .u8 0), (.int .u8 0), (.int .u8 0), (.int .u8 0), (.int .u8 0), (.int .u8 0), (.int .u8 0), (.int .u8 0), (.int .u8 0), (.int .u8 0), (.int .u8 0), (.int .u8 0), (.int .u8 0), (.int .u8 0), (.int .u8 0), (.int .u8 0), (.int .u8 0), (.int .u8 0), (.int .u8 0), (.int .u8 0), (.int .u8 0), (.int .u8 0), (.int .u8 0), (.int .u8 0), (.int .u8 0), (.int .u8 0), (.int .u8 0), (.int .u8 0), (.int .u8 0), (.int .u8 0), (.int .u8 0), (.int .u8 0), (.int .u8 0), (.int .u8 0), (.int .u8 0), (.int .u8 0), (.int .u8 0), (.int .u8 0), (.int .u8 0), (.int .u8 0), (.int .u8 0), (.int .u8 0), (.int .u8 0), (.int .u8 0), (.int .u8 0), (.int .u8 0), (.int .u8 0), (.int .u8 0), (.int .u8 0), (.int .u8 0), (.int .u8 0), (.int .u8 0), (.int .u8 0), (.int .u8 0), (.int .u8 0), (.int .u8 0), (.int .u8 0), (.int .u8 0), (.int .u8 0), (.int .u8 0)] fun v7 =>
  St 64 v7 v26 fun _ =>
  FnV pg (.func (.func 81) #[] #[]) #[a0] fun v29 =>
  Ext v29 0 fun v30 =>
  Ext v29 1 fun v31 =>
  BinI .neq v31 (.int .i64 0) fun v33 =>
  Cnd v33 (KR (.tuple #[(.int .i64 0), v31]))
  (Drw <| QtC fun I =>
  QE I (fun KK => NilC a0 fun v36 =>
  KK v36) fun v36_1 =>
  QE I (fun KK => FA v36_1 0 fun v37 =>
  KK v37) fun v37_1 =>
  QE I (fun KK => Ld1 v37_1 fun v38 =>
  KK v38) fun v38_1 =>
  QE I (fun KK => LdN 64 v7 fun v40 =>
  KK v40) fun v40_1 =>
  IA 65 v38_1 v30 fun v41 =>
  FA v41 0 fun v42 =>
  St 64 v42 v40_1 fun _ =>
  NilC a0 fun v44 =>
  FA v44 0 fun v45 =>
  Ld1 v45 fun v46 =>
  IA 65 v46 a1 fun v48 =>
  FA v48 64 fun v49 =>
  Ld1 v49 fun v50 =>
  BinI .sub v50 (.int .i64 1) fun v51 =>
  IA 65 v46 a1 fun v52 =>
  FA v52 64 fun v53 =>
  St 1 v53 v51 fun _ =>
  KR (.tuple #[v30, (.int .i64 0)]))))
theorem V.pages_Pool_Own_ok {a0 a1 : Value} {K : Value → WP} {w : World} (h : V.pages_Pool_Own a0 a1 K w) : Cl pg 80 #[a0, a1] K w :=
  cl_of pg_mixed Try.func80 (args := [a0, a1]) (by kernel_rfl) (by rw [show WF pg Try.f80 [a0, a1] K = V.pages_Pool_Own a0 a1 K from by kernel_rfl]; exact h)

def V.pages_Pool_Alloc (a0 : Value) (KR : Value → WP) : WP :=
  Drw <| QtC fun I =>
  QE I (fun KK => NilC a0 fun v5 =>
  KK v5) fun v5_1 =>
  QE I (fun KK => FA v5_1 2 fun v6 =>
  KK v6) fun v6_1 =>
  QE I (fun KK => Ld1 v6_1 fun v7 =>
  KK v7) fun v7_1 =>
  QE I (fun KK => NilC a0 fun v9 =>
  KK v9) fun v9_1 =>
  QE I (fun KK => FA v9_1 1 fun v10 =>
  KK v10) fun v10_1 =>
  QE I (fun KK => Ld1 v10_1 fun v11 =>
  KK v11) fun v11_1 =>
  BinI .eql v7_1 v11_1 fun v12 =>
  Cnd v12 (KR (.tuple #[(.int .i64 0), (.int .i64 (-4))]))
  (NilC a0 fun v14 =>
  FA v14 0 fun v15 =>
  Ld1 v15 fun v16 =>
  FnV pg (.func (.func 91) #[] #[]) #[v16, (.func (.func 92) #[] #[])] fun v17 =>
  JoinC (fun vs => AllE (UN vs fun v2 _ =>
  NilC a0 fun v36 =>
  FA v36 0 fun v37 =>
  Ld1 v37 fun v38 =>
  Ex pg (bldS #[(.int .u8 0), (.int .u8 0), (.int .u8 0), (.int .u8 0), (.int .u8 0), (.int .u8 0), (.int .u8 0), (.int .u8 0), (.int .u8 0), (.int .u8 0), (.int .u8 0), (.int .u8 0), (.int .u8 0), (.int .u8 0), (.int .u8 0), (.int .u8 0), (.int .u8 0), (.int .u8 0), (.int .u8 0), (.int .u8 0), (.int .u8 0), (.int .u8 0), (.int .u8 0), (.int .u8 0), (.int .u8 0), (.int .u8 0), (.int .u8 0), (.int .u8 0), (.int .u8 0), (.int .u8 0), (.int .u8 0), (.int .u8 0), (.int .u8 0), (.int .u8 0), (.int .u8 0), (.int .u8 0), (.int .u8 0), (.int .u8 0), (.int .u8 0), (.int .u8 0), (.int .u8 0), (.int .u8 0), (.int .u8 0), (.int .u8 0), (.int .u8 0), (.int .u8 0), (.int .u8 0), (.int .u8 0), (.int .u8 0), (.int .u8 0), (.int .u8 0), (.int .u8 0), (.int .u8 0), (.int .u8 0), (.int .u8 0), (.int .u8 0), (.int .u8 0), (.int .u8 0), (.int .u8 0), (.int .u8 0), (.int .u8 0), (.int .u8 0), (.int .u8 0), (.int .u8 0), (.int .i64 0)] [(0, 64), (64, 1)] #[(1, (.int .i64 1))]) fun v40 =>
  IA 65 v38 v2 fun v41 =>
  St 65 v41 v40 fun _ =>
  NilC a0 fun v43 =>
  FA v43 2 fun v44 =>
  Ld1 v44 fun v45 =>
  BinI .add v45 (.int .i64 1) fun v46 =>
  NilC a0 fun v47 =>
  FA v47 2 fun v48 =>
  St 1 v48 v46 fun _ =>
  KR (.tuple #[v2, (.int .i64 0)])))
  fun vK =>
  BinI .lss v17 (.int .i64 0) fun v19 =>
  Cnd v19 (NilC a0 fun v21 =>
  FA v21 0 fun v22 =>
  Ld1 v22 fun v23 =>
  LenS v23 fun v24 =>
  NilC a0 fun v27 =>
  FA v27 0 fun v28 =>
  Ld1 v28 fun v29 =>
  Ex pg (bldS #[(.int .u8 0), (.int .u8 0), (.int .u8 0), (.int .u8 0), (.int .u8 0), (.int .u8 0), (.int .u8 0), (.int .u8 0), (.int .u8 0), (.int .u8 0), (.int .u8 0), (.int .u8 0), (.int .u8 0), (.int .u8 0), (.int .u8 0), (.int .u8 0), (.int .u8 0), (.int .u8 0), (.int .u8 0), (.int .u8 0), (.int .u8 0), (.int .u8 0), (.int .u8 0), (.int .u8 0), (.int .u8 0), (.int .u8 0), (.int .u8 0), (.int .u8 0), (.int .u8 0), (.int .u8 0), (.int .u8 0), (.int .u8 0), (.int .u8 0), (.int .u8 0), (.int .u8 0), (.int .u8 0), (.int .u8 0), (.int .u8 0), (.int .u8 0), (.int .u8 0), (.int .u8 0), (.int .u8 0), (.int .u8 0), (.int .u8 0), (.int .u8 0), (.int .u8 0), (.int .u8 0), (.int .u8 0), (.int .u8 0), (.int .u8 0), (.int .u8 0), (.int .u8 0), (.int .u8 0), (.int .u8 0), (.int .u8 0), (.int .u8 0), (.int .u8 0), (.int .u8 0), (.int .u8 0), (.int .u8 0), (.int .u8 0), (.int .u8 0), (.int .u8 0), (.int .u8 0), (.int .i64 0)] [(0, 64), (64, 1)] #[]) fun v30 =>
  BSlC 113 65 #[(.int .u8 0), (.int .u8 0), (.int .u8 0), (.int .u8 0), (.int .u8 0), (.int .u8 0), (.int .u8 0), (.int .u8 0), (.int .u8 0), (.int .u8 0), (.int .u8 0), (.int .u8 0), (.int .u8 0), (.int .u8 0), (.int .u8 0), (.int .u8 0), (.int .u8 0), (.int .u8 0), (.int .u8 0), (.int .u8 0), (.int .u8 0), (.int .u8 0), (.int .u8 0), (.int .u8 0), (.int .u8 0), (.int .u8 0), (.int .u8 0), (.int .u8 0), (.int .u8 0), (.int .u8 0), (.int .u8 0), (.int .u8 0), (.int .u8 0), (.int .u8 0), (.int .u8 0), (.int .u8 0), (.int .u8 0), (.int .u8 0), (.int .u8 0), (.int .u8 0), (.int .u8 0), (.int .u8 0), (.int .u8 0), (.int .u8 0), (.int .u8 0), (.int .u8 0), (.int .u8 0), (.int .u8 0), (.int .u8 0), (.int .u8 0), (.int .u8 0), (.int .u8 0), (.int .u8 0), (.int .u8 0), (.int .u8 0), (.int .u8 0), (.int .u8 0), (.int .u8 0), (.int .u8 0), (.int .u8 0), (.int .u8 0), (.int .u8 0), (.int .u8 0), (.int .u8 0), (.int .i64 0)] 1 #[(0, v30)] fun v31 =>
  AppC 113 65 72 #[(.int .u8 0), (.int .u8 0), (.int .u8 0), (.int .u8 0), (.int .u8 0), (.int .u8 0), (.int .u8 0), (.int .u8 0), (.int .u8 0), (.int .u8 0), (.int .u8 0), (.int .u8 0), (.int .u8 0), (.int .u8 0), (.int .u8 0), (.int .u8 0), (.int .u8 0), (.int .u8 0), (.int .u8 0), (.int .u8 0), (.int .u8 0), (.int .u8 0), (.int .u8 0), (.int .u8 0), (.int .u8 0), (.int .u8 0), (.int .u8 0), (.int .u8 0), (.int .u8 0), (.int .u8 0), (.int .u8 0), (.int .u8 0), (.int .u8 0), (.int .u8 0), (.int .u8 0), (.int .u8 0), (.int .u8 0), (.int .u8 0), (.int .u8 0), (.int .u8 0), (.int .u8 0), (.int .u8 0), (.int .u8 0), (.int .u8 0), (.int .u8 0), (.int .u8 0), (.int .u8 0), (.int .u8 0), (.int .u8 0), (.int .u8 0), (.int .u8 0), (.int .u8 0), (.int .u8 0), (.int .u8 0), (.int .u8 0), (.int .u8 0), (.int .u8 0), (.int .u8 0), (.int .u8 0), (.int .u8 0), (.int .u8 0), (.int .u8 0), (.int .u8 0), (.int .u8 0), (.int .i64 0)] v29 v31 fun v32 =>
  NilC a0 fun v33 =>
  FA v33 0 fun v34 =>
  St 1 v34 v32 fun _ =>
  vK [v24])
  (vK [v17]))
theorem V.pages_Pool_Alloc_ok {a0 : Value} {K : Value → WP} {w : World} (h : V.pages_Pool_Alloc a0 K w) : Cl pg 81 #[a0] K w :=
  cl_of pg_mixed Try.func81 (args := [a0]) (by kernel_rfl) (by rw [show WF pg Try.f81 [a0] K = V.pages_Pool_Alloc a0 K from by kernel_rfl]; exact h)

def V.num_Pages (a0 a1 : Value) (KR : Value → WP) : WP :=
  FnV pg (.func (.func 69) #[] #[]) #[a0, a1] fun v12 =>
  Ext v12 0 fun v13 =>
  Ext v12 1 fun v14 =>
  BinI .lss a0 (.int .i64 0) fun v16 =>
  Grd v16 false (BinI .lss a1 (.int .i64 0) fun v19 =>
  Grd v19 false (Un .not v14 fun v23 =>
  Cnd v23 (KR (.tuple #[(.int .i64 0), (.int .i64 0), (.bool false)]))
  (BinI .quo a0 (.int .i64 64) fun v26 =>
  BinI .eql a1 (.int .i64 0) fun v28 =>
  Cnd v28 (KR (.tuple #[v26, (.int .i64 0), (.bool true)]))
  (BinI .sub v13 (.int .i64 1) fun v32 =>
  BinI .quo v32 (.int .i64 64) fun v33 =>
  BinI .sub v33 v26 fun v35 =>
  BinI .add v35 (.int .i64 1) fun v36 =>
  KR (.tuple #[v26, v36, (.bool true)]))))
  (KR (.tuple #[(.int .i64 0), (.int .i64 0), (.bool false)])))
  (KR (.tuple #[(.int .i64 0), (.int .i64 0), (.bool false)]))
theorem V.num_Pages_ok {a0 a1 : Value} {K : Value → WP} {w : World} (h : V.num_Pages a0 a1 K w) : Cl pg 82 #[a0, a1] K w :=
  cl_of pg_mixed Try.func82 (args := [a0, a1]) (by kernel_rfl) (by rw [show WF pg Try.f82 [a0, a1] K = V.num_Pages a0 a1 K from by kernel_rfl]; exact h)

def V.pages_Pool_Write (a0 a1 a2 a3 : Value) (KR : Value → WP) : WP :=
  FnV pg (.func (.func 56) #[] #[]) #[a0, a1] fun v12 =>
  EqP false v12 (.pointer none) fun v15 =>
  Cnd v15 (KR (.int .i64 (-25)))
  (LenS a3 fun v19 =>
  FnV pg (.func (.func 26) #[] #[]) #[a2, v19, (.int .i64 64)] fun v20 =>
  Un .not v20 fun v21 =>
  Cnd v21 (KR (.int .i64 (-14)))
  (NilC v12 fun v24 =>
  FA v24 64 fun v25 =>
  Ld1 v25 fun v26 =>
  BinI .gtr v26 (.int .i64 1) fun v27 =>
  Cnd v27 (KR (.int .i64 (-20)))
  (NilC v12 fun v29 =>
  FA v29 0 fun v30 =>
  Ex pg (Instr.sliceAt 111 v30 (some a2) none none) fun v32 =>
  Ex pg (Builtin.copy_ #[36, 36] 3 #[v32, a3]) fun _ =>
  KR (.int .i64 0))))
theorem V.pages_Pool_Write_ok {a0 a1 a2 a3 : Value} {K : Value → WP} {w : World} (h : V.pages_Pool_Write a0 a1 a2 a3 K w) : Cl pg 83 #[a0, a1, a2, a3] K w :=
  cl_of pg_mixed Try.func83 (args := [a0, a1, a2, a3]) (by kernel_rfl) (by rw [show WF pg Try.f83 [a0, a1, a2, a3] K = V.pages_Pool_Write a0 a1 a2 a3 K from by kernel_rfl]; exact h)

def V.slices_Collect_Piece (a0 : Value) (KR : Value → WP) : WP :=
  FnV pg (.func (.func 93) #[] #[]) #[(.slice none 0 0), a0] fun v4 =>
  KR v4
theorem V.slices_Collect_Piece_ok {a0 : Value} {K : Value → WP} {w : World} (h : V.slices_Collect_Piece a0 K w) : Cl pg 84 #[a0] K w :=
  cl_of pg_mixed Try.func84 (args := [a0]) (by kernel_rfl) (by rw [show WF pg Try.f84 [a0] K = V.slices_Collect_Piece a0 K from by kernel_rfl]; exact h)

def V.slices_SortFunc_Piece_Piece (a0 a1 : Value) (KR : Value → WP) : WP :=
  LenS a0 fun v6 =>
  ConvI .u64 v6 fun v10 =>
  FnV pg (.func (.func 89) #[] #[]) #[v10] fun v11 =>
  FnV pg (.func (.func 94) #[] #[]) #[a0, (.int .i64 0), v6, v11, a1] fun _ =>
  KR (.tuple #[])
theorem V.slices_SortFunc_Piece_Piece_ok {a0 a1 : Value} {K : Value → WP} {w : World} (h : V.slices_SortFunc_Piece_Piece a0 a1 K w) : Cl pg 85 #[a0, a1] K w :=
  cl_of pg_mixed Try.func85 (args := [a0, a1]) (by kernel_rfl) (by rw [show WF pg Try.f85 [a0, a1] K = V.slices_SortFunc_Piece_Piece a0 a1 K from by kernel_rfl]; exact h)

def V.slices_Values_c1_Piece_Piece (a0 a1 : Value) (KR : Value → WP) : WP :=
  Ld1 a1 fun v5 =>
  LenS v5 fun v6 =>
  LoopC [(.int .i64 0)] fun vK vs => AllE <|
  UN vs fun v7 _ =>
  BinI .lss v7 v6 fun v8 =>
  Cnd v8 (IA 5 v5 v7 fun v9 =>
  LdN 5 v9 fun v10 =>
  New 72 #[(.int .i64 0), (.int .i64 0), (.int .i64 0), (.int .i64 0), (.int .i64 0)] fun v4 =>
  St 5 v4 v10 fun _ =>
  LdN 5 v4 fun v12 =>
  FnV pg a0 #[v12] fun v13 =>
  Un .not v13 fun v14 =>
  Cnd v14 (KR (.tuple #[]))
  (BinI .add v7 (.int .i64 1) fun v15 =>
  vK [v15]))
  (KR (.tuple #[]))
theorem V.slices_Values_c1_Piece_Piece_ok {a0 a1 : Value} {K : Value → WP} {w : World} (h : V.slices_Values_c1_Piece_Piece a0 a1 K w) : Cl pg 86 #[a0, a1] K w :=
  cl_of pg_mixed Try.func86 (args := [a0, a1]) (by kernel_rfl) (by rw [show WF pg Try.f86 [a0, a1] K = V.slices_Values_c1_Piece_Piece a0 a1 K from by kernel_rfl]; exact h)

def V.slices_AppendSeq_int_int (a0 a1 : Value) (KR : Value → WP) : WP :=
  New 22 (Value.cells a0) fun v2 =>
  RF0 pg a1 (fun vl vs vK =>
  UN vs fun v7 vs =>
  UNe vs <|
  RBeg vl <|
  Ld1 v2 fun v8 =>
  BSlC 3 1 #[(.int .i64 0)] 1 #[(0, v7)] fun v10 =>
  AppC 3 1 8 #[(.int .i64 0)] v8 v10 fun v11 =>
  St 1 v2 v11 fun _ =>
  REnd vl none vK)
  fun vm vj =>
  JumpC vj (Ld1 v2 fun v12 =>
  LvC (.tuple #[vm]) <| KR v12)
  (LvC (.tuple #[vm]) <| KR (.slice none 0 0))
  (fun _ => fun _ => False)
theorem V.slices_AppendSeq_int_int_ok {a0 a1 : Value} {K : Value → WP} {w : World} (h : V.slices_AppendSeq_int_int a0 a1 K w) : Cl pg 87 #[a0, a1] K w :=
  cl_of pg_mixed Try.func87 (args := [a0, a1]) (by kernel_rfl) (by rw [show WF pg Try.f87 [a0, a1] K = V.slices_AppendSeq_int_int a0 a1 K from by kernel_rfl]; exact h)

def V.slices_rotateLeft_Piece (a0 a1 : Value) (KR : Value → WP) : WP :=
  SlC 5 a0 none (some a1) fun v6 =>
  FnV pg (.func (.func 106) #[] #[]) #[v6] fun _ =>
  SlC 5 a0 (some a1) none fun v10 =>
  FnV pg (.func (.func 106) #[] #[]) #[v10] fun _ =>
  FnV pg (.func (.func 106) #[] #[]) #[a0] fun _ =>
  KR (.tuple #[])
theorem V.slices_rotateLeft_Piece_ok {a0 a1 : Value} {K : Value → WP} {w : World} (h : V.slices_rotateLeft_Piece a0 a1 K w) : Cl pg 90 #[a0, a1] K w :=
  cl_of pg_mixed Try.func90 (args := [a0, a1]) (by kernel_rfl) (by rw [show WF pg Try.f90 [a0, a1] K = V.slices_rotateLeft_Piece a0 a1 K from by kernel_rfl]; exact h)

def V.slices_IndexFunc_frame_frame (a0 a1 : Value) (KR : Value → WP) : WP :=
  LenS a0 fun v7 =>
  LoopC [(.int .i64 0), (.int .i64 0)] fun vK vs => AllE <|
  UN vs fun v4 vs =>
  UN vs fun v8 _ =>
  BinI .lss v8 v7 fun v9 =>
  Cnd v9 (IA 65 a0 v8 fun v14 =>
  LdN 65 v14 fun v15 =>
  FnV pg a1 #[v15] fun v16 =>
  Cnd v16 (KR v8)
  (BinI .add v8 (.int .i64 1) fun v18 =>
  vK [v4, v18]))
  (KR (.int .i64 (-1)))
theorem V.slices_IndexFunc_frame_frame_ok {a0 a1 : Value} {K : Value → WP} {w : World} (h : V.slices_IndexFunc_frame_frame a0 a1 K w) : Cl pg 91 #[a0, a1] K w :=
  cl_of pg_mixed Try.func91 (args := [a0, a1]) (by kernel_rfl) (by rw [show WF pg Try.f91 [a0, a1] K = V.slices_IndexFunc_frame_frame a0 a1 K from by kernel_rfl]; exact h)

def V.pages_Pool_Alloc_c1 (a0 : Value) (KR : Value → WP) : WP :=
  New 113 (Value.cells a0) fun v1 =>
  FA v1 64 fun v3 =>
  Ld1 v3 fun v4 =>
  BinI .eql v4 (.int .i64 0) fun v5 =>
  KR v5
theorem V.pages_Pool_Alloc_c1_ok {a0 : Value} {K : Value → WP} {w : World} (h : V.pages_Pool_Alloc_c1 a0 K w) : Cl pg 92 #[a0] K w :=
  cl_of pg_mixed Try.func92 (args := [a0]) (by kernel_rfl) (by rw [show WF pg Try.f92 [a0] K = V.pages_Pool_Alloc_c1 a0 K from by kernel_rfl]; exact h)

def V.slices_AppendSeq_Piece_Piece (a0 a1 : Value) (KR : Value → WP) : WP :=
  New 33 (Value.cells a0) fun v2 =>
  RF0 pg a1 (fun vl vs vK =>
  UN vs fun v7 vs =>
  UNe vs <|
  New 72 #[(.int .i64 0), (.int .i64 0), (.int .i64 0), (.int .i64 0), (.int .i64 0)] fun v5 =>
  St 5 v5 v7 fun _ =>
  RBeg vl <|
  Ld1 v2 fun v8 =>
  LdN 5 v5 fun v9 =>
  BSlC 72 5 #[(.int .i64 0), (.int .i64 0), (.int .i64 0), (.int .i64 0), (.int .i64 0)] 1 #[(0, v9)] fun v10 =>
  AppC 72 5 40 #[(.int .i64 0), (.int .i64 0), (.int .i64 0), (.int .i64 0), (.int .i64 0)] v8 v10 fun v11 =>
  St 1 v2 v11 fun _ =>
  REnd vl none vK)
  fun vm vj =>
  JumpC vj (Ld1 v2 fun v12 =>
  LvC (.tuple #[vm]) <| KR v12)
  (LvC (.tuple #[vm]) <| KR (.slice none 0 0))
  (fun _ => fun _ => False)
theorem V.slices_AppendSeq_Piece_Piece_ok {a0 a1 : Value} {K : Value → WP} {w : World} (h : V.slices_AppendSeq_Piece_Piece a0 a1 K w) : Cl pg 93 #[a0, a1] K w :=
  cl_of pg_mixed Try.func93 (args := [a0, a1]) (by kernel_rfl) (by rw [show WF pg Try.f93 [a0, a1] K = V.slices_AppendSeq_Piece_Piece a0 a1 K from by kernel_rfl]; exact h)

def V.cmp_Less_int (a0 a1 : Value) (KR : Value → WP) : WP :=
  FnV pg (.func (.func 74) #[] #[]) #[a0] fun v6 =>
  Grd v6 true (FnV pg (.func (.func 74) #[] #[]) #[a1] fun v9 =>
  Un .not v9 fun v10 =>
  Grd v10 false (BinI .lss a0 a1 fun v15 =>
  KR v15)
  (KR (.bool true)))
  (BinI .lss a0 a1 fun v15_1 =>
  KR v15_1)
theorem V.cmp_Less_int_ok {a0 a1 : Value} {K : Value → WP} {w : World} (h : V.cmp_Less_int a0 a1 K w) : Cl pg 101 #[a0, a1] K w :=
  cl_of pg_mixed Try.func101 (args := [a0, a1]) (by kernel_rfl) (by rw [show WF pg Try.f101 [a0, a1] K = V.cmp_Less_int a0 a1 K from by kernel_rfl]; exact h)

def V.slices_Reverse_Piece_Piece (a0 : Value) (KR : Value → WP) : WP :=
  LenS a0 fun v5 =>
  BinI .sub v5 (.int .i64 1) fun v6 =>
  LoopC [(.int .i64 0), v6] fun vK vs => AllE <|
  UN vs fun v2 vs =>
  UN vs fun v3 _ =>
  BinI .lss v2 v3 fun v9 =>
  Cnd v9 (Drw <| QtC fun I =>
  QE I (fun KK => IA 5 a0 v3 fun v20 =>
  KK v20) fun v20_1 =>
  QE I (fun KK => LdN 5 v20_1 fun v21 =>
  KK v21) fun v21_1 =>
  QE I (fun KK => IA 5 a0 v2 fun v24 =>
  KK v24) fun v24_1 =>
  QE I (fun KK => LdN 5 v24_1 fun v25 =>
  KK v25) fun v25_1 =>
  QE I (fun KK => IA 5 a0 v2 fun v26 =>
  KK v26) fun v26_1 =>
  St 5 v26_1 v21_1 fun _ =>
  IA 5 a0 v3 fun v27 =>
  St 5 v27 v25_1 fun _ =>
  BinI .add v2 (.int .i64 1) fun v11 =>
  BinI .sub v3 (.int .i64 1) fun v13 =>
  vK [v11, v13])
  (KR (.tuple #[]))
theorem V.slices_Reverse_Piece_Piece_ok {a0 : Value} {K : Value → WP} {w : World} (h : V.slices_Reverse_Piece_Piece a0 K w) : Cl pg 106 #[a0] K w :=
  cl_of pg_mixed Try.func106 (args := [a0]) (by kernel_rfl) (by rw [show WF pg Try.f106 [a0] K = V.slices_Reverse_Piece_Piece a0 K from by kernel_rfl]; exact h)
end Go.Proofs.Ytgkbbihaaichbaa
