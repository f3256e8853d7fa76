/- What each function asks, printed by a program of this session's own; each is checked against the code. -/
import Derived.Test.YtbbenmflickapaaDoorBj
import Derived.Test.YtbbenmflickapaaDoorProg
set_option maxRecDepth 100000
namespace Go.Proofs.YtbbenmflickapaaDoor
open Go Go.Jac
noncomputable abbrev pg : Program := Tryd.prog
theorem pg_mixed : pg.follows .mixedOrders = true := by kernel_rfl
def V.gosem_cut_init (KR : Value → WP) : WP :=
  FnV pg (.func (.func 1) #[] #[]) #[] fun _ =>
  KR (.tuple #[])
theorem V.gosem_cut_init_ok {K : Value → WP} {w : World} (h : V.gosem_cut_init  K w) : Cl pg 2 #[] K w :=
  cl_of pg_mixed Tryd.func2 (args := []) (by kernel_rfl) (by rw [show WF pg Tryd.f2 [] K = V.gosem_cut_init  K from by kernel_rfl]; exact h)

def V.jacinthlaw18_ObjectChain (a0 a1 : Value) (KR : Value → WP) : WP :=
  FnV pg (.func (.func 7) #[] #[]) #[(.int .i64 100)] fun v12 =>
  EqP false v12 (.pointer none) fun v14 =>
  Grd v14 false (BinI .lss a0 (.int .i64 1) fun v17 =>
  Grd v17 false (BinI .gtr a0 (.int .i64 60) fun v21 =>
  Grd v21 false (BinI .lss a1 (.int .i64 0) fun v25 =>
  Grd v25 false (BinI .gtr a1 a0 fun v30 =>
  Cnd v30 (EqP true v12 (.pointer none) fun v33 =>
  Grd v33 true (FnV pg (.func (.func 8) #[] #[]) #[] fun v35 =>
  KR v35)
  (KR (.bool false)))
  (LoopC [(.int .i64 0)] fun vK vs => AllE <|
  UN vs fun v38 _ =>
  BinI .lss v38 a0 fun v39 =>
  Cnd v39 (FnV pg (.func (.func 9) #[] #[]) #[v12, (.int .i64 7)] fun _ =>
  BinI .add v38 (.int .i64 1) fun v42 =>
  vK [v42])
  (BinI .gtr a1 (.int .i64 1) fun v44 =>
  Grd v44 true (FnV pg (.func (.func 10) #[] #[]) #[v12, a1] fun v48 =>
  BinI .neq v48 (.int .i64 0) fun v49 =>
  Cnd v49 (KR (.bool false))
  (LoopC [(.bool false), a0] fun vK_1 vs => AllE <|
  UN vs fun v4 vs =>
  UN vs fun v6 _ =>
  BinI .gtr v6 (.int .i64 1) fun v53 =>
  Cnd v53 (BinI .sub v6 (.int .i64 1) fun v58 =>
  BSlC 3 1 #[(.int .i64 0)] 1 #[(0, v6)] fun v60 =>
  FnV pg (.func (.func 11) #[] #[]) #[v12, v58, v60] fun v61 =>
  BinI .neq v61 (.int .i64 0) fun v62 =>
  Cnd v62 (KR (.bool false))
  (BinI .sub v6 (.int .i64 1) fun v55 =>
  vK_1 [v4, v55]))
  (BSlC 3 1 #[(.int .i64 0)] 1 #[(0, (.int .i64 1))] fun v65 =>
  FnV pg (.func (.func 12) #[] #[]) #[v12, v65] fun v66 =>
  Ext v66 0 fun v67 =>
  Ext v66 1 fun v68 =>
  JoinC (fun vs => AllE (UN vs fun v9 _ =>
  BinI .neq v68 (.int .i64 0) fun v75 =>
  Grd v75 false (LenS v67 fun v78 =>
  BinI .neq v78 v9 fun v80 =>
  Grd v80 false (FnV pg (.func (.func 13) #[] #[]) #[v12] fun v84 =>
  BinI .sub a0 v9 fun v87 =>
  BinI .neq v84 v87 fun v88 =>
  Cnd v88 (KR (.bool false))
  (LenS v67 fun v91 =>
  LoopC [v4, (.int .i64 0)] fun vK_2 vs => AllE <|
  UN vs fun v4_1 vs =>
  UN vs fun v92 _ =>
  BinI .lss v92 v91 fun v93 =>
  Cnd v93 (IA 3 v67 v92 fun v95 =>
  LdN 3 v95 fun v96 =>
  New 36 #[(.int .i64 0), (.bool false), (.int .i64 0)] fun v11 =>
  St 3 v11 v96 fun _ =>
  FA v11 0 fun v97 =>
  Ld1 v97 fun v98 =>
  BinI .add v92 (.int .i64 1) fun v100 =>
  BinI .neq v98 v100 fun v101 =>
  Grd v101 false (FA v11 1 fun v103 =>
  Ld1 v103 fun v104 =>
  Un .not v104 fun v105 =>
  Cnd v105 (KR (.bool false))
  (BinI .add v92 (.int .i64 1) fun v107 =>
  vK_2 [v4_1, v107]))
  (KR (.bool false)))
  (FnV pg (.func (.func 8) #[] #[]) #[] fun v108 =>
  KR v108)))
  (KR (.bool false)))
  (KR (.bool false))))
  fun vK_3 =>
  BinI .gtr a1 (.int .i64 1) fun v71 =>
  Cnd v71 (BinI .sub a1 (.int .i64 1) fun v73 =>
  vK_3 [v73])
  (vK_3 [a0]))))
  (LoopC [(.bool false), a0] fun vK_4 vs => AllE <|
  UN vs fun v4_2 vs =>
  UN vs fun v6_1 _ =>
  BinI .gtr v6_1 (.int .i64 1) fun v53_1 =>
  Cnd v53_1 (BinI .sub v6_1 (.int .i64 1) fun v58_1 =>
  BSlC 3 1 #[(.int .i64 0)] 1 #[(0, v6_1)] fun v60_1 =>
  FnV pg (.func (.func 11) #[] #[]) #[v12, v58_1, v60_1] fun v61_1 =>
  BinI .neq v61_1 (.int .i64 0) fun v62_1 =>
  Cnd v62_1 (KR (.bool false))
  (BinI .sub v6_1 (.int .i64 1) fun v55_1 =>
  vK_4 [v4_2, v55_1]))
  (BSlC 3 1 #[(.int .i64 0)] 1 #[(0, (.int .i64 1))] fun v65_1 =>
  FnV pg (.func (.func 12) #[] #[]) #[v12, v65_1] fun v66_1 =>
  Ext v66_1 0 fun v67_1 =>
  Ext v66_1 1 fun v68_1 =>
  JoinC (fun vs => AllE (UN vs fun v9_1 _ =>
  BinI .neq v68_1 (.int .i64 0) fun v75_1 =>
  Grd v75_1 false (LenS v67_1 fun v78_1 =>
  BinI .neq v78_1 v9_1 fun v80_1 =>
  Grd v80_1 false (FnV pg (.func (.func 13) #[] #[]) #[v12] fun v84_1 =>
  BinI .sub a0 v9_1 fun v87_1 =>
  BinI .neq v84_1 v87_1 fun v88_1 =>
  Cnd v88_1 (KR (.bool false))
  (LenS v67_1 fun v91_1 =>
  LoopC [v4_2, (.int .i64 0)] fun vK_5 vs => AllE <|
  UN vs fun v4_3 vs =>
  UN vs fun v92_1 _ =>
  BinI .lss v92_1 v91_1 fun v93_1 =>
  Cnd v93_1 (IA 3 v67_1 v92_1 fun v95_1 =>
  LdN 3 v95_1 fun v96_1 =>
  New 36 #[(.int .i64 0), (.bool false), (.int .i64 0)] fun v11_1 =>
  St 3 v11_1 v96_1 fun _ =>
  FA v11_1 0 fun v97_1 =>
  Ld1 v97_1 fun v98_1 =>
  BinI .add v92_1 (.int .i64 1) fun v100_1 =>
  BinI .neq v98_1 v100_1 fun v101_1 =>
  Grd v101_1 false (FA v11_1 1 fun v103_1 =>
  Ld1 v103_1 fun v104_1 =>
  Un .not v104_1 fun v105_1 =>
  Cnd v105_1 (KR (.bool false))
  (BinI .add v92_1 (.int .i64 1) fun v107_1 =>
  vK_5 [v4_3, v107_1]))
  (KR (.bool false)))
  (FnV pg (.func (.func 8) #[] #[]) #[] fun v108_1 =>
  KR v108_1)))
  (KR (.bool false)))
  (KR (.bool false))))
  fun vK_6 =>
  BinI .gtr a1 (.int .i64 1) fun v71_1 =>
  Cnd v71_1 (BinI .sub a1 (.int .i64 1) fun v73_1 =>
  vK_6 [v73_1])
  (vK_6 [a0]))))))
  (EqP true v12 (.pointer none) fun v33_1 =>
  Grd v33_1 true (FnV pg (.func (.func 8) #[] #[]) #[] fun v35_1 =>
  KR v35_1)
  (KR (.bool false))))
  (EqP true v12 (.pointer none) fun v33_2 =>
  Grd v33_2 true (FnV pg (.func (.func 8) #[] #[]) #[] fun v35_2 =>
  KR v35_2)
  (KR (.bool false))))
  (EqP true v12 (.pointer none) fun v33_3 =>
  Grd v33_3 true (FnV pg (.func (.func 8) #[] #[]) #[] fun v35_3 =>
  KR v35_3)
  (KR (.bool false))))
  (EqP true v12 (.pointer none) fun v33_4 =>
  Grd v33_4 true (FnV pg (.func (.func 8) #[] #[]) #[] fun v35_4 =>
  KR v35_4)
  (KR (.bool false)))
theorem V.jacinthlaw18_ObjectChain_ok {a0 a1 : Value} {K : Value → WP} {w : World} (h : V.jacinthlaw18_ObjectChain a0 a1 K w) : Cl pg 3 #[a0, a1] K w :=
  cl_of pg_mixed Tryd.func3 (args := [a0, a1]) (by kernel_rfl) (by rw [show WF pg Tryd.f3 [a0, a1] K = V.jacinthlaw18_ObjectChain a0 a1 K from by kernel_rfl]; exact h)

def V.jacinthlaw18_ObjectPeers (a0 a1 a2 : Value) (KR : Value → WP) : WP :=
  FnV pg (.func (.func 7) #[] #[]) #[(.int .i64 4)] fun v20 =>
  EqP false v20 (.pointer none) fun v22 =>
  Grd v22 false (BinI .lss a0 (.int .i64 1) fun v25 =>
  Grd v25 false (BinI .gtr a0 (.int .i64 11) fun v29 =>
  Cnd v29 (EqP true v20 (.pointer none) fun v32 =>
  Grd v32 true (FnV pg (.func (.func 8) #[] #[]) #[] fun v34 =>
  KR v34)
  (KR (.bool false)))
  (FnV pg (.func (.func 9) #[] #[]) #[v20, a0] fun v39 =>
  Ext v39 0 fun v40 =>
  Ext v39 1 fun _ =>
  FnV pg (.func (.func 9) #[] #[]) #[v20, a0] fun v45 =>
  Ext v45 0 fun v46 =>
  Ext v45 1 fun _ =>
  FnV pg (.func (.func 14) #[] #[]) #[v20, v40, v46] fun v51 =>
  BinI .neq v51 (.int .i64 0) fun v52 =>
  Cnd v52 (KR (.bool false))
  (JoinC (fun vs => AllE (UN vs fun v8 vs =>
  UN vs fun v10 _ =>
  BinI .andNot a1 (.int .i64 6) fun v60 =>
  FnV pg (.func (.func 15) #[] #[]) #[v20, v10, (.int .i64 6), v60] fun _ =>
  FnV pg (.func (.func 16) #[] #[]) #[v20, v10] fun v65 =>
  Ext v65 0 fun v66 =>
  Ext v65 1 fun _ =>
  New 41 #[(.int .i64 0), (.int .i64 0), (.int .i64 0), (.int .i64 0), (.int .i64 0), (.int .i64 0), (.int .i64 0)] fun v12 =>
  St 7 v12 v66 fun _ =>
  BSlC 3 1 #[(.int .i64 0)] 1 #[(0, v8)] fun v71 =>
  FnV pg (.func (.func 12) #[] #[]) #[v20, v71] fun v72 =>
  Ext v72 0 fun v73 =>
  Ext v72 1 fun v74 =>
  FnV pg (.func (.func 16) #[] #[]) #[v20, v10] fun v78 =>
  Ext v78 0 fun v79 =>
  Ext v78 1 fun v80 =>
  New 41 #[(.int .i64 0), (.int .i64 0), (.int .i64 0), (.int .i64 0), (.int .i64 0), (.int .i64 0), (.int .i64 0)] fun v16 =>
  St 7 v16 v79 fun _ =>
  Drw <| BinI .neq v74 (.int .i64 0) fun v82 =>
  Grd v82 false (LenS v73 fun v85 =>
  BinI .neq v85 (.int .i64 2) fun v86 =>
  QtC fun I =>
  Grd v86 false (QE I (fun KK => IA 3 v73 (.int .i64 0) fun v90 =>
  KK v90) fun v90_1 =>
  QE I (fun KK => FA v90_1 0 fun v91 =>
  KK v91) fun v91_1 =>
  QE I (fun KK => Ld1 v91_1 fun v92 =>
  KK v92) fun v92_1 =>
  BinI .neq v92_1 v8 fun v94 =>
  QtC fun I =>
  Grd v94 false (QE I (fun KK => IA 3 v73 (.int .i64 1) fun v98 =>
  KK v98) fun v98_1 =>
  QE I (fun KK => FA v98_1 0 fun v99 =>
  KK v99) fun v99_1 =>
  QE I (fun KK => Ld1 v99_1 fun v100 =>
  KK v100) fun v100_1 =>
  BinI .neq v100_1 v10 fun v102 =>
  QtC fun I =>
  Grd v102 false (QE I (fun KK => IA 3 v73 (.int .i64 1) fun v106 =>
  KK v106) fun v106_1 =>
  QE I (fun KK => FA v106_1 2 fun v107 =>
  KK v107) fun v107_1 =>
  QE I (fun KK => Ld1 v107_1 fun v108 =>
  KK v108) fun v108_1 =>
  QE I (fun KK => FA v12 6 fun v109 =>
  KK v109) fun v109_1 =>
  QE I (fun KK => Ld1 v109_1 fun v110 =>
  KK v110) fun v110_1 =>
  QE I (fun KK => BinI .or v110_1 (.int .i64 4) fun v111 =>
  KK v111) fun v111_1 =>
  BinI .neq v108_1 v111_1 fun v112 =>
  Grd v112 false (Un .not v80 fun v116 =>
  Grd v116 false (FA v16 1 fun v119 =>
  Ld1 v119 fun v120 =>
  BinI .neq v120 (.int .i64 0) fun v121 =>
  QtC fun I =>
  Grd v121 false (QE I (fun KK => FA v16 6 fun v124 =>
  KK v124) fun v124_1 =>
  QE I (fun KK => Ld1 v124_1 fun v125 =>
  KK v125) fun v125_1 =>
  QE I (fun KK => FA v12 6 fun v126 =>
  KK v126) fun v126_1 =>
  QE I (fun KK => Ld1 v126_1 fun v127 =>
  KK v127) fun v127_1 =>
  QE I (fun KK => BinI .or v127_1 (.int .i64 4) fun v128 =>
  KK v128) fun v128_1 =>
  BinI .neq v125_1 v128_1 fun v129 =>
  Cnd v129 (KR (.bool false))
  (BSlC 3 1 #[(.int .i64 0)] 1 #[(0, v10)] fun v134 =>
  FnV pg (.func (.func 12) #[] #[]) #[v20, v134] fun v135 =>
  Ext v135 0 fun v136 =>
  Ext v135 1 fun v137 =>
  BinI .eql v137 (.int .i64 0) fun v139 =>
  Grd v139 true (LenS v136 fun v142 =>
  BinI .eql v142 (.int .i64 1) fun v143 =>
  Grd v143 true (IA 3 v136 (.int .i64 0) fun v147 =>
  FA v147 1 fun v148 =>
  Ld1 v148 fun v149 =>
  Grd v149 true (FnV pg (.func (.func 13) #[] #[]) #[v20] fun v153 =>
  BinI .eql v153 (.int .i64 0) fun v154 =>
  Grd v154 true (FnV pg (.func (.func 8) #[] #[]) #[] fun v157 =>
  KR v157)
  (KR (.bool false)))
  (KR (.bool false)))
  (KR (.bool false)))
  (KR (.bool false))))
  (KR (.bool false)))
  (QtC fun _ =>
  KR (.bool false)))
  (QtC fun _ =>
  KR (.bool false)))
  (QtC fun _ =>
  KR (.bool false)))
  (QtC fun _ =>
  QtC fun _ =>
  KR (.bool false)))
  (QtC fun _ =>
  QtC fun _ =>
  QtC fun _ =>
  KR (.bool false)))
  (QtC fun _ =>
  QtC fun _ =>
  QtC fun _ =>
  QtC fun _ =>
  KR (.bool false))))
  fun vK =>
  Un .not a2 fun v54 =>
  Cnd v54 (vK [v46, v40])
  (vK [v40, v46]))))
  (EqP true v20 (.pointer none) fun v32_1 =>
  Grd v32_1 true (FnV pg (.func (.func 8) #[] #[]) #[] fun v34_1 =>
  KR v34_1)
  (KR (.bool false))))
  (EqP true v20 (.pointer none) fun v32_2 =>
  Grd v32_2 true (FnV pg (.func (.func 8) #[] #[]) #[] fun v34_2 =>
  KR v34_2)
  (KR (.bool false)))
theorem V.jacinthlaw18_ObjectPeers_ok {a0 a1 a2 : Value} {K : Value → WP} {w : World} (h : V.jacinthlaw18_ObjectPeers a0 a1 a2 K w) : Cl pg 4 #[a0, a1, a2] K w :=
  cl_of pg_mixed Tryd.func4 (args := [a0, a1, a2]) (by kernel_rfl) (by rw [show WF pg Tryd.f4 [a0, a1, a2] K = V.jacinthlaw18_ObjectPeers a0 a1 a2 K from by kernel_rfl]; exact h)

def V.jacinthlaw18_ObjectRefs (a0 a1 a2 : Value) (KR : Value → WP) : WP :=
  FnV pg (.func (.func 7) #[] #[]) #[(.int .i64 2)] fun v16 =>
  EqP false v16 (.pointer none) fun v18 =>
  Grd v18 false (BinI .lss a0 (.int .i64 0) fun v21 =>
  Grd v21 false (BinI .gtr a0 (.int .i64 20) fun v25 =>
  Grd v25 false (BinI .lss a1 (.int .i64 0) fun v29 =>
  Grd v29 false (BinI .gtr a1 (.int .i64 20) fun v33 =>
  Cnd v33 (EqP true v16 (.pointer none) fun v36 =>
  Grd v36 true (FnV pg (.func (.func 8) #[] #[]) #[] fun v38 =>
  KR v38)
  (KR (.bool false)))
  (FnV pg (.func (.func 9) #[] #[]) #[v16, (.int .i64 11)] fun v42 =>
  Ext v42 0 fun v43 =>
  Ext v42 1 fun v44 =>
  BinI .neq v44 (.int .i64 0) fun v46 =>
  Cnd v46 (KR (.bool false))
  (LoopC [(.int .i64 0)] fun vK vs => AllE <|
  UN vs fun v48 _ =>
  BinI .lss v48 a0 fun v49 =>
  Cnd v49 (FnV pg (.func (.func 17) #[] #[]) #[v16, v43] fun _ =>
  BinI .add v48 (.int .i64 1) fun v53 =>
  vK [v53])
  (LoopC [(.int .i64 0)] fun vK_1 vs => AllE <|
  UN vs fun v55 _ =>
  BinI .lss v55 a1 fun v56 =>
  Cnd v56 (FnV pg (.func (.func 10) #[] #[]) #[v16, v43] fun _ =>
  BinI .add v55 (.int .i64 1) fun v60 =>
  vK_1 [v60])
  (BinI .add a0 (.int .i64 1) fun v62 =>
  LenS a2 fun v65 =>
  LoopC [a1, v62, (.bool false), (.int .i64 0)] fun vK_2 vs => AllE <|
  UN vs fun v11 vs =>
  UN vs fun v10 vs =>
  UN vs fun v6 vs =>
  UN vs fun v66 _ =>
  BinI .lss v66 v65 fun v67 =>
  Cnd v67 (IA 1 a2 v66 fun v68 =>
  Ld1 v68 fun v69 =>
  BinI .add v10 v11 fun v72 =>
  BinI .eql v72 (.int .i64 0) fun v73 =>
  Cnd v73 (FnV pg (.func (.func 8) #[] #[]) #[] fun v123 =>
  KR v123)
  (JoinC (fun vs => AllE (UN vs fun v11_1 vs =>
  UN vs fun v14 vs =>
  UN vs fun v6_1 vs =>
  UN vs fun v10_1 _ =>
  LenS v14 fun v105 =>
  BinI .eql v105 (.int .i64 1) fun v106 =>
  BinI .add v10_1 v11_1 fun v109 =>
  BinI .eql v109 (.int .i64 0) fun v110 =>
  EqB true v106 v110 fun v111 =>
  Grd v111 false (FnV pg (.func (.func 13) #[] #[]) #[v16] fun v114 =>
  BinI .eql v114 (.int .i64 0) fun v115 =>
  BinI .add v10_1 v11_1 fun v118 =>
  BinI .eql v118 (.int .i64 0) fun v119 =>
  EqB true v115 v119 fun v120 =>
  Cnd v120 (KR (.bool false))
  (BinI .add v66 (.int .i64 1) fun v122 =>
  vK_2 [v11_1, v10_1, v6_1, v122]))
  (KR (.bool false))))
  fun vK_3 =>
  Cnd v69 (FnV pg (.func (.func 18) #[] #[]) #[v16, v43] fun v78 =>
  Ext v78 0 fun v79 =>
  Ext v78 1 fun v80 =>
  BinI .eql v80 (.int .i64 0) fun v82 =>
  BinI .gtr v11 (.int .i64 0) fun v84 =>
  EqB true v82 v84 fun v85 =>
  Cnd v85 (KR (.bool false))
  (BinI .sub v11 (.int .i64 1) fun v87 =>
  Ex pg (Builtin.max_ #[3, 3] 3 #[v87, (.int .i64 0)]) fun v88 =>
  vK_3 [v88, v79, v6, v10]))
  (BSlC 3 1 #[(.int .i64 0)] 1 #[(0, v43)] fun v92 =>
  FnV pg (.func (.func 12) #[] #[]) #[v16, v92] fun v93 =>
  Ext v93 0 fun v94 =>
  Ext v93 1 fun v95 =>
  BinI .eql v95 (.int .i64 0) fun v97 =>
  BinI .gtr v10 (.int .i64 0) fun v99 =>
  EqB true v97 v99 fun v100 =>
  Cnd v100 (KR (.bool false))
  (BinI .sub v10 (.int .i64 1) fun v102 =>
  Ex pg (Builtin.max_ #[3, 3] 3 #[v102, (.int .i64 0)]) fun v103 =>
  vK_3 [v11, v94, v6, v103]))))
  (FnV pg (.func (.func 8) #[] #[]) #[] fun v123_1 =>
  KR v123_1))))))
  (EqP true v16 (.pointer none) fun v36_1 =>
  Grd v36_1 true (FnV pg (.func (.func 8) #[] #[]) #[] fun v38_1 =>
  KR v38_1)
  (KR (.bool false))))
  (EqP true v16 (.pointer none) fun v36_2 =>
  Grd v36_2 true (FnV pg (.func (.func 8) #[] #[]) #[] fun v38_2 =>
  KR v38_2)
  (KR (.bool false))))
  (EqP true v16 (.pointer none) fun v36_3 =>
  Grd v36_3 true (FnV pg (.func (.func 8) #[] #[]) #[] fun v38_3 =>
  KR v38_3)
  (KR (.bool false))))
  (EqP true v16 (.pointer none) fun v36_4 =>
  Grd v36_4 true (FnV pg (.func (.func 8) #[] #[]) #[] fun v38_4 =>
  KR v38_4)
  (KR (.bool false)))
theorem V.jacinthlaw18_ObjectRefs_ok {a0 a1 a2 : Value} {K : Value → WP} {w : World} (h : V.jacinthlaw18_ObjectRefs a0 a1 a2 K w) : Cl pg 5 #[a0, a1, a2] K w :=
  cl_of pg_mixed Tryd.func5 (args := [a0, a1, a2]) (by kernel_rfl) (by rw [show WF pg Tryd.f5 [a0, a1, a2] K = V.jacinthlaw18_ObjectRefs a0 a1 a2 K from by kernel_rfl]; exact h)

def V.jacinthlaw18_ObjectHeld (a0 : Value) (KR : Value → WP) : WP :=
  FnV pg (.func (.func 7) #[] #[]) #[(.int .i64 100)] fun v26 =>
  EqP false v26 (.pointer none) fun v28 =>
  Grd v28 false (LenS a0 fun v31 =>
  BinI .gtr v31 (.int .i64 100) fun v32 =>
  Cnd v32 (EqP true v26 (.pointer none) fun v35 =>
  Grd v35 true (FnV pg (.func (.func 8) #[] #[]) #[] fun v37 =>
  KR v37)
  (KR (.bool false)))
  (Ex pg (Instr.makeMap 49 none) fun v39 =>
  LenS a0 fun v41 =>
  LoopC [(.int .i64 0), (.bool false), (.int .i64 0)] fun vK vs => AllE <|
  UN vs fun v5 vs =>
  UN vs fun v2 vs =>
  UN vs fun v42 _ =>
  BinI .lss v42 v41 fun v43 =>
  Cnd v43 (IA 5 a0 v42 fun v44 =>
  LdN 5 v44 fun v45 =>
  New 52 #[(.int .i64 0), (.int .i64 0), (.int .i64 0), (.int .i64 0), (.slice none 0 0)] fun v7 =>
  St 5 v7 v45 fun _ =>
  FA v7 4 fun v46 =>
  Ld1 v46 fun v47 =>
  LenS v47 fun v48 =>
  BinI .gtr v48 (.int .i64 20) fun v49 =>
  Cnd v49 (FnV pg (.func (.func 8) #[] #[]) #[] fun v50 =>
  KR v50)
  (Ex pg (Instr.makeMap 53 none) fun v51 =>
  FnV pg (.func (.func 19) #[] #[]) #[v26] fun v53 =>
  LenS v53 fun v54 =>
  LoopC [(.int .i64 0)] fun vK_1 vs => AllE <|
  UN vs fun v55 _ =>
  BinI .lss v55 v54 fun v56 =>
  Cnd v56 (IA 1 v53 v55 fun v57 =>
  Ld1 v57 fun v58 =>
  FnV pg (.func (.func 16) #[] #[]) #[v26, v58] fun v62 =>
  Ext v62 0 fun v63 =>
  Ext v62 1 fun _ =>
  New 41 #[(.int .i64 0), (.int .i64 0), (.int .i64 0), (.int .i64 0), (.int .i64 0), (.int .i64 0), (.int .i64 0)] fun v11 =>
  St 7 v11 v63 fun _ =>
  FA v11 1 fun v67 =>
  Ld1 v67 fun v68 =>
  Ex pg (do Instr.mapUpdate 53 v51 v58 v68; pure undef) fun _ =>
  BinI .add v55 (.int .i64 1) fun v69 =>
  vK_1 [v69])
  (JoinC (fun vs => AllE (UN vs fun v5_1 vs =>
  UN vs fun v13 _ =>
  LenS v13 fun v140 =>
  LoopC [v2, (.int .i64 0)] fun vK_2 vs => AllE <|
  UN vs fun v2_1 vs =>
  UN vs fun v141 _ =>
  BinI .lss v141 v140 fun v142 =>
  Cnd v142 (IA 3 v13 v141 fun v143 =>
  LdN 3 v143 fun v144 =>
  New 36 #[(.int .i64 0), (.bool false), (.int .i64 0)] fun v17 =>
  St 3 v17 v144 fun _ =>
  FA v17 0 fun v147 =>
  Ld1 v147 fun v148 =>
  Ex pg (Instr.lookup 53 v51 v148 true) fun v149 =>
  Ext v149 0 fun _ =>
  Ext v149 1 fun v151 =>
  Un .not v151 fun v153 =>
  Cnd v153 (KR (.bool false))
  (FA v17 1 fun v154 =>
  Ld1 v154 fun v155 =>
  Cnd v155 (FA v17 0 fun v157 =>
  Ld1 v157 fun v158 =>
  Ex pg (Instr.lookup 49 v39 v158 false) fun v159 =>
  Cnd v159 (KR (.bool false))
  (FA v17 0 fun v161 =>
  Ld1 v161 fun v162 =>
  Ex pg (do Instr.mapUpdate 49 v39 v162 (.bool true); pure undef) fun _ =>
  FA v17 0 fun v166 =>
  Ld1 v166 fun v167 =>
  Ex pg (Instr.lookup 53 v51 v167 false) fun v168 =>
  FnV pg (.func (.func 16) #[] #[]) #[v26, v168] fun v169 =>
  Ext v169 0 fun v170 =>
  Ext v169 1 fun v171 =>
  New 41 #[(.int .i64 0), (.int .i64 0), (.int .i64 0), (.int .i64 0), (.int .i64 0), (.int .i64 0), (.int .i64 0)] fun v20 =>
  St 7 v20 v170 fun _ =>
  Grd v171 true (FA v20 1 fun v174 =>
  Ld1 v174 fun v175 =>
  BinI .neq v175 (.int .i64 0) fun v176 =>
  Grd v176 false (FA v20 6 fun v178 =>
  Ld1 v178 fun v179 =>
  FnV pg (.func (.func 21) #[] #[]) #[v179, (.int .i64 4)] fun v180 =>
  BinI .eql v180 (.int .i64 0) fun v181 =>
  Cnd v181 (KR (.bool false))
  (BinI .add v141 (.int .i64 1) fun v184 =>
  vK_2 [v2_1, v184]))
  (KR (.bool false)))
  (BinI .add v141 (.int .i64 1) fun v184_1 =>
  vK_2 [v2_1, v184_1])))
  (BinI .add v141 (.int .i64 1) fun v184_2 =>
  vK_2 [v2_1, v184_2])))
  (FnV pg (.func (.func 19) #[] #[]) #[v26] fun v186 =>
  LenS v186 fun v187 =>
  LoopC [v2_1, (.int .i64 0)] fun vK_3 vs => AllE <|
  UN vs fun v2_2 vs =>
  UN vs fun v188 _ =>
  BinI .lss v188 v187 fun v189 =>
  Cnd v189 (IA 1 v186 v188 fun v190 =>
  Ld1 v190 fun v191 =>
  FnV pg (.func (.func 16) #[] #[]) #[v26, v191] fun v195 =>
  Ext v195 0 fun v196 =>
  Ext v195 1 fun _ =>
  New 41 #[(.int .i64 0), (.int .i64 0), (.int .i64 0), (.int .i64 0), (.int .i64 0), (.int .i64 0), (.int .i64 0)] fun v24 =>
  St 7 v24 v196 fun _ =>
  Ex pg (Instr.lookup 49 v39 v191 false) fun v200 =>
  Grd v200 false (FA v24 2 fun v202 =>
  Ld1 v202 fun v203 =>
  FA v24 3 fun v204 =>
  Ld1 v204 fun v205 =>
  BinI .add v203 v205 fun v206 =>
  FA v24 4 fun v207 =>
  Ld1 v207 fun v208 =>
  BinI .add v206 v208 fun v209 =>
  BinI .lss v209 (.int .i64 1) fun v210 =>
  Grd v210 false (FA v24 2 fun v213 =>
  Ld1 v213 fun v214 =>
  BinI .lss v214 (.int .i64 0) fun v215 =>
  Grd v215 false (FA v24 3 fun v218 =>
  Ld1 v218 fun v219 =>
  BinI .lss v219 (.int .i64 0) fun v220 =>
  Cnd v220 (KR (.bool false))
  (BinI .add v188 (.int .i64 1) fun v222 =>
  vK_3 [v2_2, v222]))
  (KR (.bool false)))
  (KR (.bool false)))
  (KR (.bool false)))
  (FnV pg (.func (.func 13) #[] #[]) #[v26] fun v224 =>
  Ex pg (Builtin.len_ #[49] 3 #[v39]) fun v227 =>
  BinI .sub v5_1 v227 fun v228 =>
  BinI .neq v224 v228 fun v229 =>
  Cnd v229 (KR (.bool false))
  (BinI .add v42 (.int .i64 1) fun v230 =>
  vK [v5_1, v2_2, v230])))))
  fun vK_4 =>
  FA v7 0 fun v70 =>
  Ld1 v70 fun v71 =>
  BinI .eql v71 (.int .i64 1) fun v73 =>
  Cnd v73 (FA v7 1 fun v76 =>
  Ld1 v76 fun v77 =>
  FnV pg (.func (.func 9) #[] #[]) #[v26, v77] fun v78 =>
  Ext v78 0 fun _ =>
  Ext v78 1 fun v80 =>
  BinI .eql v80 (.int .i64 0) fun v82 =>
  Cnd v82 (BinI .add v5 (.int .i64 1) fun v84 =>
  vK_4 [v84, (.slice none 0 0)])
  (vK_4 [v5, (.slice none 0 0)]))
  (BinI .eql v71 (.int .i64 2) fun v86 =>
  Cnd v86 (FA v7 1 fun v88 =>
  Ld1 v88 fun v89 =>
  FA v7 2 fun v90 =>
  Ld1 v90 fun v91 =>
  FnV pg (.func (.func 14) #[] #[]) #[v26, v89, v91] fun _ =>
  vK_4 [v5, (.slice none 0 0)])
  (BinI .eql v71 (.int .i64 3) fun v94 =>
  Cnd v94 (FA v7 1 fun v96 =>
  Ld1 v96 fun v97 =>
  FnV pg (.func (.func 17) #[] #[]) #[v26, v97] fun _ =>
  vK_4 [v5, (.slice none 0 0)])
  (BinI .eql v71 (.int .i64 4) fun v100 =>
  Cnd v100 (FA v7 4 fun v103 =>
  Ld1 v103 fun v104 =>
  FnV pg (.func (.func 12) #[] #[]) #[v26, v104] fun v105 =>
  Ext v105 0 fun v106 =>
  Ext v105 1 fun _ =>
  vK_4 [v5, v106])
  (BinI .eql v71 (.int .i64 5) fun v109 =>
  Cnd v109 (FA v7 1 fun v111 =>
  Ld1 v111 fun v112 =>
  FnV pg (.func (.func 10) #[] #[]) #[v26, v112] fun _ =>
  vK_4 [v5, (.slice none 0 0)])
  (BinI .eql v71 (.int .i64 6) fun v115 =>
  Cnd v115 (FA v7 1 fun v118 =>
  Ld1 v118 fun v119 =>
  FnV pg (.func (.func 18) #[] #[]) #[v26, v119] fun v120 =>
  Ext v120 0 fun v121 =>
  Ext v120 1 fun _ =>
  vK_4 [v5, v121])
  (BinI .eql v71 (.int .i64 7) fun v124 =>
  Cnd v124 (FA v7 1 fun v126 =>
  Ld1 v126 fun v127 =>
  FA v7 4 fun v128 =>
  Ld1 v128 fun v129 =>
  FnV pg (.func (.func 11) #[] #[]) #[v26, v127, v129] fun _ =>
  vK_4 [v5, (.slice none 0 0)])
  (BinI .eql v71 (.int .i64 8) fun v132 =>
  Cnd v132 (FA v7 1 fun v134 =>
  Ld1 v134 fun v135 =>
  FA v7 4 fun v136 =>
  Ld1 v136 fun v137 =>
  FnV pg (.func (.func 20) #[] #[]) #[v26, v135, v137] fun _ =>
  vK_4 [v5, (.slice none 0 0)])
  (vK_4 [v5, (.slice none 0 0)])))))))))))
  (FnV pg (.func (.func 8) #[] #[]) #[] fun v231 =>
  KR v231)))
  (EqP true v26 (.pointer none) fun v35_1 =>
  Grd v35_1 true (FnV pg (.func (.func 8) #[] #[]) #[] fun v37_1 =>
  KR v37_1)
  (KR (.bool false)))
theorem V.jacinthlaw18_ObjectHeld_ok {a0 : Value} {K : Value → WP} {w : World} (h : V.jacinthlaw18_ObjectHeld a0 K w) : Cl pg 6 #[a0] K w :=
  cl_of pg_mixed Tryd.func6 (args := [a0]) (by kernel_rfl) (by rw [show WF pg Tryd.f6 [a0] K = V.jacinthlaw18_ObjectHeld a0 K from by kernel_rfl]; exact h)

def V.object_New (a0 : Value) (KR : Value → WP) : WP :=
  BinI .lss a0 (.int .i64 0) fun v4 =>
  Grd v4 false (BinI .gtr a0 (.int .i64 65536) fun v7 =>
  Cnd v7 (KR (.pointer none))
  (Ex pg (Instr.makeMap 58 none) fun v9 =>
  Ex pg (bldS #[(.map none), (.int .i64 0), (.int .i64 0)] [(0, 1), (1, 1), (2, 1)] #[(0, v9), (2, a0)]) fun v11 =>
  New 60 (Value.cells v11) fun v12 =>
  KR v12))
  (KR (.pointer none))
theorem V.object_New_ok {a0 : Value} {K : Value → WP} {w : World} (h : V.object_New a0 K w) : Cl pg 7 #[a0] K w :=
  cl_of pg_mixed Tryd.func7 (args := [a0]) (by kernel_rfl) (by rw [show WF pg Tryd.f7 [a0] K = V.object_New a0 K from by kernel_rfl]; exact h)

def V.jacinthlaw18_awake (KR : Value → WP) : WP :=
  FnV pg (.func (.func 7) #[] #[]) #[(.int .i64 4)] fun v10 =>
  EqP false v10 (.pointer none) fun v12 =>
  Cnd v12 (KR (.bool false))
  (FnV pg (.func (.func 9) #[] #[]) #[v10, (.int .i64 4)] fun v15 =>
  Ext v15 0 fun v16 =>
  Ext v15 1 fun _ =>
  FnV pg (.func (.func 9) #[] #[]) #[v10, (.int .i64 4)] fun v20 =>
  Ext v20 0 fun v21 =>
  Ext v20 1 fun _ =>
  FnV pg (.func (.func 9) #[] #[]) #[v10, (.int .i64 7)] fun v25 =>
  Ext v25 0 fun v26 =>
  Ext v25 1 fun _ =>
  FnV pg (.func (.func 14) #[] #[]) #[v10, v16, v21] fun v31 =>
  BinI .neq v31 (.int .i64 0) fun v32 =>
  Grd v32 false (BSlC 3 1 #[(.int .i64 0)] 1 #[(0, v26)] fun v37 =>
  FnV pg (.func (.func 11) #[] #[]) #[v10, v21, v37] fun v38 =>
  BinI .neq v38 (.int .i64 0) fun v39 =>
  Cnd v39 (KR (.bool false))
  (BSlC 3 1 #[(.int .i64 0)] 1 #[(0, v21)] fun v44 =>
  FnV pg (.func (.func 12) #[] #[]) #[v10, v44] fun v45 =>
  Ext v45 0 fun v46 =>
  Ext v45 1 fun v47 =>
  BinI .eql v47 (.int .i64 0) fun v49 =>
  Grd v49 true (LenS v46 fun v52 =>
  BinI .eql v52 (.int .i64 3) fun v53 =>
  Grd v53 true (IA 3 v46 (.int .i64 0) fun v57 =>
  FA v57 0 fun v58 =>
  Ld1 v58 fun v59 =>
  BinI .eql v59 (.int .i64 2) fun v60 =>
  Grd v60 true (IA 3 v46 (.int .i64 1) fun v64 =>
  FA v64 2 fun v65 =>
  Ld1 v65 fun v66 =>
  BinI .eql v66 (.int .i64 4) fun v67 =>
  Grd v67 true (IA 3 v46 (.int .i64 2) fun v71 =>
  FA v71 0 fun v72 =>
  Ld1 v72 fun v73 =>
  BinI .eql v73 (.int .i64 3) fun v74 =>
  Grd v74 true (FnV pg (.func (.func 13) #[] #[]) #[v10] fun v78 =>
  BinI .eql v78 (.int .i64 1) fun v79 =>
  KR v79)
  (KR (.bool false)))
  (KR (.bool false)))
  (KR (.bool false)))
  (KR (.bool false)))
  (KR (.bool false))))
  (KR (.bool false)))
theorem V.jacinthlaw18_awake_ok {K : Value → WP} {w : World} (h : V.jacinthlaw18_awake  K w) : Cl pg 8 #[] K w :=
  cl_of pg_mixed Tryd.func8 (args := []) (by kernel_rfl) (by rw [show WF pg Tryd.f8 [] K = V.jacinthlaw18_awake  K from by kernel_rfl]; exact h)

def V.object_Objects_Make (a0 a1 : Value) (KR : Value → WP) : WP :=
  FnV pg (.func (.func 22) #[] #[]) #[a1] fun v8 =>
  BinX pg .eql 9 (.tmp 8) (.const (.string ⟨#[]⟩)) v8 (.string ⟨#[]⟩) fun v9 =>
  Cnd v9 (KR (.tuple #[(.int .i64 0), (.int .i64 (-10))]))
  (Drw <| QtC fun I =>
  QE I (fun KK => NilC a0 fun v12 =>
  KK v12) fun v12_1 =>
  QE I (fun KK => FA v12_1 0 fun v13 =>
  KK v13) fun v13_1 =>
  QE I (fun KK => Ld1 v13_1 fun v14 =>
  KK v14) fun v14_1 =>
  QE I (fun KK => Ex pg (Builtin.len_ #[58] 3 #[v14_1]) fun v15 =>
  KK v15) fun v15_1 =>
  QE I (fun KK => NilC a0 fun v17 =>
  KK v17) fun v17_1 =>
  QE I (fun KK => FA v17_1 2 fun v18 =>
  KK v18) fun v18_1 =>
  QE I (fun KK => Ld1 v18_1 fun v19 =>
  KK v19) fun v19_1 =>
  BinI .geq v15_1 v19_1 fun v20 =>
  Cnd v20 (KR (.tuple #[(.int .i64 0), (.int .i64 (-4))]))
  (NilC a0 fun v22 =>
  FA v22 1 fun v23 =>
  Ld1 v23 fun v24 =>
  BinI .add v24 (.int .i64 1) fun v25 =>
  NilC a0 fun v26 =>
  FA v26 1 fun v27 =>
  St 1 v27 v25 fun _ =>
  Drw <| QtC fun I =>
  QE I (fun KK => NilC a0 fun v29 =>
  KK v29) fun v29_1 =>
  QE I (fun KK => FA v29_1 0 fun v30 =>
  KK v30) fun v30_1 =>
  QE I (fun KK => Ld1 v30_1 fun v31 =>
  KK v31) fun v31_1 =>
  QE I (fun KK => NilC a0 fun v33 =>
  KK v33) fun v33_1 =>
  QE I (fun KK => FA v33_1 1 fun v34 =>
  KK v34) fun v34_1 =>
  QE I (fun KK => Ld1 v34_1 fun v35 =>
  KK v35) fun v35_1 =>
  FnV pg (.func (.func 23) #[] #[]) #[a1] fun v38 =>
  CH I <|
  Ex pg (bldS #[(.int .i64 0), (.int .i64 0), (.int .i64 0), (.int .i64 0), (.int .i64 0), (.int .i64 0), (.int .i64 0)] [(0, 1), (1, 1), (2, 1), (3, 1), (4, 1), (5, 1), (6, 1)] #[(0, a1), (2, (.int .i64 1)), (6, v38)]) fun v39 =>
  CH I <|
  Ex pg (bldS #[(.int .i64 0), (.int .i64 0), (.int .i64 0), (.int .i64 0), (.int .i64 0), (.int .i64 0), (.int .i64 0), (.bool false), (.slice none 0 0)] [(0, 7), (7, 1), (8, 1)] #[(0, v39)]) fun v40 =>
  CH I <|
  New 65 (Value.cells v40) fun v41 =>
  CH I <|
  Ex pg (do Instr.mapUpdate 58 v31_1 v35_1 v41; pure undef) fun _ =>
  NilC a0 fun v43 =>
  FA v43 1 fun v44 =>
  Ld1 v44 fun v45 =>
  KR (.tuple #[v45, (.int .i64 0)])))
theorem V.object_Objects_Make_ok {a0 a1 : Value} {K : Value → WP} {w : World} (h : V.object_Objects_Make a0 a1 K w) : Cl pg 9 #[a0, a1] K w :=
  cl_of pg_mixed Tryd.func9 (args := [a0, a1]) (by kernel_rfl) (by rw [show WF pg Tryd.f9 [a0, a1] K = V.object_Objects_Make a0 a1 K from by kernel_rfl]; exact h)

def V.object_Objects_Pin (a0 a1 : Value) (KR : Value → WP) : WP :=
  NilC a0 fun v7 =>
  FA v7 0 fun v8 =>
  Ld1 v8 fun v9 =>
  Ex pg (Instr.lookup 58 v9 a1 false) fun v11 =>
  EqP false v11 (.pointer none) fun v13 =>
  Cnd v13 (KR (.int .i64 (-25)))
  (NilC v11 fun v15 =>
  FA v15 0 fun v16 =>
  FA v16 3 fun v17 =>
  Ld1 v17 fun v18 =>
  BinI .add v18 (.int .i64 1) fun v19 =>
  NilC v11 fun v20 =>
  FA v20 0 fun v21 =>
  FA v21 3 fun v22 =>
  St 1 v22 v19 fun _ =>
  KR (.int .i64 0))
theorem V.object_Objects_Pin_ok {a0 a1 : Value} {K : Value → WP} {w : World} (h : V.object_Objects_Pin a0 a1 K w) : Cl pg 10 #[a0, a1] K w :=
  cl_of pg_mixed Tryd.func10 (args := [a0, a1]) (by kernel_rfl) (by rw [show WF pg Tryd.f10 [a0, a1] K = V.object_Objects_Pin a0 a1 K from by kernel_rfl]; exact h)

def V.object_Objects_Carry (a0 a1 a2 : Value) (KR : Value → WP) : WP :=
  NilC a0 fun v12 =>
  FA v12 0 fun v13 =>
  Ld1 v13 fun v14 =>
  Ex pg (Instr.lookup 58 v14 a1 false) fun v16 =>
  EqP false v16 (.pointer none) fun v18 =>
  Cnd v18 (KR (.int .i64 (-25)))
  (FnV pg (.func (.func 24) #[] #[]) #[a0, a2] fun v21 =>
  BinI .neq v21 (.int .i64 0) fun v23 =>
  Cnd v23 (KR v21)
  (FnV pg (.func (.func 25) #[] #[]) #[a2, a1] fun v27 =>
  Cnd v27 (KR (.int .i64 (-10)))
  (LenS a2 fun v29 =>
  LoopC [(.int .i64 0)] fun vK vs => AllE <|
  UN vs fun v30 _ =>
  BinI .lss v30 v29 fun v31 =>
  Cnd v31 (IA 1 a2 v30 fun v32 =>
  Ld1 v32 fun v33 =>
  NilC a0 fun v35 =>
  FA v35 0 fun v36 =>
  Ld1 v36 fun v37 =>
  Ex pg (Instr.lookup 58 v37 v33 false) fun v39 =>
  NilC v39 fun v40 =>
  FA v40 0 fun v41 =>
  FA v41 2 fun v42 =>
  Ld1 v42 fun v43 =>
  BinI .sub v43 (.int .i64 1) fun v44 =>
  NilC v39 fun v45 =>
  FA v45 0 fun v46 =>
  FA v46 2 fun v47 =>
  St 1 v47 v44 fun _ =>
  NilC a0 fun v49 =>
  FA v49 0 fun v50 =>
  Ld1 v50 fun v51 =>
  Ex pg (Instr.lookup 58 v51 v33 false) fun v53 =>
  NilC v53 fun v54 =>
  FA v54 0 fun v55 =>
  FA v55 4 fun v56 =>
  Ld1 v56 fun v57 =>
  BinI .add v57 (.int .i64 1) fun v58 =>
  NilC v53 fun v59 =>
  FA v59 0 fun v60 =>
  FA v60 4 fun v61 =>
  St 1 v61 v58 fun _ =>
  BinI .add v30 (.int .i64 1) fun v62 =>
  vK [v62])
  (NilC v16 fun v65 =>
  FA v65 8 fun v66 =>
  Ld1 v66 fun v67 =>
  AppC 3 1 8 #[(.int .i64 0)] v67 a2 fun v69 =>
  NilC v16 fun v70 =>
  FA v70 8 fun v71 =>
  St 1 v71 v69 fun _ =>
  NilC v16 fun v74 =>
  FA v74 8 fun v75 =>
  Ld1 v75 fun v76 =>
  LenS v76 fun v77 =>
  NilC v16 fun v78 =>
  FA v78 0 fun v79 =>
  FA v79 5 fun v80 =>
  St 1 v80 v77 fun _ =>
  KR (.int .i64 0)))))
theorem V.object_Objects_Carry_ok {a0 a1 a2 : Value} {K : Value → WP} {w : World} (h : V.object_Objects_Carry a0 a1 a2 K w) : Cl pg 11 #[a0, a1, a2] K w :=
  cl_of pg_mixed Tryd.func11 (args := [a0, a1, a2]) (by kernel_rfl) (by rw [show WF pg Tryd.f11 [a0, a1, a2] K = V.object_Objects_Carry a0 a1 a2 K from by kernel_rfl]; exact h)

def V.object_Objects_Unref (a0 a1 : Value) (KR : Value → WP) : WP :=
  FnV pg (.func (.func 24) #[] #[]) #[a0, a1] fun v11 =>
  BinI .neq v11 (.int .i64 0) fun v13 =>
  Cnd v13 (KR (.tuple #[(.slice none 0 0), v11]))
  (LenS a1 fun v16 =>
  LoopC [(.int .i64 0)] fun vK vs => AllE <|
  UN vs fun v17 _ =>
  BinI .lss v17 v16 fun v18 =>
  Cnd v18 (IA 1 a1 v17 fun v19 =>
  Ld1 v19 fun v20 =>
  NilC a0 fun v22 =>
  FA v22 0 fun v23 =>
  Ld1 v23 fun v24 =>
  Ex pg (Instr.lookup 58 v24 v20 false) fun v26 =>
  NilC v26 fun v27 =>
  FA v27 0 fun v28 =>
  FA v28 2 fun v29 =>
  Ld1 v29 fun v30 =>
  BinI .sub v30 (.int .i64 1) fun v31 =>
  NilC v26 fun v32 =>
  FA v32 0 fun v33 =>
  FA v33 2 fun v34 =>
  St 1 v34 v31 fun _ =>
  BinI .add v17 (.int .i64 1) fun v35 =>
  vK [v35])
  (FnV pg (.func (.func 26) #[] #[]) #[a0, a1] fun v38 =>
  KR (.tuple #[v38, (.int .i64 0)])))
theorem V.object_Objects_Unref_ok {a0 a1 : Value} {K : Value → WP} {w : World} (h : V.object_Objects_Unref a0 a1 K w) : Cl pg 12 #[a0, a1] K w :=
  cl_of pg_mixed Tryd.func12 (args := [a0, a1]) (by kernel_rfl) (by rw [show WF pg Tryd.f12 [a0, a1] K = V.object_Objects_Unref a0 a1 K from by kernel_rfl]; exact h)

def V.object_Objects_Count (a0 : Value) (KR : Value → WP) : WP :=
  NilC a0 fun v4 =>
  FA v4 0 fun v5 =>
  Ld1 v5 fun v6 =>
  Ex pg (Builtin.len_ #[58] 3 #[v6]) fun v7 =>
  KR v7
theorem V.object_Objects_Count_ok {a0 : Value} {K : Value → WP} {w : World} (h : V.object_Objects_Count a0 K w) : Cl pg 13 #[a0] K w :=
  cl_of pg_mixed Tryd.func13 (args := [a0]) (by kernel_rfl) (by rw [show WF pg Tryd.f13 [a0] K = V.object_Objects_Count a0 K from by kernel_rfl]; exact h)

def V.object_Objects_Pair (a0 a1 a2 : Value) (KR : Value → WP) : WP :=
  Drw <| QtC fun I =>
  QE I (fun KK => NilC a0 fun v10 =>
  KK v10) fun v10_1 =>
  QE I (fun KK => FA v10_1 0 fun v11 =>
  KK v11) fun v11_1 =>
  QE I (fun KK => Ld1 v11_1 fun v12 =>
  KK v12) fun v12_1 =>
  QE I (fun KK => Ex pg (Instr.lookup 58 v12_1 a1 false) fun v14 =>
  KK v14) fun v14_1 =>
  QE I (fun KK => NilC a0 fun v16 =>
  KK v16) fun v16_1 =>
  QE I (fun KK => FA v16_1 0 fun v17 =>
  KK v17) fun v17_1 =>
  QE I (fun KK => Ld1 v17_1 fun v18 =>
  KK v18) fun v18_1 =>
  QE I (fun KK => Ex pg (Instr.lookup 58 v18_1 a2 false) fun v20 =>
  KK v20) fun v20_1 =>
  EqP false v14_1 (.pointer none) fun v23 =>
  Grd v23 false (EqP false v20_1 (.pointer none) fun v26 =>
  Cnd v26 (KR (.int .i64 (-25)))
  (BinI .eql a1 a2 fun v31 =>
  Cnd v31 (KR (.int .i64 (-10)))
  (NilC v14_1 fun v34 =>
  FA v34 7 fun v35 =>
  Ld1 v35 fun v36 =>
  Grd v36 false (NilC v20_1 fun v39 =>
  FA v39 7 fun v40 =>
  Ld1 v40 fun v41 =>
  Cnd v41 (KR (.int .i64 (-20)))
  (NilC v14_1 fun v47 =>
  FA v47 0 fun v48 =>
  FA v48 1 fun v49 =>
  St 1 v49 a2 fun _ =>
  NilC v20_1 fun v50 =>
  FA v50 0 fun v51 =>
  FA v51 1 fun v52 =>
  St 1 v52 a1 fun _ =>
  NilC v14_1 fun v55 =>
  FA v55 7 fun v56 =>
  St 1 v56 (.bool true) fun _ =>
  NilC v20_1 fun v57 =>
  FA v57 7 fun v58 =>
  St 1 v58 (.bool true) fun _ =>
  KR (.int .i64 0)))
  (KR (.int .i64 (-20))))))
  (KR (.int .i64 (-25)))
theorem V.object_Objects_Pair_ok {a0 a1 a2 : Value} {K : Value → WP} {w : World} (h : V.object_Objects_Pair a0 a1 a2 K w) : Cl pg 14 #[a0, a1, a2] K w :=
  cl_of pg_mixed Tryd.func14 (args := [a0, a1, a2]) (by kernel_rfl) (by rw [show WF pg Tryd.f14 [a0, a1, a2] K = V.object_Objects_Pair a0 a1 a2 K from by kernel_rfl]; exact h)

def V.object_Objects_Show (a0 a1 a2 a3 : Value) (KR : Value → WP) : WP :=
  NilC a0 fun v11 =>
  FA v11 0 fun v12 =>
  Ld1 v12 fun v13 =>
  Ex pg (Instr.lookup 58 v13 a1 false) fun v15 =>
  EqP false v15 (.pointer none) fun v16 =>
  Cnd v16 (KR (.tuple #[(.slice none 0 0), (.int .i64 (-25))]))
  (FnV pg (.func (.func 27) #[] #[]) #[a0, a1, a2, a3] fun v21 =>
  KR (.tuple #[v21, (.int .i64 0)]))
theorem V.object_Objects_Show_ok {a0 a1 a2 a3 : Value} {K : Value → WP} {w : World} (h : V.object_Objects_Show a0 a1 a2 a3 K w) : Cl pg 15 #[a0, a1, a2, a3] K w :=
  cl_of pg_mixed Tryd.func15 (args := [a0, a1, a2, a3]) (by kernel_rfl) (by rw [show WF pg Tryd.f15 [a0, a1, a2, a3] K = V.object_Objects_Show a0 a1 a2 a3 K from by kernel_rfl]; exact h)

def V.object_Objects_Info (a0 a1 : Value) (KR : Value → WP) : WP :=
  New 41 #[(.int .i64 0), (.int .i64 0), (.int .i64 0), (.int .i64 0), (.int .i64 0), (.int .i64 0), (.int .i64 0)] fun v4 =>
  NilC a0 fun v8 =>
  FA v8 0 fun v9 =>
  Ld1 v9 fun v10 =>
  Ex pg (Instr.lookup 58 v10 a1 false) fun v12 =>
  EqP true v12 (.pointer none) fun v14 =>
  Cnd v14 (NilC v12 fun v16 =>
  FA v16 0 fun v17 =>
  LdN 7 v17 fun v18 =>
  St 7 v4 v18 fun _ =>
  LdN 7 v4 fun vr =>
  KR (.tuple #[vr, (.bool true)]))
  (Ex pg (bldS #[(.int .i64 0), (.int .i64 0), (.int .i64 0), (.int .i64 0), (.int .i64 0), (.int .i64 0), (.int .i64 0)] [(0, 1), (1, 1), (2, 1), (3, 1), (4, 1), (5, 1), (6, 1)] #[]) fun v19 =>
  St 7 v4 v19 fun _ =>
  LdN 7 v4 fun vr_1 =>
  KR (.tuple #[vr_1, (.bool false)]))
theorem V.object_Objects_Info_ok {a0 a1 : Value} {K : Value → WP} {w : World} (h : V.object_Objects_Info a0 a1 K w) : Cl pg 16 #[a0, a1] K w :=
  cl_of pg_mixed Tryd.func16 (args := [a0, a1]) (by kernel_rfl) (by rw [show WF pg Tryd.f16 [a0, a1] K = V.object_Objects_Info a0 a1 K from by kernel_rfl]; exact h)

def V.object_Objects_Ref (a0 a1 : Value) (KR : Value → WP) : WP :=
  NilC a0 fun v7 =>
  FA v7 0 fun v8 =>
  Ld1 v8 fun v9 =>
  Ex pg (Instr.lookup 58 v9 a1 false) fun v11 =>
  EqP false v11 (.pointer none) fun v13 =>
  Cnd v13 (KR (.int .i64 (-25)))
  (NilC v11 fun v15 =>
  FA v15 0 fun v16 =>
  FA v16 2 fun v17 =>
  Ld1 v17 fun v18 =>
  BinI .add v18 (.int .i64 1) fun v19 =>
  NilC v11 fun v20 =>
  FA v20 0 fun v21 =>
  FA v21 2 fun v22 =>
  St 1 v22 v19 fun _ =>
  KR (.int .i64 0))
theorem V.object_Objects_Ref_ok {a0 a1 : Value} {K : Value → WP} {w : World} (h : V.object_Objects_Ref a0 a1 K w) : Cl pg 17 #[a0, a1] K w :=
  cl_of pg_mixed Tryd.func17 (args := [a0, a1]) (by kernel_rfl) (by rw [show WF pg Tryd.f17 [a0, a1] K = V.object_Objects_Ref a0 a1 K from by kernel_rfl]; exact h)

def V.object_Objects_Unpin (a0 a1 : Value) (KR : Value → WP) : WP :=
  NilC a0 fun v8 =>
  FA v8 0 fun v9 =>
  Ld1 v9 fun v10 =>
  Ex pg (Instr.lookup 58 v10 a1 false) fun v12 =>
  EqP false v12 (.pointer none) fun v15 =>
  Cnd v15 (KR (.tuple #[(.slice none 0 0), (.int .i64 (-25))]))
  (NilC v12 fun v18 =>
  FA v18 0 fun v19 =>
  FA v19 3 fun v20 =>
  Ld1 v20 fun v21 =>
  BinI .eql v21 (.int .i64 0) fun v22 =>
  Cnd v22 (KR (.tuple #[(.slice none 0 0), (.int .i64 (-20))]))
  (NilC v12 fun v24 =>
  FA v24 0 fun v25 =>
  FA v25 3 fun v26 =>
  Ld1 v26 fun v27 =>
  BinI .sub v27 (.int .i64 1) fun v28 =>
  NilC v12 fun v29 =>
  FA v29 0 fun v30 =>
  FA v30 3 fun v31 =>
  St 1 v31 v28 fun _ =>
  BSlC 3 1 #[(.int .i64 0)] 1 #[(0, a1)] fun v34 =>
  FnV pg (.func (.func 26) #[] #[]) #[a0, v34] fun v35 =>
  KR (.tuple #[v35, (.int .i64 0)])))
theorem V.object_Objects_Unpin_ok {a0 a1 : Value} {K : Value → WP} {w : World} (h : V.object_Objects_Unpin a0 a1 K w) : Cl pg 18 #[a0, a1] K w :=
  cl_of pg_mixed Tryd.func18 (args := [a0, a1]) (by kernel_rfl) (by rw [show WF pg Tryd.f18 [a0, a1] K = V.object_Objects_Unpin a0 a1 K from by kernel_rfl]; exact h)

def V.object_Objects_IDs (a0 : Value) (KR : Value → WP) : WP :=
  NilC a0 fun v4 =>
  FA v4 0 fun v5 =>
  Ld1 v5 fun v6 =>
  FnV pg (.func (.func 29) #[] #[]) #[v6] fun v7 =>
  FnV pg (.func (.func 28) #[] #[]) #[v7] fun v8 =>
  KR v8
theorem V.object_Objects_IDs_ok {a0 : Value} {K : Value → WP} {w : World} (h : V.object_Objects_IDs a0 K w) : Cl pg 19 #[a0] K w :=
  cl_of pg_mixed Tryd.func19 (args := [a0]) (by kernel_rfl) (by rw [show WF pg Tryd.f19 [a0] K = V.object_Objects_IDs a0 K from by kernel_rfl]; exact h)

def V.object_Objects_Hand (a0 a1 a2 : Value) (KR : Value → WP) : WP :=
  NilC a0 fun v17 =>
  FA v17 0 fun v18 =>
  Ld1 v18 fun v19 =>
  Ex pg (Instr.lookup 58 v19 a1 false) fun v21 =>
  FnV pg (.func (.func 30) #[] #[]) #[a0, a2] fun v25 =>
  Ext v25 0 fun _ =>
  Ext v25 1 fun v27 =>
  EqP false v21 (.pointer none) fun v29 =>
  Grd v29 false (Un .not v27 fun v32 =>
  Cnd v32 (KR (.int .i64 (-25)))
  (NilC v21 fun v35 =>
  FA v35 8 fun v36 =>
  Ld1 v36 fun v37 =>
  FnV pg (.func (.func 31) #[] #[]) #[v37] fun v38 =>
  LenS a2 fun v40 =>
  LoopC [(.int .i64 0), v38, (.int .i64 0)] fun vK vs => AllE <|
  UN vs fun v6 vs =>
  UN vs fun v10 vs =>
  UN vs fun v41 _ =>
  BinI .lss v41 v40 fun v42 =>
  Cnd v42 (IA 1 a2 v41 fun v43 =>
  Ld1 v43 fun v44 =>
  FnV pg (.func (.func 32) #[] #[]) #[v10, v44] fun v47 =>
  BinI .lss v47 (.int .i64 0) fun v49 =>
  Cnd v49 (KR (.int .i64 (-20)))
  (BinI .add v47 (.int .i64 1) fun v53 =>
  FnV pg (.func (.func 33) #[] #[]) #[v10, v47, v53] fun v54 =>
  BinI .add v41 (.int .i64 1) fun v55 =>
  vK [v6, v54, v55]))
  (LenS v10 fun v60 =>
  NilC v21 fun v61 =>
  FA v61 8 fun v62 =>
  St 1 v62 v10 fun _ =>
  NilC v21 fun v63 =>
  FA v63 0 fun v64 =>
  FA v64 5 fun v65 =>
  St 1 v65 v60 fun _ =>
  LenS a2 fun v67 =>
  LoopC [(.int .i64 0)] fun vK_1 vs => AllE <|
  UN vs fun v68 _ =>
  BinI .lss v68 v67 fun v69 =>
  Cnd v69 (IA 1 a2 v68 fun v70 =>
  Ld1 v70 fun v71 =>
  NilC a0 fun v73 =>
  FA v73 0 fun v74 =>
  Ld1 v74 fun v75 =>
  Ex pg (Instr.lookup 58 v75 v71 false) fun v77 =>
  NilC v77 fun v78 =>
  FA v78 0 fun v79 =>
  FA v79 4 fun v80 =>
  Ld1 v80 fun v81 =>
  BinI .sub v81 (.int .i64 1) fun v82 =>
  NilC v77 fun v83 =>
  FA v83 0 fun v84 =>
  FA v84 4 fun v85 =>
  St 1 v85 v82 fun _ =>
  NilC a0 fun v87 =>
  FA v87 0 fun v88 =>
  Ld1 v88 fun v89 =>
  Ex pg (Instr.lookup 58 v89 v71 false) fun v91 =>
  NilC v91 fun v92 =>
  FA v92 0 fun v93 =>
  FA v93 2 fun v94 =>
  Ld1 v94 fun v95 =>
  BinI .add v95 (.int .i64 1) fun v96 =>
  NilC v91 fun v97 =>
  FA v97 0 fun v98 =>
  FA v98 2 fun v99 =>
  St 1 v99 v96 fun _ =>
  BinI .add v68 (.int .i64 1) fun v100 =>
  vK_1 [v100])
  (KR (.int .i64 0)))))
  (KR (.int .i64 (-25)))
theorem V.object_Objects_Hand_ok {a0 a1 a2 : Value} {K : Value → WP} {w : World} (h : V.object_Objects_Hand a0 a1 a2 K w) : Cl pg 20 #[a0, a1, a2] K w :=
  cl_of pg_mixed Tryd.func20 (args := [a0, a1, a2]) (by kernel_rfl) (by rw [show WF pg Tryd.f20 [a0, a1, a2] K = V.object_Objects_Hand a0 a1 a2 K from by kernel_rfl]; exact h)

def V.signal_Set_Meets (a0 a1 : Value) (KR : Value → WP) : WP :=
  BinI .and a0 a1 fun v7 =>
  KR v7
theorem V.signal_Set_Meets_ok {a0 a1 : Value} {K : Value → WP} {w : World} (h : V.signal_Set_Meets a0 a1 K w) : Cl pg 21 #[a0, a1] K w :=
  cl_of pg_mixed Tryd.func21 (args := [a0, a1]) (by kernel_rfl) (by rw [show WF pg Tryd.f21 [a0, a1] K = V.signal_Set_Meets a0 a1 K from by kernel_rfl]; exact h)

def V.rights_Name (a0 : Value) (KR : Value → WP) : WP :=
  BinI .lss a0 (.int .i64 0) fun v4 =>
  Grd v4 false (BinI .geq a0 (.int .i64 12) fun v7 =>
  Cnd v7 (KR (.string ⟨#[]⟩))
  (IAr 12 1 (.pointer (some ⟨0, 0, none⟩)) a0 fun v10 =>
  Ld1 v10 fun v11 =>
  KR v11))
  (KR (.string ⟨#[]⟩))
theorem V.rights_Name_ok {a0 : Value} {K : Value → WP} {w : World} (h : V.rights_Name a0 K w) : Cl pg 22 #[a0] K w :=
  cl_of pg_mixed Tryd.func22 (args := [a0]) (by kernel_rfl) (by rw [show WF pg Tryd.f22 [a0] K = V.rights_Name a0 K from by kernel_rfl]; exact h)

def V.signal_First (a0 : Value) (KR : Value → WP) : WP :=
  BinI .eql a0 (.int .i64 4) fun v5 =>
  Cnd v5 (Cnd v5 (KR (.int .i64 2))
  (BinI .eql a0 (.int .i64 11) fun v9 =>
  Cnd v9 (KR (.int .i64 32))
  (KR (.int .i64 0))))
  (BinI .eql a0 (.int .i64 5) fun v6 =>
  Cnd v6 (Cnd v6 (KR (.int .i64 2))
  (BinI .eql a0 (.int .i64 11) fun v9_1 =>
  Cnd v9_1 (KR (.int .i64 32))
  (KR (.int .i64 0))))
  (BinI .eql a0 (.int .i64 6) fun v7 =>
  Cnd v7 (KR (.int .i64 2))
  (BinI .eql a0 (.int .i64 11) fun v9_2 =>
  Cnd v9_2 (KR (.int .i64 32))
  (KR (.int .i64 0)))))
theorem V.signal_First_ok {a0 : Value} {K : Value → WP} {w : World} (h : V.signal_First a0 K w) : Cl pg 23 #[a0] K w :=
  cl_of pg_mixed Tryd.func23 (args := [a0]) (by kernel_rfl) (by rw [show WF pg Tryd.f23 [a0] K = V.signal_First a0 K from by kernel_rfl]; exact h)

def V.object_Objects_spare (a0 a1 : Value) (KR : Value → WP) : WP :=
  FnV pg (.func (.func 30) #[] #[]) #[a0, a1] fun v12 =>
  Ext v12 0 fun v13 =>
  Ext v12 1 fun v14 =>
  Un .not v14 fun v16 =>
  Cnd v16 (KR (.int .i64 (-25)))
  (Ex pg (Instr.range 53 v13) fun v18 =>
  LoopC [(.int .i64 0)] fun vK vs => AllE <|
  UN vs fun v4 _ =>
  Ex pg (Instr.next v18 false 0) fun v19 =>
  Ext v19 0 fun v20 =>
  Cnd v20 (Ex pg (Instr.entry v18) fun v21 =>
  Ext v21 0 fun v22 =>
  Ext v21 1 fun v23 =>
  NilC a0 fun v25 =>
  FA v25 0 fun v26 =>
  Ld1 v26 fun v27 =>
  Ex pg (Instr.lookup 58 v27 v22 false) fun v29 =>
  NilC v29 fun v30 =>
  FA v30 0 fun v31 =>
  FA v31 2 fun v32 =>
  Ld1 v32 fun v33 =>
  BinI .lss v33 v23 fun v35 =>
  Cnd v35 (KR (.int .i64 (-20)))
  (vK [v4]))
  (KR (.int .i64 0)))
theorem V.object_Objects_spare_ok {a0 a1 : Value} {K : Value → WP} {w : World} (h : V.object_Objects_spare a0 a1 K w) : Cl pg 24 #[a0, a1] K w :=
  cl_of pg_mixed Tryd.func24 (args := [a0, a1]) (by kernel_rfl) (by rw [show WF pg Tryd.f24 [a0, a1] K = V.object_Objects_spare a0 a1 K from by kernel_rfl]; exact h)

def V.slices_Contains_int_int (a0 a1 : Value) (KR : Value → WP) : WP :=
  FnV pg (.func (.func 32) #[] #[]) #[a0, a1] fun v7 =>
  BinI .geq v7 (.int .i64 0) fun v8 =>
  KR v8
theorem V.slices_Contains_int_int_ok {a0 a1 : Value} {K : Value → WP} {w : World} (h : V.slices_Contains_int_int a0 a1 K w) : Cl pg 25 #[a0, a1] K w :=
  cl_of pg_mixed Tryd.func25 (args := [a0, a1]) (by kernel_rfl) (by rw [show WF pg Tryd.f25 [a0, a1] K = V.slices_Contains_int_int a0 a1 K from by kernel_rfl]; exact h)

def V.object_Objects_sweep (a0 a1 : Value) (KR : Value → WP) : WP :=
  FnV pg (.func (.func 31) #[] #[]) #[a1] fun v12 =>
  LoopC [(.slice none 0 0), v12] fun vK vs => AllE <|
  UN vs fun v4 vs =>
  UN vs fun v1 _ =>
  LenS v1 fun v14 =>
  BinI .gtr v14 (.int .i64 0) fun v15 =>
  Cnd v15 (IA 1 v1 (.int .i64 0) fun v17 =>
  Ld1 v17 fun v18 =>
  SlC 1 v1 (some (.int .i64 1)) none fun v20 =>
  NilC a0 fun v22 =>
  FA v22 0 fun v23 =>
  Ld1 v23 fun v24 =>
  Ex pg (Instr.lookup 58 v24 v18 false) fun v26 =>
  EqP false v26 (.pointer none) fun v28 =>
  Grd v28 false (FnV pg (.func (.func 34) #[] #[]) #[v26] fun v31 =>
  Cnd v31 (vK [v4, v20])
  (NilC a0 fun v34 =>
  FA v34 0 fun v35 =>
  Ld1 v35 fun v36 =>
  Ex pg (Builtin.delete_ #[58, 3] 0 #[v36, v18]) fun _ =>
  Ex pg (bldS #[(.int .i64 0), (.bool false), (.int .i64 0)] [(0, 1), (1, 1), (2, 1)] #[(0, v18), (1, (.bool true))]) fun v40 =>
  BSlC 36 3 #[(.int .i64 0), (.bool false), (.int .i64 0)] 1 #[(0, v40)] fun v41 =>
  AppC 36 3 24 #[(.int .i64 0), (.bool false), (.int .i64 0)] v4 v41 fun v42 =>
  JoinC (fun vs => AllE (UN vs fun v4_1 _ =>
  NilC v26 fun v69 =>
  FA v69 8 fun v70 =>
  Ld1 v70 fun v71 =>
  LenS v71 fun v72 =>
  LoopC [v20, (.int .i64 0)] fun vK_1 vs => AllE <|
  UN vs fun v1_1 vs =>
  UN vs fun v73 _ =>
  BinI .lss v73 v72 fun v74 =>
  Cnd v74 (IA 1 v71 v73 fun v75 =>
  Ld1 v75 fun v76 =>
  NilC a0 fun v78 =>
  FA v78 0 fun v79 =>
  Ld1 v79 fun v80 =>
  Ex pg (Instr.lookup 58 v80 v76 false) fun v82 =>
  EqP true v82 (.pointer none) fun v84 =>
  Cnd v84 (NilC v82 fun v86 =>
  FA v86 0 fun v87 =>
  FA v87 4 fun v88 =>
  Ld1 v88 fun v89 =>
  BinI .sub v89 (.int .i64 1) fun v90 =>
  NilC v82 fun v91 =>
  FA v91 0 fun v92 =>
  FA v92 4 fun v93 =>
  St 1 v93 v90 fun _ =>
  BSlC 3 1 #[(.int .i64 0)] 1 #[(0, v76)] fun v96 =>
  AppC 3 1 8 #[(.int .i64 0)] v1_1 v96 fun v97 =>
  BinI .add v73 (.int .i64 1) fun v98 =>
  vK_1 [v97, v98])
  (BinI .add v73 (.int .i64 1) fun v98_1 =>
  vK_1 [v1_1, v98_1]))
  (vK [v4_1, v1_1])))
  fun vK_2 =>
  Drw <| QtC fun I =>
  QE I (fun KK => NilC a0 fun v44 =>
  KK v44) fun v44_1 =>
  QE I (fun KK => FA v44_1 0 fun v45 =>
  KK v45) fun v45_1 =>
  QE I (fun KK => Ld1 v45_1 fun v46 =>
  KK v46) fun v46_1 =>
  QE I (fun KK => NilC v26 fun v48 =>
  KK v48) fun v48_1 =>
  QE I (fun KK => FA v48_1 0 fun v49 =>
  KK v49) fun v49_1 =>
  QE I (fun KK => FA v49_1 1 fun v50 =>
  KK v50) fun v50_1 =>
  QE I (fun KK => Ld1 v50_1 fun v51 =>
  KK v51) fun v51_1 =>
  Ex pg (Instr.lookup 58 v46_1 v51_1 false) fun v52 =>
  EqP true v52 (.pointer none) fun v54 =>
  Cnd v54 (NilC v52 fun v56 =>
  FA v56 0 fun v57 =>
  FA v57 1 fun v58 =>
  St 1 v58 (.int .i64 0) fun _ =>
  NilC v26 fun v62 =>
  FA v62 0 fun v63 =>
  FA v63 1 fun v64 =>
  Ld1 v64 fun v65 =>
  FnV pg (.func (.func 27) #[] #[]) #[a0, v65, (.int .i64 2), (.int .i64 4)] fun v66 =>
  AppC 36 3 24 #[(.int .i64 0), (.bool false), (.int .i64 0)] v42 v66 fun v67 =>
  vK_2 [v67])
  (vK_2 [v42])))
  (vK [v4, v20]))
  (KR v4)
theorem V.object_Objects_sweep_ok {a0 a1 : Value} {K : Value → WP} {w : World} (h : V.object_Objects_sweep a0 a1 K w) : Cl pg 26 #[a0, a1] K w :=
  cl_of pg_mixed Tryd.func26 (args := [a0, a1]) (by kernel_rfl) (by rw [show WF pg Tryd.f26 [a0, a1] K = V.object_Objects_sweep a0 a1 K from by kernel_rfl]; exact h)

def V.object_Objects_show (a0 a1 a2 a3 : Value) (KR : Value → WP) : WP :=
  NilC a0 fun v12 =>
  FA v12 0 fun v13 =>
  Ld1 v13 fun v14 =>
  Ex pg (Instr.lookup 58 v14 a1 false) fun v16 =>
  NilC v16 fun v18 =>
  FA v18 0 fun v19 =>
  FA v19 6 fun v20 =>
  Ld1 v20 fun v21 =>
  BinI .andNot v21 a2 fun v23 =>
  BinI .or v23 a3 fun v25 =>
  NilC v16 fun v28 =>
  FA v28 0 fun v29 =>
  FA v29 6 fun v30 =>
  Ld1 v30 fun v31 =>
  BinI .eql v25 v31 fun v32 =>
  Cnd v32 (KR (.slice none 0 0))
  (NilC v16 fun v35 =>
  FA v35 0 fun v36 =>
  FA v36 6 fun v37 =>
  St 1 v37 v25 fun _ =>
  Ex pg (bldS #[(.int .i64 0), (.bool false), (.int .i64 0)] [(0, 1), (1, 1), (2, 1)] #[(0, a1), (2, v25)]) fun v40 =>
  BSlC 36 3 #[(.int .i64 0), (.bool false), (.int .i64 0)] 1 #[(0, v40)] fun v41 =>
  KR v41)
theorem V.object_Objects_show_ok {a0 a1 a2 a3 : Value} {K : Value → WP} {w : World} (h : V.object_Objects_show a0 a1 a2 a3 K w) : Cl pg 27 #[a0, a1, a2, a3] K w :=
  cl_of pg_mixed Tryd.func27 (args := [a0, a1, a2, a3]) (by kernel_rfl) (by rw [show WF pg Tryd.f27 [a0, a1, a2, a3] K = V.object_Objects_show a0 a1 a2 a3 K from by kernel_rfl]; exact h)

def V.slices_Sorted_int (a0 : Value) (KR : Value → WP) : WP :=
  FnV pg (.func (.func 35) #[] #[]) #[a0] fun v5 =>
  FnV pg (.func (.func 36) #[] #[]) #[v5] fun _ =>
  KR v5
theorem V.slices_Sorted_int_ok {a0 : Value} {K : Value → WP} {w : World} (h : V.slices_Sorted_int a0 K w) : Cl pg 28 #[a0] K w :=
  cl_of pg_mixed Tryd.func28 (args := [a0]) (by kernel_rfl) (by rw [show WF pg Tryd.f28 [a0] K = V.slices_Sorted_int a0 K from by kernel_rfl]; exact h)

def V.maps_Keys_map_int_header_int_header (a0 : Value) (KR : Value → WP) : WP :=
  New 58 (Value.cells a0) fun v1 =>
  KR (.func (.func 37) #[] #[v1])
theorem V.maps_Keys_map_int_header_int_header_ok {a0 : Value} {K : Value → WP} {w : World} (h : V.maps_Keys_map_int_header_int_header a0 K w) : Cl pg 29 #[a0] K w :=
  cl_of pg_mixed Tryd.func29 (args := [a0]) (by kernel_rfl) (by rw [show WF pg Tryd.f29 [a0] K = V.maps_Keys_map_int_header_int_header a0 K from by kernel_rfl]; exact h)

def V.object_Objects_many (a0 a1 : Value) (KR : Value → WP) : WP :=
  Ex pg (Instr.makeMap 53 none) fun v9 =>
  LenS a1 fun v11 =>
  LoopC [(.map none), (.bool false), (.int .i64 0)] fun vK vs => AllE <|
  UN vs fun v4 vs =>
  UN vs fun v5 vs =>
  UN vs fun v12 _ =>
  BinI .lss v12 v11 fun v13 =>
  Cnd v13 (IA 1 a1 v12 fun v14 =>
  Ld1 v14 fun v15 =>
  NilC a0 fun v17 =>
  FA v17 0 fun v18 =>
  Ld1 v18 fun v19 =>
  Ex pg (Instr.lookup 58 v19 v15 false) fun v21 =>
  EqP false v21 (.pointer none) fun v22 =>
  Cnd v22 (KR (.tuple #[(.map none), (.bool false)]))
  (Ex pg (Instr.lookup 53 v9 v15 false) fun v25 =>
  BinI .add v25 (.int .i64 1) fun v26 =>
  Ex pg (do Instr.mapUpdate 53 v9 v15 v26; pure undef) fun _ =>
  BinI .add v12 (.int .i64 1) fun v27 =>
  vK [v4, v5, v27]))
  (KR (.tuple #[v9, (.bool true)]))
theorem V.object_Objects_many_ok {a0 a1 : Value} {K : Value → WP} {w : World} (h : V.object_Objects_many a0 a1 K w) : Cl pg 30 #[a0, a1] K w :=
  cl_of pg_mixed Tryd.func30 (args := [a0, a1]) (by kernel_rfl) (by rw [show WF pg Tryd.f30 [a0, a1] K = V.object_Objects_many a0 a1 K from by kernel_rfl]; exact h)

def V.slices_Clone_int_int (a0 : Value) (KR : Value → WP) : WP :=
  BinX pg .eql 50 (.tmp 3) (.const (.slice none 0 0)) a0 (.slice none 0 0) fun v4 =>
  Cnd v4 (KR (.slice none 0 0))
  (BSlC 3 1 #[(.int .i64 0)] 0 #[] fun v5 =>
  AppC 3 1 8 #[(.int .i64 0)] v5 a0 fun v7 =>
  KR v7)
theorem V.slices_Clone_int_int_ok {a0 : Value} {K : Value → WP} {w : World} (h : V.slices_Clone_int_int a0 K w) : Cl pg 31 #[a0] K w :=
  cl_of pg_mixed Tryd.func31 (args := [a0]) (by kernel_rfl) (by rw [show WF pg Tryd.f31 [a0] K = V.slices_Clone_int_int a0 K from by kernel_rfl]; exact h)

def V.slices_Index_int_int (a0 a1 : Value) (KR : Value → WP) : WP :=
  LenS a0 fun v7 =>
  LoopC [(.int .i64 0), (.int .i64 0)] fun vK vs => AllE <|
  UN vs fun v4 vs =>
  UN vs fun v8 _ =>
  BinI .lss v8 v7 fun v9 =>
  Cnd v9 (IA 1 a0 v8 fun v14 =>
  Ld1 v14 fun v15 =>
  BinI .eql a1 v15 fun v16 =>
  Cnd v16 (KR v8)
  (BinI .add v8 (.int .i64 1) fun v18 =>
  vK [v4, v18]))
  (KR (.int .i64 (-1)))
theorem V.slices_Index_int_int_ok {a0 a1 : Value} {K : Value → WP} {w : World} (h : V.slices_Index_int_int a0 a1 K w) : Cl pg 32 #[a0, a1] K w :=
  cl_of pg_mixed Tryd.func32 (args := [a0, a1]) (by kernel_rfl) (by rw [show WF pg Tryd.f32 [a0, a1] K = V.slices_Index_int_int a0 a1 K from by kernel_rfl]; exact h)

def V.slices_Delete_int_int (a0 a1 a2 : Value) (KR : Value → WP) : WP :=
  LenS a0 fun v12 =>
  Ex pg (Instr.sliceAt 50 a0 (some a1) (some a2) (some v12)) fun _ =>
  BinI .eql a1 a2 fun v16 =>
  Cnd v16 (KR a0)
  (LenS a0 fun v19 =>
  Drw <| QtC fun I =>
  QE I (fun KK => SlC 1 a0 none (some a1) fun v22 =>
  KK v22) fun v22_1 =>
  QE I (fun KK => SlC 1 a0 (some a2) none fun v25 =>
  KK v25) fun v25_1 =>
  AppC 3 1 8 #[(.int .i64 0)] v22_1 v25_1 fun v26 =>
  LenS v26 fun v29 =>
  SlC 1 v26 (some v29) (some v19) fun v31 =>
  Ex pg (clrS #[(.int .i64 0)] v31) fun _ =>
  KR v26)
theorem V.slices_Delete_int_int_ok {a0 a1 a2 : Value} {K : Value → WP} {w : World} (h : V.slices_Delete_int_int a0 a1 a2 K w) : Cl pg 33 #[a0, a1, a2] K w :=
  cl_of pg_mixed Tryd.func33 (args := [a0, a1, a2]) (by kernel_rfl) (by rw [show WF pg Tryd.f33 [a0, a1, a2] K = V.slices_Delete_int_int a0 a1 a2 K from by kernel_rfl]; exact h)

def V.object_header_held (a0 : Value) (KR : Value → WP) : WP :=
  Drw <| QtC fun I =>
  QE I (fun KK => NilC a0 fun v4 =>
  KK v4) fun v4_1 =>
  QE I (fun KK => FA v4_1 0 fun v5 =>
  KK v5) fun v5_1 =>
  QE I (fun KK => FA v5_1 2 fun v6 =>
  KK v6) fun v6_1 =>
  QE I (fun KK => Ld1 v6_1 fun v7 =>
  KK v7) fun v7_1 =>
  QE I (fun KK => NilC a0 fun v9 =>
  KK v9) fun v9_1 =>
  QE I (fun KK => FA v9_1 0 fun v10 =>
  KK v10) fun v10_1 =>
  QE I (fun KK => FA v10_1 3 fun v11 =>
  KK v11) fun v11_1 =>
  QE I (fun KK => Ld1 v11_1 fun v12 =>
  KK v12) fun v12_1 =>
  QE I (fun KK => BinI .add v7_1 v12_1 fun v13 =>
  KK v13) fun v13_1 =>
  QE I (fun KK => NilC a0 fun v15 =>
  KK v15) fun v15_1 =>
  QE I (fun KK => FA v15_1 0 fun v16 =>
  KK v16) fun v16_1 =>
  QE I (fun KK => FA v16_1 4 fun v17 =>
  KK v17) fun v17_1 =>
  QE I (fun KK => Ld1 v17_1 fun v18 =>
  KK v18) fun v18_1 =>
  BinI .add v13_1 v18_1 fun v19 =>
  BinI .gtr v19 (.int .i64 0) fun v20 =>
  KR v20
theorem V.object_header_held_ok {a0 : Value} {K : Value → WP} {w : World} (h : V.object_header_held a0 K w) : Cl pg 34 #[a0] K w :=
  cl_of pg_mixed Tryd.func34 (args := [a0]) (by kernel_rfl) (by rw [show WF pg Tryd.f34 [a0] K = V.object_header_held a0 K from by kernel_rfl]; exact h)

def V.slices_Collect_int (a0 : Value) (KR : Value → WP) : WP :=
  FnV pg (.func (.func 38) #[] #[]) #[(.slice none 0 0), a0] fun v4 =>
  KR v4
theorem V.slices_Collect_int_ok {a0 : Value} {K : Value → WP} {w : World} (h : V.slices_Collect_int a0 K w) : Cl pg 35 #[a0] K w :=
  cl_of pg_mixed Tryd.func35 (args := [a0]) (by kernel_rfl) (by rw [show WF pg Tryd.f35 [a0] K = V.slices_Collect_int a0 K from by kernel_rfl]; exact h)

def V.slices_Sort_int_int (a0 : Value) (KR : Value → WP) : WP :=
  LenS a0 fun v4 =>
  ConvI .u64 v4 fun v8 =>
  FnV pg (.func (.func 40) #[] #[]) #[v8] fun v9 =>
  FnV pg (.func (.func 39) #[] #[]) #[a0, (.int .i64 0), v4, v9] fun _ =>
  KR (.tuple #[])
theorem V.slices_Sort_int_int_ok {a0 : Value} {K : Value → WP} {w : World} (h : V.slices_Sort_int_int a0 K w) : Cl pg 36 #[a0] K w :=
  cl_of pg_mixed Tryd.func36 (args := [a0]) (by kernel_rfl) (by rw [show WF pg Tryd.f36 [a0] K = V.slices_Sort_int_int a0 K from by kernel_rfl]; exact h)

def V.maps_Keys_c1_map_int_header_int_header (a0 a1 : Value) (KR : Value → WP) : WP :=
  Ld1 a1 fun v4 =>
  Ex pg (Instr.range 58 v4) fun v5 =>
  LoopC [] fun vK _ => AllE <|
  Ex pg (Instr.next v5 false 0) fun v6 =>
  Ext v6 0 fun v7 =>
  Cnd v7 (Ex pg (Instr.entry v5) fun v8 =>
  Ext v8 0 fun v9 =>
  FnV pg a0 #[v9] fun v12 =>
  Un .not v12 fun v13 =>
  Cnd v13 (KR (.tuple #[]))
  (vK []))
  (KR (.tuple #[]))
theorem V.maps_Keys_c1_map_int_header_int_header_ok {a0 a1 : Value} {K : Value → WP} {w : World} (h : V.maps_Keys_c1_map_int_header_int_header a0 a1 K w) : Cl pg 37 #[a0, a1] K w :=
  cl_of pg_mixed Tryd.func37 (args := [a0, a1]) (by kernel_rfl) (by rw [show WF pg Tryd.f37 [a0, a1] K = V.maps_Keys_c1_map_int_header_int_header a0 a1 K from by kernel_rfl]; exact h)

def V.slices_AppendSeq_int_int (a0 a1 : Value) (KR : Value → WP) : WP :=
  New 50 (Value.cells a0) fun v2 =>
  RF0 pg a1 (fun vl vs vK =>
  UN vs fun v7 vs =>
  UNe vs <|
  RBeg vl <|
  Ld1 v2 fun v8 =>
  BSlC 3 1 #[(.int .i64 0)] 1 #[(0, v7)] fun v10 =>
  AppC 3 1 8 #[(.int .i64 0)] v8 v10 fun v11 =>
  St 1 v2 v11 fun _ =>
  REnd vl none vK)
  fun vm vj =>
  JumpC vj (Ld1 v2 fun v12 =>
  LvC (.tuple #[vm]) <| KR v12)
  (LvC (.tuple #[vm]) <| KR (.slice none 0 0))
  (fun _ => fun _ => False)
theorem V.slices_AppendSeq_int_int_ok {a0 a1 : Value} {K : Value → WP} {w : World} (h : V.slices_AppendSeq_int_int a0 a1 K w) : Cl pg 38 #[a0, a1] K w :=
  cl_of pg_mixed Tryd.func38 (args := [a0, a1]) (by kernel_rfl) (by rw [show WF pg Tryd.f38 [a0, a1] K = V.slices_AppendSeq_int_int a0 a1 K from by kernel_rfl]; exact h)

def V.cmp_Less_int (a0 a1 : Value) (KR : Value → WP) : WP :=
  FnV pg (.func (.func 57) #[] #[]) #[a0] fun v6 =>
  Grd v6 true (FnV pg (.func (.func 57) #[] #[]) #[a1] fun v9 =>
  Un .not v9 fun v10 =>
  Grd v10 false (BinI .lss a0 a1 fun v15 =>
  KR v15)
  (KR (.bool true)))
  (BinI .lss a0 a1 fun v15_1 =>
  KR v15_1)
theorem V.cmp_Less_int_ok {a0 a1 : Value} {K : Value → WP} {w : World} (h : V.cmp_Less_int a0 a1 K w) : Cl pg 47 #[a0, a1] K w :=
  cl_of pg_mixed Tryd.func47 (args := [a0, a1]) (by kernel_rfl) (by rw [show WF pg Tryd.f47 [a0, a1] K = V.cmp_Less_int a0 a1 K from by kernel_rfl]; exact h)

def V.cmp_isNaN_int (a0 : Value) (KR : Value → WP) : WP :=
  BinI .neq a0 a0 fun v5 =>
  KR v5
theorem V.cmp_isNaN_int_ok {a0 : Value} {K : Value → WP} {w : World} (h : V.cmp_isNaN_int a0 K w) : Cl pg 57 #[a0] K w :=
  cl_of pg_mixed Tryd.func57 (args := [a0]) (by kernel_rfl) (by rw [show WF pg Tryd.f57 [a0] K = V.cmp_isNaN_int a0 K from by kernel_rfl]; exact h)

def V.gosem_cut_vars (KR : Value → WP) : WP :=
  Ex pg (Instr.build 79 #[(1, (.string ⟨#[106, 111, 98]⟩)), (2, (.string ⟨#[112, 114, 111, 99, 101, 115, 115]⟩)), (3, (.string ⟨#[116, 104, 114, 101, 97, 100]⟩)), (4, (.string ⟨#[99, 104, 97, 110, 110, 101, 108]⟩)), (5, (.string ⟨#[115, 111, 99, 107, 101, 116]⟩)), (6, (.string ⟨#[102, 105, 102, 111]⟩)), (7, (.string ⟨#[101, 118, 101, 110, 116]⟩)), (8, (.string ⟨#[101, 118, 101, 110, 116, 112, 97, 105, 114]⟩)), (9, (.string ⟨#[112, 111, 114, 116]⟩)), (10, (.string ⟨#[116, 105, 109, 101, 114]⟩)), (11, (.string ⟨#[118, 109, 111]⟩))]) fun v0 =>
  St 12 (.pointer (some ⟨0, 0, none⟩)) v0 fun _ =>
  KR (.tuple #[])
theorem V.gosem_cut_vars_ok {K : Value → WP} {w : World} (h : V.gosem_cut_vars  K w) : Cl pg 79 #[] K w :=
  cl_of pg_mixed Tryd.func79 (args := []) (by kernel_rfl) (by rw [show WF pg Tryd.f79 [] K = V.gosem_cut_vars  K from by kernel_rfl]; exact h)
end Go.Proofs.YtbbenmflickapaaDoor
