/- What each function asks, printed by a program of this session's own; each is checked against the code. -/
import Derived.Test.YtcdkbkgpgemfgaaGreatDoorV
set_option maxRecDepth 100000
namespace Go.Proofs.YtcdkbkgpgemfgaaGreatDoor
open Go Go.Jac
def V.jacinthref21_Within (a0 a1 a2 : Value) (KR : Value → WP) : WP :=
  LoopC [(.bool false), (.int .i64 0)] fun vK vs => AllE <|
  UN vs fun v6 vs =>
  UN vs fun v7 _ =>
  LenS a0 fun v13 =>
  BinI .lss v7 v13 fun v14 =>
  Cnd v14 (LoopC [(.bool false), (.int .i64 0)] fun vK_1 vs => AllE <|
  UN vs fun v8 vs =>
  UN vs fun v9 _ =>
  LenS a2 fun v19 =>
  BinI .lss v9 v19 fun v20 =>
  Cnd v20 (Drw <| QtC fun I =>
  Grd v8 false (QE (fun _ => True) (fun KK => IA 1 a2 v9 fun v27 =>
  KK v27) fun v27_1 =>
  QE I (fun KK => Ld1 v27_1 fun v28 =>
  KK v28) fun v28_1 =>
  QE (fun _ => True) (fun KK => IA 2 a0 v7 fun v31 =>
  KK v31) fun v31_1 =>
  QE (fun _ => True) (fun KK => FA v31_1 0 fun v32 =>
  KK v32) fun v32_1 =>
  QE I (fun KK => Ld1 v32_1 fun v33 =>
  KK v33) fun v33_1 =>
  BinI .eql v28_1 v33_1 fun v34 =>
  BinI .add v9 (.int .i64 1) fun v22 =>
  vK_1 [v34, v22])
  (BinI .add v9 (.int .i64 1) fun v22_1 =>
  vK_1 [(.bool true), v22_1]))
  (LoopC [v8, (.int .i64 0)] fun vK_2 vs => AllE <|
  UN vs fun v8_1 vs =>
  UN vs fun v10 _ =>
  LenS a1 fun v38 =>
  BinI .lss v10 v38 fun v39 =>
  Cnd v39 (Drw <| QtC fun I =>
  Grd v8_1 false (QE (fun _ => True) (fun KK => IA 2 a1 v10 fun v46 =>
  KK v46) fun v46_1 =>
  QE (fun _ => True) (fun KK => FA v46_1 0 fun v47 =>
  KK v47) fun v47_1 =>
  QE I (fun KK => Ld1 v47_1 fun v48 =>
  KK v48) fun v48_1 =>
  QE (fun _ => True) (fun KK => IA 2 a0 v7 fun v51 =>
  KK v51) fun v51_1 =>
  QE (fun _ => True) (fun KK => FA v51_1 0 fun v52 =>
  KK v52) fun v52_1 =>
  QE I (fun KK => Ld1 v52_1 fun v53 =>
  KK v53) fun v53_1 =>
  BinI .eql v48_1 v53_1 fun v54 =>
  QtC fun I =>
  Grd v54 true (QE (fun _ => True) (fun KK => IA 2 a1 v10 fun v58 =>
  KK v58) fun v58_1 =>
  QE (fun _ => True) (fun KK => FA v58_1 1 fun v59 =>
  KK v59) fun v59_1 =>
  QE I (fun KK => Ld1 v59_1 fun v60 =>
  KK v60) fun v60_1 =>
  QE (fun _ => True) (fun KK => IA 2 a0 v7 fun v63 =>
  KK v63) fun v63_1 =>
  QE (fun _ => True) (fun KK => FA v63_1 1 fun v64 =>
  KK v64) fun v64_1 =>
  QE I (fun KK => Ld1 v64_1 fun v65 =>
  KK v65) fun v65_1 =>
  FnV pg (.func (.func 50) #[] #[]) #[v60_1, v65_1] fun v66 =>
  BinI .add v10 (.int .i64 1) fun v41 =>
  vK_2 [v66, v41])
  (BinI .add v10 (.int .i64 1) fun v41_1 =>
  vK_2 [(.bool false), v41_1]))
  (QtC fun _ =>
  BinI .add v10 (.int .i64 1) fun v41_2 =>
  vK_2 [(.bool true), v41_2]))
  (Un .not v8_1 fun v70 =>
  Cnd v70 (KR (.bool false))
  (BinI .add v7 (.int .i64 1) fun v16 =>
  vK [v6, v16]))))
  (KR (.bool true))
theorem V.jacinthref21_Within_ok {a0 a1 a2 : Value} {K : Value → WP} {w : World} (h : V.jacinthref21_Within a0 a1 a2 K w) : Cl pg 19 #[a0, a1, a2] K w :=
  cl_of pg_mixed Tryz.func19 (args := [a0, a1, a2]) (by kernel_rfl) (by rw [show WF pg Tryz.f19 [a0, a1, a2] K = V.jacinthref21_Within a0 a1 a2 K from by kernel_rfl]; exact h)
end Go.Proofs.YtcdkbkgpgemfgaaGreatDoor
