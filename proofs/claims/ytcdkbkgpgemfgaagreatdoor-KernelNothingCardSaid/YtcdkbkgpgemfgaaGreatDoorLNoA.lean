/- KernelNothing: runs. -/
import Derived.Test.YtcdkbkgpgemfgaaGreatDoorKw
set_option maxRecDepth 1000000
namespace Go.Proofs.YtcdkbkgpgemfgaaGreatDoor
open Go Go.Jac
def setX : X := .agg [.int .i64 20, .int .i64 10, .int .i64 3, .int .i64 10, .int .i64 10]
/-- What is done, by tables T: a kernel, its picture, a call, the picture again. -/
noncomputable def noRun (T : XT) (st : Int) (thr c : X) : Bool :=
  tst (xRun pg (gvD glN (drR [] T)) intr1 3000 60 true 20 [setX] s0) fun p S1 => cond (isPtr p) (
  tst (xRun pg (gvD glN (drR [] T)) intr1 3000 60 true 23 [p] S1) fun was S2 =>
  tst (xRun pg (gvD glN (drR [] T)) intr1 3000 60 true 24 [p, thr, c] S2) fun r S3 => cond (isSt st r) (
  tst (xRun pg (gvD glN (drR [] T)) intr1 3000 60 true 23 [p] S3) fun pic S4 =>
  tst (xRun pg (gvD glN (drR [] T)) intr1 3000 60 true 26 [pic, was] S4) fun b _ => isTt b) false) false
def callX (n : X) (x1 x2 x3 x4 x5 x6 : Int) (q7 : Option Addr) (n7 c7 : Nat) (q8 : Option Addr) (n8 c8 : Nat) : X :=
  .agg [n, .lit (.int .i64 x1), .lit (.int .i64 x2), .lit (.int .i64 x3), .lit (.int .i64 x4), .lit (.int .i64 x5), .lit (.int .i64 x6), .lit (.slice q7 n7 c7), .lit (.slice q8 n8 c8)]
def noTl : XT := [(.lss, .sym 0 0, .int .i64 1, .bool true)]
def noTg : XT := [(.lss, .sym 0 0, .int .i64 1, .bool false), (.gtr, .sym 0 0, .int .i64 3, .bool true)]
section
variable (x0 x1 x2 x3 x4 x5 x6 : Int) (q7 : Option Addr) (n7 c7 : Nat) (q8 : Option Addr) (n8 c8 : Nat)
theorem no_l : noRun noTl (-20) (.sym 0 0) (callX (.lit (.int .i64 x0)) x1 x2 x3 x4 x5 x6 q7 n7 c7 q8 n8 c8) = true := by kernel_rfl
theorem no_g : noRun noTg (-20) (.sym 0 0) (callX (.lit (.int .i64 x0)) x1 x2 x3 x4 x5 x6 q7 n7 c7 q8 n8 c8) = true := by kernel_rfl
theorem no_1 : noRun [] (-20) (.int .i64 1) (callX (.lit (.int .i64 x0)) x1 x2 x3 x4 x5 x6 q7 n7 c7 q8 n8 c8) = true := by kernel_rfl
theorem no_2 : noRun [] (-20) (.int .i64 2) (callX (.lit (.int .i64 x0)) x1 x2 x3 x4 x5 x6 q7 n7 c7 q8 n8 c8) = true := by kernel_rfl
end
end Go.Proofs.YtcdkbkgpgemfgaaGreatDoor
