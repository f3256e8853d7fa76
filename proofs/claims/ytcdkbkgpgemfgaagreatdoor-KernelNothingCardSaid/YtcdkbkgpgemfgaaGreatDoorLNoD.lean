/- KernelNothing: runs of the first thread's calls of numbers that are none. -/
import Derived.Test.YtcdkbkgpgemfgaaGreatDoorLNoA
set_option maxRecDepth 1000000
namespace Go.Proofs.YtcdkbkgpgemfgaaGreatDoor
open Go Go.Jac
def numT (g l e : Bool) : XT := ([1, 8, 14, 20, 28, 34, 39].map fun n => (.geq, .sym 0 1, .int .i64 n, .bool g)) ++ ([5, 10, 19, 27, 33, 38, 48].map fun n => (.leq, .sym 0 1, .int .i64 n, .bool l)) ++ ([6, 7, 13, 17, 11, 12, 49].map fun n => (.eql, .sym 0 1, .int .i64 n, .bool e))
section
variable (x1 x2 x3 x4 x5 x6 : Int) (q7 : Option Addr) (n7 c7 : Nat) (q8 : Option Addr) (n8 c8 : Nat)
theorem no_lo : noRun (numT false true false) (-2) (.int .i64 3) (callX (.sym 0 1) x1 x2 x3 x4 x5 x6 q7 n7 c7 q8 n8 c8) = true := by kernel_rfl
theorem no_hi : noRun (numT true false false) (-2) (.int .i64 3) (callX (.sym 0 1) x1 x2 x3 x4 x5 x6 q7 n7 c7 q8 n8 c8) = true := by kernel_rfl
end
end Go.Proofs.YtcdkbkgpgemfgaaGreatDoor
