/- KernelPairs: runs. -/
import Derived.Test.YtfehhjjfmbjlfaaGreatDoorLPairsC
set_option maxRecDepth 1000000
namespace Go.Proofs.YtfehhjjfmbjlfaaGreatDoor
open Go Go.Jac
theorem pairs_z0 : isTrue (pairsRun (.int .i64 0) [] [.int .i64 0, .sym 0 0, .sym 1 0]) = true := by kernel_rfl
theorem pairs_z1 : isTrue (pairsRun (.int .i64 0) [] [.int .i64 1, .sym 0 0, .sym 1 0]) = true := by kernel_rfl
theorem pairs_z2 : isTrue (pairsRun (.int .i64 0) [] [.int .i64 2, .sym 0 0, .sym 1 0]) = true := by kernel_rfl
theorem pairs_z3 : isTrue (pairsRun (.int .i64 0) [] [.int .i64 3, .sym 0 0, .sym 1 0]) = true := by kernel_rfl
def pairsTl : XT := [(.lss, .sym 0 1, .int .i64 0, .bool true)]
def pairsTg : XT := [(.lss, .sym 0 1, .int .i64 0, .bool false), (.gtr, .sym 0 1, .int .i64 3, .bool true)]
theorem pairs_l (r : X) : isTrue (pairsRun r pairsTl [.sym 0 1, .sym 0 0, .sym 1 0]) = true := by kernel_rfl
theorem pairs_g (r : X) : isTrue (pairsRun r pairsTg [.sym 0 1, .sym 0 0, .sym 1 0]) = true := by kernel_rfl
end Go.Proofs.YtfehhjjfmbjlfaaGreatDoor
