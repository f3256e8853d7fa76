/- KernelConsumes: runs. -/
import Derived.Test.YtfehhjjfmbjlfaaGreatDoorLConsA
set_option maxRecDepth 1000000
namespace Go.Proofs.YtfehhjjfmbjlfaaGreatDoor
open Go Go.Jac
theorem cons_r4t : isTrue (consA 4 true) = true := by kernel_rfl
theorem cons_r4f : isTrue (consA 4 false) = true := by kernel_rfl
theorem cons_r5t : isTrue (consA 5 true) = true := by kernel_rfl
theorem cons_r5f : isTrue (consA 5 false) = true := by kernel_rfl
def consTl : XT := [(.lss, .sym 0 0, .int .i64 1, .bool true)]
def consTg : XT := [(.lss, .sym 0 0, .int .i64 1, .bool false), (.gtr, .sym 0 0, .int .i64 5, .bool true)]
theorem cons_runsl : isTrue (lawRun [] consTl 4 [.sym 0 0, .sym 0 1, .sym 1 0]) = true := by kernel_rfl
theorem cons_runsg : isTrue (lawRun [] consTg 4 [.sym 0 0, .sym 0 1, .sym 1 0]) = true := by kernel_rfl
end Go.Proofs.YtfehhjjfmbjlfaaGreatDoor
