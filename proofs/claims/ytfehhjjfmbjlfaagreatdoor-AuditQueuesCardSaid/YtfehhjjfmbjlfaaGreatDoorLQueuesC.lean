/- AuditQueues: runs. -/
import Derived.Test.YtfehhjjfmbjlfaaGreatDoorLQueuesB
set_option maxRecDepth 1000000
namespace Go.Proofs.YtfehhjjfmbjlfaaGreatDoor
open Go Go.Jac
theorem queues_r3t : isTrue (queuesA 3 true) = true := by kernel_rfl
theorem queues_r3f : isTrue (queuesA 3 false) = true := by kernel_rfl
def queuesTl : XT := [(.lss, .sym 0 0, .int .i64 0, .bool true)]
def queuesTg : XT := [(.lss, .sym 0 0, .int .i64 0, .bool false), (.gtr, .sym 0 0, .int .i64 3, .bool true)]
theorem queues_runsl : isTrue (lawRun [] queuesTl 5 [.sym 0 0, .sym 0 1]) = true := by kernel_rfl
theorem queues_runsg : isTrue (lawRun [] queuesTg 5 [.sym 0 0, .sym 0 1]) = true := by kernel_rfl
end Go.Proofs.YtfehhjjfmbjlfaaGreatDoor
