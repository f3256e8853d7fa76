/- AuditQueues: runs. -/
import Derived.Test.YtfehhjjfmbjlfaaGreatDoorLQueuesA
set_option maxRecDepth 1000000
namespace Go.Proofs.YtfehhjjfmbjlfaaGreatDoor
open Go Go.Jac
theorem queues_r2t : isTrue (queuesA 2 true) = true := by kernel_rfl
theorem queues_r2f : isTrue (queuesA 2 false) = true := by kernel_rfl
end Go.Proofs.YtfehhjjfmbjlfaaGreatDoor
