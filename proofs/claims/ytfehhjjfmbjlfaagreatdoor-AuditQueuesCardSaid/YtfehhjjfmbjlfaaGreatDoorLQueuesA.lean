/- AuditQueues: runs. -/
import Derived.Test.YtfehhjjfmbjlfaaGreatDoorKz
set_option maxRecDepth 1000000
namespace Go.Proofs.YtfehhjjfmbjlfaaGreatDoor
open Go Go.Jac
noncomputable def queuesA (n : Int) (b : Bool) : R (X × XS) := lawRun [] [] 5 [.int .i64 n, .bool b]
theorem queues_r0t : isTrue (queuesA 0 true) = true := by kernel_rfl
theorem queues_r0f : isTrue (queuesA 0 false) = true := by kernel_rfl
theorem queues_r1t : isTrue (queuesA 1 true) = true := by kernel_rfl
theorem queues_r1f : isTrue (queuesA 1 false) = true := by kernel_rfl
end Go.Proofs.YtfehhjjfmbjlfaaGreatDoor
