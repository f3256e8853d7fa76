/- KernelConsumes: runs. -/
import Derived.Test.YtfehhjjfmbjlfaaGreatDoorKz
set_option maxRecDepth 1000000
namespace Go.Proofs.YtfehhjjfmbjlfaaGreatDoor
open Go Go.Jac
noncomputable def consA (n : Int) (b : Bool) : R (X × XS) := lawRun [] [] 4 [.int .i64 n, .bool b, .sym 1 0]
theorem cons_r1t : isTrue (consA 1 true) = true := by kernel_rfl
theorem cons_r1f : isTrue (consA 1 false) = true := by kernel_rfl
theorem cons_r2t : isTrue (consA 2 true) = true := by kernel_rfl
theorem cons_r2f : isTrue (consA 2 false) = true := by kernel_rfl
theorem cons_r3t : isTrue (consA 3 true) = true := by kernel_rfl
theorem cons_r3f : isTrue (consA 3 false) = true := by kernel_rfl
end Go.Proofs.YtfehhjjfmbjlfaaGreatDoor
