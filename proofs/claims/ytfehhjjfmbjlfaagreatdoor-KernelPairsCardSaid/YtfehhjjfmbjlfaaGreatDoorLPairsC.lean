/- KernelPairs: runs. -/
import Derived.Test.YtfehhjjfmbjlfaaGreatDoorLPairsB
set_option maxRecDepth 1000000
namespace Go.Proofs.YtfehhjjfmbjlfaaGreatDoor
open Go Go.Jac
theorem pairs_s0 : isTrue (pairsRun (.sym 0 16) maskT [.int .i64 0, .sym 0 0, .sym 1 0]) = true := by kernel_rfl
theorem pairs_s1 : isTrue (pairsRun (.sym 0 16) maskT [.int .i64 1, .sym 0 0, .sym 1 0]) = true := by kernel_rfl
theorem pairs_s2 : isTrue (pairsRun (.sym 0 16) maskT [.int .i64 2, .sym 0 0, .sym 1 0]) = true := by kernel_rfl
theorem pairs_s3 : isTrue (pairsRun (.sym 0 16) maskT [.int .i64 3, .sym 0 0, .sym 1 0]) = true := by kernel_rfl
end Go.Proofs.YtfehhjjfmbjlfaaGreatDoor
