/- The law at one of its eight inputs, by the abstract machine: the kernel's own reckoning. -/
import Derived.Test.YthaodoaaefhhcaaGreatDoorJoin
namespace Go.Proofs.YthaodoaaefhhcaaGreatDoor
open Go Go.Proofs Go.Aw
set_option maxRecDepth 100000
set_option maxHeartbeats 0
theorem run3 : yes (machine 3 #[.bool false, .bool true, .bool true] (Aw.start 1000)) = true := by kernel_rfl
end Go.Proofs.YthaodoaaefhhcaaGreatDoor
