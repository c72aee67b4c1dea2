/- GraphBasic at 3, by the kernel. -/
import Derived.Test.YtplfpmfnlbfhkaaGreatDoorSLives
namespace Go.Am
open Go Go.Proofs
set_option maxRecDepth 100000 in
theorem basic3 : pureCall seatE2 100000 7 [.int .i64 3] = some (.bool true) := by kernel_rfl
end Go.Am
