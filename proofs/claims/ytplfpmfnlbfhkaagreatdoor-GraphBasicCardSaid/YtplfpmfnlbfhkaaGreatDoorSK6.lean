/- GraphBasic at 6, by the kernel. -/
import Derived.Test.YtplfpmfnlbfhkaaGreatDoorSLives
namespace Go.Am
open Go Go.Proofs
set_option maxRecDepth 100000 in
theorem basic6 : pureCall seatE2 100000 7 [.int .i64 6] = some (.bool true) := by kernel_rfl
end Go.Am
