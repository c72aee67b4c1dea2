/- GraphBasic at 0, by the kernel. -/
import Derived.Test.YtplfpmfnlbfhkaaGreatDoorSLives
namespace Go.Am
open Go Go.Proofs
set_option maxRecDepth 100000 in
theorem basic0 : pureCall seatE2 100000 7 [.int .i64 0] = some (.bool true) := by kernel_rfl
end Go.Am
