/- The health seat: pieces of the run of healthAlive, reckoned. -/
import Derived.Test.YtcfifjicjpncpaaGreatDoorHmGRHWorst28
set_option linter.all false
noncomputable section
namespace Go.Am.HSt
open Go.RowKit Go.Proofs

theorem r1 : allOk hCall [p1] = true := by kernel_rfl
theorem r6 : allOk hCall [p6, p7, p8, p9] = true := by kernel_rfl
theorem r10 : allOk hCall [p10, p11, p12, p13] = true := by kernel_rfl
end Go.Am.HSt
