/- The health seat: pieces of the run of healthAlive, reckoned. -/
import Derived.Test.YtcfifjicjpncpaaGreatDoorHmGRHWorst28
set_option linter.all false
noncomputable section
namespace Go.Am.HSt
open Go.RowKit Go.Proofs

theorem r2 : allOk hCall [p2, p3, p4] = true := by kernel_rfl
theorem r14 : allOk hCall [p14, p15, p16, p17] = true := by kernel_rfl
theorem r18 : allOk hCall [p18, p19, p20, p21] = true := by kernel_rfl
end Go.Am.HSt
