/- The health seat: pieces of the run of healthAlive, reckoned. -/
import Derived.Test.YtcfifjicjpncpaaGreatDoorHmGRHWorst28
set_option linter.all false
noncomputable section
namespace Go.Am.HSt
open Go.RowKit Go.Proofs

theorem r5 : allOk hCall [p5] = true := by kernel_rfl
theorem r22 : allOk hCall [p22, p23, p24, p25] = true := by kernel_rfl
theorem r26 : allOk hCall [p26, p27, p28, p29] = true := by kernel_rfl
end Go.Am.HSt
