/- The health seat: pieces of the run of healthAlive, reckoned. -/
import Derived.Test.YtcfifjicjpncpaaGreatDoorHmGRHWorst28
set_option linter.all false
noncomputable section
namespace Go.Am.HSt
open Go.RowKit Go.Proofs

theorem r30 : allOk hCall [p30, p31, p32, p33] = true := by kernel_rfl
theorem r34 : allOk hCall [p34, p35, p36, p37] = true := by kernel_rfl
end Go.Am.HSt
