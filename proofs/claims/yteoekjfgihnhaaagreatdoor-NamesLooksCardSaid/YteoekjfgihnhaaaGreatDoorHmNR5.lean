/- Pieces of a run, reckoned. -/
import Derived.Test.YteoekjfgihnhaaaGreatDoorHmNSt
set_option linter.all false
noncomputable section
namespace Go.Am.NSt
open Go.RowKit Go.Proofs

theorem r13 : allOk hCall [p13, p14, p15] = true := by kernel_rfl
end Go.Am.NSt
