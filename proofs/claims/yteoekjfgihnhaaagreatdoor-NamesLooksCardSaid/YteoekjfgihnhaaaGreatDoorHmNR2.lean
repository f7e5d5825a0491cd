/- Pieces of a run, reckoned. -/
import Derived.Test.YteoekjfgihnhaaaGreatDoorHmNSt
set_option linter.all false
noncomputable section
namespace Go.Am.NSt
open Go.RowKit Go.Proofs

theorem r2 : allOk hCall [p2, p3, p4] = true := by kernel_rfl
end Go.Am.NSt
