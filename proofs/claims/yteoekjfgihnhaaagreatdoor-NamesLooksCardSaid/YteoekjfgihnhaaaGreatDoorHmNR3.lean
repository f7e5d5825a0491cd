/- Pieces of a run, reckoned. -/
import Derived.Test.YteoekjfgihnhaaaGreatDoorHmNSt
set_option linter.all false
noncomputable section
namespace Go.Am.NSt
open Go.RowKit Go.Proofs

theorem r5 : allOk hCall [p5, p6, p7, p8] = true := by kernel_rfl
end Go.Am.NSt
