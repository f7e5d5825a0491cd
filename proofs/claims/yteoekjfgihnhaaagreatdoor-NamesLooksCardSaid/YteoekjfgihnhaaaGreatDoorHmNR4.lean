/- Pieces of a run, reckoned. -/
import Derived.Test.YteoekjfgihnhaaaGreatDoorHmNSt
set_option linter.all false
noncomputable section
namespace Go.Am.NSt
open Go.RowKit Go.Proofs

theorem r9 : allOk hCall [p9, p10, p11, p12] = true := by kernel_rfl
end Go.Am.NSt
