/- Pieces of a run, reckoned. -/
import Derived.Test.YteoekjfgihnhaaaGreatDoorHmGRF23
set_option linter.all false
noncomputable section
namespace Go.Am.BSt
open Go.RowKit Go.Proofs

theorem r2 : allOk hCall [p2, p3, p4, p5, p6] = true := by kernel_rfl
end Go.Am.BSt
