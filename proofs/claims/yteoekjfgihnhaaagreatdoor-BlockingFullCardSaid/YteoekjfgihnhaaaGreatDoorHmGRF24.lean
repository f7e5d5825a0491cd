/- Pieces of a run, reckoned. -/
import Derived.Test.YteoekjfgihnhaaaGreatDoorHmGRF23
set_option linter.all false
noncomputable section
namespace Go.Am.BSt
open Go.RowKit Go.Proofs

theorem r1 : allOk hCall [p1] = true := by kernel_rfl
end Go.Am.BSt
