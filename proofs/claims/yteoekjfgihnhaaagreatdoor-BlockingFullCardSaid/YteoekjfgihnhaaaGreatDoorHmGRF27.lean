/- A piece of a run, reckoned. -/
import Derived.Test.YteoekjfgihnhaaaGreatDoorHmGRF26
set_option linter.all false
noncomputable section
namespace Go.Am.FSt
open Go.RowKit Go.Proofs

theorem r1 : allOk hCall [p1] = true := by kernel_rfl
end Go.Am.FSt
