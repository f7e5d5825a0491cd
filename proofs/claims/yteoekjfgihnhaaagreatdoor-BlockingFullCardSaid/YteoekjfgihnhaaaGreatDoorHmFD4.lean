/- Numbers of queries, reckoned. -/
import Derived.Test.YteoekjfgihnhaaaGreatDoorHmGRF29
set_option linter.all false
noncomputable section
namespace Go.Am
open Go.RowKit Go.Proofs

set_option maxRecDepth 1000000 in
theorem fd4 : [7, 54, 8, 53].all chk = true := by kernel_rfl
end Go.Am
