/- Numbers of queries, reckoned. -/
import Derived.Test.YteoekjfgihnhaaaGreatDoorHmGRF29
set_option linter.all false
noncomputable section
namespace Go.Am
open Go.RowKit Go.Proofs

set_option maxRecDepth 1000000 in
theorem fd5 : [9, 52, 10, 51].all chk = true := by kernel_rfl
end Go.Am
