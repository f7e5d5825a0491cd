/- Numbers of queries, reckoned. -/
import Derived.Test.YteoekjfgihnhaaaGreatDoorHmGRF29
set_option linter.all false
noncomputable section
namespace Go.Am
open Go.RowKit Go.Proofs

set_option maxRecDepth 1000000 in
theorem fd3 : [5, 56, 6, 55].all chk = true := by kernel_rfl
end Go.Am
