/- What the rows of the health seat ask of the program's text, fact by fact: of HealthWorst. -/
import Derived.Test.YtcfifjicjpncpaaGreatDoorRows
import Derived.JoinedOf
import Derived.KernelRfl
set_option linter.all false
noncomputable section
namespace Go.Proofs.YtcfifjicjpncpaaGreatDoor.Facts
open Go.ChangeShapes Go.WideShapes
theorem wf3 : Rows.healthWorstRow.wf (OpenSpec.ofChange Rows.healthWorstSpec) = true := by kernel_rfl
theorem inPlace3 : (Rows.healthWorstRow.inPlace == Tryz.pinned.checked.prog.inPlace 3) = true := by kernel_rfl
theorem unf3 : (Rows.healthWorstRow.unfollowed == Tryz.pinned.checked.prog.unfollowed 3) = true := by kernel_rfl
theorem rec3 : (Rows.healthWorstRow.recurses == Tryz.pinned.checked.prog.recurses 3) = true := by kernel_rfl
theorem named3 : (Rows.healthWorstRow.named == Tryz.pinned.checked.prog.varsNamed 3) = true := by kernel_rfl
theorem keys3 : (Rows.healthWorstRow.plainKeys == Tryz.pinned.checked.prog.plainKeys) = true := by kernel_rfl
theorem lifts3 : (Rows.healthWorstRow.lifted == Tryz.pinned.checked.prog.liftsFinal) = true := by kernel_rfl
end Go.Proofs.YtcfifjicjpncpaaGreatDoor.Facts
