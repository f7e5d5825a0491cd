/- What the rows of the health seat ask of the program's text, fact by fact: of HealthNames. -/
import Derived.Test.YtcfifjicjpncpaaGreatDoorRows
import Derived.JoinedOf
import Derived.KernelRfl
set_option linter.all false
noncomputable section
namespace Go.Proofs.YtcfifjicjpncpaaGreatDoor.Facts
open Go.ChangeShapes Go.WideShapes
theorem wf4 : Rows.healthNamesRow.wf (OpenSpec.ofChange Rows.healthNamesSpec) = true := by kernel_rfl
theorem inPlace4 : (Rows.healthNamesRow.inPlace == Tryz.pinned.checked.prog.inPlace 4) = true := by kernel_rfl
theorem unf4 : (Rows.healthNamesRow.unfollowed == Tryz.pinned.checked.prog.unfollowed 4) = true := by kernel_rfl
theorem rec4 : (Rows.healthNamesRow.recurses == Tryz.pinned.checked.prog.recurses 4) = true := by kernel_rfl
theorem named4 : (Rows.healthNamesRow.named == Tryz.pinned.checked.prog.varsNamed 4) = true := by kernel_rfl
theorem keys4 : (Rows.healthNamesRow.plainKeys == Tryz.pinned.checked.prog.plainKeys) = true := by kernel_rfl
theorem lifts4 : (Rows.healthNamesRow.lifted == Tryz.pinned.checked.prog.liftsFinal) = true := by kernel_rfl
end Go.Proofs.YtcfifjicjpncpaaGreatDoor.Facts
