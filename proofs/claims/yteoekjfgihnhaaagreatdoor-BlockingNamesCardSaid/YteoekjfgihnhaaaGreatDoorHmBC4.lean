/- What the rows of the seat ask of the program's text, fact by fact: of BlockingNames. -/
import Derived.Test.YteoekjfgihnhaaaGreatDoorRows
import Derived.JoinedOf
import Derived.KernelRfl
set_option linter.all false
noncomputable section
namespace Go.Proofs.YteoekjfgihnhaaaGreatDoor.Facts
open Go.ChangeShapes Go.WideShapes
theorem wf4 : Rows.blockingNamesRow.wf (OpenSpec.ofChange Rows.blockingNamesSpec) = true := by kernel_rfl
theorem inPlace4 : (Rows.blockingNamesRow.inPlace == Tryz.pinned.checked.prog.inPlace 4) = true := by kernel_rfl
theorem unf4 : (Rows.blockingNamesRow.unfollowed == Tryz.pinned.checked.prog.unfollowed 4) = true := by kernel_rfl
theorem rec4 : (Rows.blockingNamesRow.recurses == Tryz.pinned.checked.prog.recurses 4) = true := by kernel_rfl
theorem named4 : (Rows.blockingNamesRow.named == Tryz.pinned.checked.prog.varsNamed 4) = true := by kernel_rfl
theorem keys4 : (Rows.blockingNamesRow.plainKeys == Tryz.pinned.checked.prog.plainKeys) = true := by kernel_rfl
theorem lifts4 : (Rows.blockingNamesRow.lifted == Tryz.pinned.checked.prog.liftsFinal) = true := by kernel_rfl
end Go.Proofs.YteoekjfgihnhaaaGreatDoor.Facts
