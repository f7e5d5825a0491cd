/- What the rows of the seat ask of the program's text, fact by fact: of BlockingFull. -/
import Derived.Test.YteoekjfgihnhaaaGreatDoorRows
import Derived.JoinedOf
import Derived.KernelRfl
set_option linter.all false
noncomputable section
namespace Go.Proofs.YteoekjfgihnhaaaGreatDoor.Facts
open Go.ChangeShapes Go.WideShapes
theorem wf5 : Rows.blockingFullRow.wf (OpenSpec.ofChange Rows.blockingFullSpec) = true := by kernel_rfl
theorem inPlace5 : (Rows.blockingFullRow.inPlace == Tryz.pinned.checked.prog.inPlace 5) = true := by kernel_rfl
theorem unf5 : (Rows.blockingFullRow.unfollowed == Tryz.pinned.checked.prog.unfollowed 5) = true := by kernel_rfl
theorem rec5 : (Rows.blockingFullRow.recurses == Tryz.pinned.checked.prog.recurses 5) = true := by kernel_rfl
theorem named5 : (Rows.blockingFullRow.named == Tryz.pinned.checked.prog.varsNamed 5) = true := by kernel_rfl
theorem keys5 : (Rows.blockingFullRow.plainKeys == Tryz.pinned.checked.prog.plainKeys) = true := by kernel_rfl
theorem lifts5 : (Rows.blockingFullRow.lifted == Tryz.pinned.checked.prog.liftsFinal) = true := by kernel_rfl
end Go.Proofs.YteoekjfgihnhaaaGreatDoor.Facts
