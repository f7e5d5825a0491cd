/- What the rows of the seat ask of the program's text, fact by fact: of NamesLooks. -/
import Derived.Test.YteoekjfgihnhaaaGreatDoorRows
import Derived.JoinedOf
import Derived.KernelRfl
set_option linter.all false
noncomputable section
namespace Go.Proofs.YteoekjfgihnhaaaGreatDoor.Facts
open Go.ChangeShapes Go.WideShapes
theorem wf3 : Rows.namesLooksRow.wf (OpenSpec.ofChange Rows.namesLooksSpec) = true := by kernel_rfl
theorem inPlace3 : (Rows.namesLooksRow.inPlace == Tryz.pinned.checked.prog.inPlace 3) = true := by kernel_rfl
theorem unf3 : (Rows.namesLooksRow.unfollowed == Tryz.pinned.checked.prog.unfollowed 3) = true := by kernel_rfl
theorem rec3 : (Rows.namesLooksRow.recurses == Tryz.pinned.checked.prog.recurses 3) = true := by kernel_rfl
theorem named3 : (Rows.namesLooksRow.named == Tryz.pinned.checked.prog.varsNamed 3) = true := by kernel_rfl
theorem keys3 : (Rows.namesLooksRow.plainKeys == Tryz.pinned.checked.prog.plainKeys) = true := by kernel_rfl
theorem lifts3 : (Rows.namesLooksRow.lifted == Tryz.pinned.checked.prog.liftsFinal) = true := by kernel_rfl
end Go.Proofs.YteoekjfgihnhaaaGreatDoor.Facts
