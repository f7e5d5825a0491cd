/- What the rows of the health seat ask of the program's text, fact by fact: of all. -/
import Derived.Test.YtcfifjicjpncpaaGreatDoorRows
import Derived.JoinedOf
import Derived.KernelRfl
set_option linter.all false
noncomputable section
namespace Go.Proofs.YtcfifjicjpncpaaGreatDoor.Facts
open Go.ChangeShapes Go.WideShapes
theorem laidOut : laidOutB Tryz.pinned.checked.prog = true := by kernel_rfl
theorem mapsRow : mapsRowed Tryz.pinned.checked.prog = true := by kernel_rfl
theorem heard : Tryz.pinned.checked.prog.stopsHeard = true := by kernel_rfl
theorem enter : Tryz.pinned.checked.prog.mayEnter = true := by kernel_rfl
end Go.Proofs.YtcfifjicjpncpaaGreatDoor.Facts
