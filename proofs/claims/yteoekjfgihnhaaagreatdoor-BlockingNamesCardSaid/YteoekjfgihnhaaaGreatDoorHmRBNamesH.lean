/- What the facts of blockingNames's row are, and what it says. -/
import Derived.Test.YteoekjfgihnhaaaGreatDoorHmRBNamesL
import Derived.Test.YteoekjfgihnhaaaGreatDoorHmBC0
import Derived.Test.YteoekjfgihnhaaaGreatDoorHmBC4
import Derived.Test.YteoekjfgihnhaaaGreatDoorTie
import Derived.Test.YteoekjfgihnhaaaGreatDoorCards
import Derived.Lay
import Derived.ProofKit
import Derived.SevenTiedAt
import Derived.SizedLaws
set_option linter.all false
noncomputable section
namespace Go.Proofs.YteoekjfgihnhaaaGreatDoor.Facts
open Go.ChangeShapes Go.WideShapes
theorem closed4 : joinedFacts Tryz.pinned.checked.prog 4 Tryz.f4 Rows.blockingNamesSpec Rows.blockingNamesRow = true := by
  unfold joinedFacts
  rw [wf4, laidOut, mapsRow, inPlace4, unf4, rec4, named4, keys4, heard, enter, lifts4]
  kernel_rfl
end Go.Proofs.YteoekjfgihnhaaaGreatDoor.Facts
namespace Go.Proofs.YteoekjfgihnhaaaGreatDoor.BNames
open Go.ChangeShapes Go.WideShapes Go.ChangeAt Go.RowKit Go.Am
theorem holds : Rows.BlockingNamesSaid :=
  OpenClaim.holds_of_wide 4 Tryz.f4 rfl rfl rfl rfl rfl rfl rfl ⟨rfl, rfl, rfl, rfl, rfl⟩ rfl rfl rfl rfl rfl (by kernel_rfl) Tryz.func4 Facts.closed4
    (of_decide_eq_true (by kernel_rfl)) (by unfold Func.isWrapper; first | (rw [if_pos (by decide +kernel)]; kernel_rfl) | (rw [if_neg (by decide +kernel)]; exact ⟨rfl, rfl⟩))
    (fun os started H enc _ => lifted os started H enc)
end Go.Proofs.YteoekjfgihnhaaaGreatDoor.BNames
