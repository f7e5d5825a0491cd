/- What the facts of blockingFull's row are, and what it says. -/
import Derived.Test.YteoekjfgihnhaaaGreatDoorHmRBFullL
import Derived.Test.YteoekjfgihnhaaaGreatDoorHmBC0
import Derived.Test.YteoekjfgihnhaaaGreatDoorHmBC5
import Derived.Test.YteoekjfgihnhaaaGreatDoorTie
import Derived.Test.YteoekjfgihnhaaaGreatDoorCards
import Derived.Lay
import Derived.ProofKit
import Derived.SevenTiedAt
import Derived.SizedLaws
set_option linter.all false
noncomputable section
namespace Go.Proofs.YteoekjfgihnhaaaGreatDoor.Facts
open Go.ChangeShapes Go.WideShapes
theorem closed5 : joinedFacts Tryz.pinned.checked.prog 5 Tryz.f5 Rows.blockingFullSpec Rows.blockingFullRow = true := by
  unfold joinedFacts
  rw [wf5, laidOut, mapsRow, inPlace5, unf5, rec5, named5, keys5, heard, enter, lifts5]
  kernel_rfl
end Go.Proofs.YteoekjfgihnhaaaGreatDoor.Facts
namespace Go.Proofs.YteoekjfgihnhaaaGreatDoor.BFull
open Go.ChangeShapes Go.WideShapes Go.ChangeAt Go.RowKit Go.Am
theorem holds : Rows.BlockingFullSaid :=
  OpenClaim.holds_of_wide 5 Tryz.f5 rfl rfl rfl rfl rfl rfl rfl ⟨rfl, rfl, rfl, rfl, rfl⟩ rfl rfl rfl rfl rfl (by kernel_rfl) Tryz.func5 Facts.closed5
    (of_decide_eq_true (by kernel_rfl)) (by unfold Func.isWrapper; first | (rw [if_pos (by decide +kernel)]; kernel_rfl) | (rw [if_neg (by decide +kernel)]; exact ⟨rfl, rfl⟩))
    (fun os started H enc _ => lifted os started H enc)
end Go.Proofs.YteoekjfgihnhaaaGreatDoor.BFull
