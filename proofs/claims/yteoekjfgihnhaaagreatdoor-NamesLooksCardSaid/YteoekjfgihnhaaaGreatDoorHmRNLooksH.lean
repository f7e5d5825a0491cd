/- What the facts of namesLooks's row are, and what it says. -/
import Derived.Test.YteoekjfgihnhaaaGreatDoorHmRNLooksL
import Derived.Test.YteoekjfgihnhaaaGreatDoorHmBC0
import Derived.Test.YteoekjfgihnhaaaGreatDoorHmBC3
import Derived.Test.YteoekjfgihnhaaaGreatDoorTie
import Derived.Test.YteoekjfgihnhaaaGreatDoorCards
import Derived.Lay
import Derived.ProofKit
import Derived.SevenTiedAt
import Derived.SizedLaws
set_option linter.all false
noncomputable section
namespace Go.Proofs.YteoekjfgihnhaaaGreatDoor.Facts
open Go.ChangeShapes Go.WideShapes
theorem closed3 : joinedFacts Tryz.pinned.checked.prog 3 Tryz.f3 Rows.namesLooksSpec Rows.namesLooksRow = true := by
  unfold joinedFacts
  rw [wf3, laidOut, mapsRow, inPlace3, unf3, rec3, named3, keys3, heard, enter, lifts3]
  kernel_rfl
end Go.Proofs.YteoekjfgihnhaaaGreatDoor.Facts
namespace Go.Proofs.YteoekjfgihnhaaaGreatDoor.NLooks
open Go.ChangeShapes Go.WideShapes Go.ChangeAt Go.RowKit Go.Am
theorem holds : Rows.NamesLooksSaid :=
  OpenClaim.holds_of_wide 3 Tryz.f3 rfl rfl rfl rfl rfl rfl rfl ⟨rfl, rfl, rfl, rfl, rfl⟩ rfl rfl rfl rfl rfl (by kernel_rfl) Tryz.func3 Facts.closed3
    (of_decide_eq_true (by kernel_rfl)) (by unfold Func.isWrapper; first | (rw [if_pos (by decide +kernel)]; kernel_rfl) | (rw [if_neg (by decide +kernel)]; exact ⟨rfl, rfl⟩))
    (fun os started H enc _ => lifted os started H enc)
end Go.Proofs.YteoekjfgihnhaaaGreatDoor.NLooks
