/- 'musterlaw11.HealthNames' returns true for every input, and its argument reads behind the call as it read before; package variables lie as the program's text lays them (the tied card). -/
import Derived.Test.YtcfifjicjpncpaaGreatDoorHmRHNamesL
import Derived.Test.YtcfifjicjpncpaaGreatDoorHmHC0
import Derived.Test.YtcfifjicjpncpaaGreatDoorHmHC4
import Derived.Test.YtcfifjicjpncpaaGreatDoorTie
import Derived.Test.YtcfifjicjpncpaaGreatDoorCards
import Derived.Lay
import Derived.ProofKit
import Derived.SevenTiedAt
import Derived.SizedLaws
set_option linter.all false
noncomputable section
namespace Go.Proofs.YtcfifjicjpncpaaGreatDoor.Facts
open Go.ChangeShapes Go.WideShapes
theorem closed4 : joinedFacts Tryz.pinned.checked.prog 4 Tryz.f4 Rows.healthNamesSpec Rows.healthNamesRow = true := by
  unfold joinedFacts
  rw [wf4, laidOut, mapsRow, inPlace4, unf4, rec4, named4, keys4, heard, enter, lifts4]
  kernel_rfl
end Go.Proofs.YtcfifjicjpncpaaGreatDoor.Facts
namespace Go.Proofs.YtcfifjicjpncpaaGreatDoor.Names
open Go.ChangeShapes Go.WideShapes Go.ChangeAt Go.RowKit Go.Am
theorem holds : Rows.HealthNamesSaid :=
  OpenClaim.holds_of_wide 4 Tryz.f4 rfl rfl rfl rfl rfl rfl rfl ⟨rfl, rfl, rfl, rfl, rfl⟩ rfl rfl rfl rfl rfl (by kernel_rfl) Tryz.func4 Facts.closed4
    (of_decide_eq_true (by kernel_rfl)) (by unfold Func.isWrapper; first | (rw [if_pos (by decide +kernel)]; kernel_rfl) | (rw [if_neg (by decide +kernel)]; exact ⟨rfl, rfl⟩))
    (fun os started H enc _ => lifted os started H enc)
theorem proved : Rows.HealthNamesCardSaid :=
  Claim7.holds_tied_plain_at .later [] [.data, .data, .data, .data, .sentinel, .sentinel, .widerDeep, .pinned] true (true, "8944c0c5e47ee9fe42a9f9d222881c5f4ec647c3c2a2ab2f3c7fc6d379816363") true holds (fun _ h => by cases h) (by kernel_rfl) (fun _ h => by cases h) healthNames_row_tie rfl ⟨rfl, rfl⟩ (by kernel_rfl) rfl
    (fun f fn hf hfn => by
      obtain rfl : f = 4 := Option.some.inj ((show Tryz.prog.funcNamed "muster/musterlaw11.HealthNames" = some 4 by kernel_rfl).symm.trans hf) |>.symm
      obtain rfl : fn = Tryz.f4 := (Option.some.inj (Tryz.func4.symm.trans hfn)).symm
      exact ⟨by kernel_rfl, fun j t ht => by
        rw [Tryz.params4] at ht
        have hm : t ∈ [3] := by simpa using Array.mem_of_getElem? ht
        have hall : ([3].all fun u => !Tryz.prog.wantsStandIn u) = true := by kernel_rfl
        exact (show Tryz.prog.wantsStandIn t = false by simpa using List.all_eq_true.1 hall t hm)⟩)
    (by kernel_rfl)
#print axioms proved
end Go.Proofs.YtcfifjicjpncpaaGreatDoor.Names
