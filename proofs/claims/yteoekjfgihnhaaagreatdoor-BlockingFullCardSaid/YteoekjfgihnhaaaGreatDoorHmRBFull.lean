/- 'musterlaw15.BlockingFull' returns true for every input, its arguments are numbers; package variables lie as the program's text lays them (the tied card). -/
import Derived.Test.YteoekjfgihnhaaaGreatDoorHmRBFullH
import Derived.Test.YteoekjfgihnhaaaGreatDoorTie
import Derived.Test.YteoekjfgihnhaaaGreatDoorCards
import Derived.Lay
import Derived.ProofKit
import Derived.SevenTiedAt
import Derived.SizedLaws
set_option linter.all false
noncomputable section
namespace Go.Proofs.YteoekjfgihnhaaaGreatDoor.BFull
open Go.ChangeShapes Go.WideShapes Go.ChangeAt Go.RowKit Go.Am
theorem proved : Rows.BlockingFullCardSaid :=
  Claim7.holds_tied_plain_at .later [] [.data, .data, .data, .data, .sentinel, .sentinel, .sentinel, .widerDeep, .pinned] true (true, "98ca0c21d88f01b3db0ceba7380badba4c56bb5680a566a4f3f2ae11dd496012") true holds (fun _ h => by cases h) (by kernel_rfl) (fun _ h => by cases h) blockingFull_row_tie rfl ⟨rfl, rfl⟩ (by kernel_rfl) rfl
    (fun f fn hf hfn => by
      obtain rfl : f = 5 := Option.some.inj ((show Tryz.prog.funcNamed "muster/musterlaw15.BlockingFull" = some 5 by kernel_rfl).symm.trans hf) |>.symm
      obtain rfl : fn = Tryz.f5 := (Option.some.inj (Tryz.func5.symm.trans hfn)).symm
      exact ⟨by kernel_rfl, fun j t ht => by
        rw [Tryz.params5] at ht
        have hm : t ∈ [3, 3] := by simpa using Array.mem_of_getElem? ht
        have hall : ([3, 3].all fun u => !Tryz.prog.wantsStandIn u) = true := by kernel_rfl
        exact (show Tryz.prog.wantsStandIn t = false by simpa using List.all_eq_true.1 hall t hm)⟩)
    (Facts.goesAt_none Facts.noGo _).symm
#print axioms proved
end Go.Proofs.YteoekjfgihnhaaaGreatDoor.BFull
