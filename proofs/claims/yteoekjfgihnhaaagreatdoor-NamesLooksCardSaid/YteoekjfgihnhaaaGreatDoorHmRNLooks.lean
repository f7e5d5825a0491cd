/- 'musterlaw21.NamesLooks' returns true for every input, and its argument reads behind the call as it read before; package variables lie as the program's text lays them (the tied card). -/
import Derived.Test.YteoekjfgihnhaaaGreatDoorHmRNLooksH
import Derived.Test.YteoekjfgihnhaaaGreatDoorTie
import Derived.Test.YteoekjfgihnhaaaGreatDoorCards
import Derived.Lay
import Derived.ProofKit
import Derived.SevenTiedAt
import Derived.SizedLaws
set_option linter.all false
noncomputable section
namespace Go.Proofs.YteoekjfgihnhaaaGreatDoor.NLooks
open Go.ChangeShapes Go.WideShapes Go.ChangeAt Go.RowKit Go.Am
theorem proved : Rows.NamesLooksCardSaid :=
  Claim7.holds_tied_plain_at .later [] [.data, .data, .data, .data, .sentinel, .sentinel, .widerDeep, .pinned] true (true, "98ca0c21d88f01b3db0ceba7380badba4c56bb5680a566a4f3f2ae11dd496012") true holds (fun _ h => by cases h) (by kernel_rfl) (fun _ h => by cases h) namesLooks_row_tie rfl ⟨rfl, rfl⟩ (by kernel_rfl) rfl
    (fun f fn hf hfn => by
      obtain rfl : f = 3 := Option.some.inj ((show Tryz.prog.funcNamed "muster/musterlaw21.NamesLooks" = some 3 by kernel_rfl).symm.trans hf) |>.symm
      obtain rfl : fn = Tryz.f3 := (Option.some.inj (Tryz.func3.symm.trans hfn)).symm
      exact ⟨by kernel_rfl, fun j t ht => by
        rw [Tryz.params3] at ht
        have hm : t ∈ [22] := by simpa using Array.mem_of_getElem? ht
        have hall : ([22].all fun u => !Tryz.prog.wantsStandIn u) = true := by kernel_rfl
        exact (show Tryz.prog.wantsStandIn t = false by simpa using List.all_eq_true.1 hall t hm)⟩)
    (Facts.goesAt_none Facts.noGo _).symm
#print axioms proved
end Go.Proofs.YteoekjfgihnhaaaGreatDoor.NLooks
