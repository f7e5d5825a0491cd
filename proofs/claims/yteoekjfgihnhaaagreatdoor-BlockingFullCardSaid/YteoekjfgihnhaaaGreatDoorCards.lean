/-
  DERIVED. GIVEN WITH THE SEED: THE CARDS: each row of YteoekjfgihnhaaaGreatDoorRows.lean that lists a variable, with what it lists TIED to the program's text (the seventh form; the later family's looks); each row that meets fmt, with fmt's text TOLD by the authors' own Lean function (tested against real Go, not proved from fmt's source: count such statements apart). THE CARD IS WHAT COUNTS. Prove the row's statement (the work); the ties are given (YteoekjfgihnhaaaGreatDoorTie.lean); close each card by the builder's one call (the guide's Derived/Test/ToyasCard.lean, 'card_holds'). Laid BY PROGRAM, IN A SANDBOX (cutbox-door.mjs). By AI agents, Wed Nov 11 2026. No macro, syntax, notation, axiom, sorry.
-/
import Derived.Test.YteoekjfgihnhaaaGreatDoorRows
import GoSem.ClaimSeven
namespace Go.Proofs.YteoekjfgihnhaaaGreatDoor
namespace Rows

/-- THE TIED CARD OF 'musterlaw21.NamesLooks'. -/
def namesLooksCard : Claim7 := { stood := { row := namesLooksRow, standIns := [], harness := (true, "98ca0c21d88f01b3db0ceba7380badba4c56bb5680a566a4f3f2ae11dd496012"), looks := true }, kinds := [], alts := [], laidByText := true, laidKinds := [.data, .data, .data, .data, .sentinel, .sentinel, .widerDeep, .pinned], laidTests := true, laidLooks := .later }
def NamesLooksCardSaid : Prop := Claim7.holds Tryz.pinned (.plain (OpenSpec.ofChange namesLooksSpec)) namesLooksCard

/-- THE TIED CARD OF 'musterlaw15.BlockingNames'. -/
def blockingNamesCard : Claim7 := { stood := { row := blockingNamesRow, standIns := [], harness := (true, "98ca0c21d88f01b3db0ceba7380badba4c56bb5680a566a4f3f2ae11dd496012"), looks := true }, kinds := [], alts := [], laidByText := true, laidKinds := [.data, .data, .data, .data, .sentinel, .sentinel, .sentinel, .widerDeep, .pinned], laidTests := true, laidLooks := .later }
def BlockingNamesCardSaid : Prop := Claim7.holds Tryz.pinned (.plain (OpenSpec.ofChange blockingNamesSpec)) blockingNamesCard

/-- THE TIED CARD OF 'musterlaw15.BlockingFull'. -/
def blockingFullCard : Claim7 := { stood := { row := blockingFullRow, standIns := [], harness := (true, "98ca0c21d88f01b3db0ceba7380badba4c56bb5680a566a4f3f2ae11dd496012"), looks := true }, kinds := [], alts := [], laidByText := true, laidKinds := [.data, .data, .data, .data, .sentinel, .sentinel, .sentinel, .widerDeep, .pinned], laidTests := true, laidLooks := .later }
def BlockingFullCardSaid : Prop := Claim7.holds Tryz.pinned (.plain (OpenSpec.ofChange blockingFullSpec)) blockingFullCard

/-- THE SECOND FORM's CARD OF 'musterlaw21.NamesLooks'. -/
def namesLooksUptoCard : Claim7 := { stood := { row := namesLooksUptoRow, standIns := [], harness := (true, "98ca0c21d88f01b3db0ceba7380badba4c56bb5680a566a4f3f2ae11dd496012"), looks := true }, kinds := [], alts := [], laidByText := true, laidKinds := [.data, .data, .data, .data, .sentinel, .sentinel, .widerDeep, .pinned], laidTests := true, laidLooks := .later }
def NamesLooksUptoCardSaid : Prop := Claim7.holds Tryz.pinned (.plain (OpenSpec.upto namesLooksSpec)) namesLooksUptoCard

/-- THE SECOND FORM's CARD OF 'musterlaw15.BlockingNames'. -/
def blockingNamesUptoCard : Claim7 := { stood := { row := blockingNamesUptoRow, standIns := [], harness := (true, "98ca0c21d88f01b3db0ceba7380badba4c56bb5680a566a4f3f2ae11dd496012"), looks := true }, kinds := [], alts := [], laidByText := true, laidKinds := [.data, .data, .data, .data, .sentinel, .sentinel, .sentinel, .widerDeep, .pinned], laidTests := true, laidLooks := .later }
def BlockingNamesUptoCardSaid : Prop := Claim7.holds Tryz.pinned (.plain (OpenSpec.upto blockingNamesSpec)) blockingNamesUptoCard

/-- THE SECOND FORM's CARD OF 'musterlaw15.BlockingFull'. -/
def blockingFullUptoCard : Claim7 := { stood := { row := blockingFullUptoRow, standIns := [], harness := (true, "98ca0c21d88f01b3db0ceba7380badba4c56bb5680a566a4f3f2ae11dd496012"), looks := true }, kinds := [], alts := [], laidByText := true, laidKinds := [.data, .data, .data, .data, .sentinel, .sentinel, .sentinel, .widerDeep, .pinned], laidTests := true, laidLooks := .later }
def BlockingFullUptoCardSaid : Prop := Claim7.holds Tryz.pinned (.plain (OpenSpec.upto blockingFullSpec)) blockingFullUptoCard
end Rows
end Go.Proofs.YteoekjfgihnhaaaGreatDoor
