/-
  DERIVED. GIVEN WITH THE SEED: THE CARDS: each row of YtcfifjicjpncpaaGreatDoorRows.lean that lists a variable, with what it lists TIED to the program's text (the seventh form; the later family's looks); each row that meets fmt, with fmt's text TOLD by the authors' own Lean function (tested against real Go, not proved from fmt's source: count such statements apart). THE CARD IS WHAT COUNTS. Prove the row's statement (the work); the ties are given (YtcfifjicjpncpaaGreatDoorTie.lean); close each card by the builder's one call (the guide's Derived/Test/ToyasCard.lean, 'card_holds'). Laid BY PROGRAM, IN A SANDBOX (cutbox-door.mjs). By AI agents, Wed Nov 11 2026. No macro, syntax, notation, axiom, sorry.
-/
import Derived.Test.YtcfifjicjpncpaaGreatDoorRows
import GoSem.ClaimSeven
namespace Go.Proofs.YtcfifjicjpncpaaGreatDoor
namespace Rows

/-- THE TIED CARD OF 'musterlaw11.HealthWorst'. -/
def healthWorstCard : Claim7 := { stood := { row := healthWorstRow, standIns := [], harness := (true, "8944c0c5e47ee9fe42a9f9d222881c5f4ec647c3c2a2ab2f3c7fc6d379816363"), looks := true }, kinds := [], alts := [], laidByText := true, laidKinds := [.data, .data, .data, .data, .sentinel, .sentinel, .widerDeep, .pinned], laidTests := true, laidLooks := .later }
def HealthWorstCardSaid : Prop := Claim7.holds Tryz.pinned (.plain (OpenSpec.ofChange healthWorstSpec)) healthWorstCard

/-- THE TIED CARD OF 'musterlaw11.HealthNames'. -/
def healthNamesCard : Claim7 := { stood := { row := healthNamesRow, standIns := [], harness := (true, "8944c0c5e47ee9fe42a9f9d222881c5f4ec647c3c2a2ab2f3c7fc6d379816363"), looks := true }, kinds := [], alts := [], laidByText := true, laidKinds := [.data, .data, .data, .data, .sentinel, .sentinel, .widerDeep, .pinned], laidTests := true, laidLooks := .later }
def HealthNamesCardSaid : Prop := Claim7.holds Tryz.pinned (.plain (OpenSpec.ofChange healthNamesSpec)) healthNamesCard

/-- THE SECOND FORM's CARD OF 'musterlaw11.HealthWorst'. -/
def healthWorstUptoCard : Claim7 := { stood := { row := healthWorstUptoRow, standIns := [], harness := (true, "8944c0c5e47ee9fe42a9f9d222881c5f4ec647c3c2a2ab2f3c7fc6d379816363"), looks := true }, kinds := [], alts := [], laidByText := true, laidKinds := [.data, .data, .data, .data, .sentinel, .sentinel, .widerDeep, .pinned], laidTests := true, laidLooks := .later }
def HealthWorstUptoCardSaid : Prop := Claim7.holds Tryz.pinned (.plain (OpenSpec.upto healthWorstSpec)) healthWorstUptoCard

/-- THE SECOND FORM's CARD OF 'musterlaw11.HealthNames'. -/
def healthNamesUptoCard : Claim7 := { stood := { row := healthNamesUptoRow, standIns := [], harness := (true, "8944c0c5e47ee9fe42a9f9d222881c5f4ec647c3c2a2ab2f3c7fc6d379816363"), looks := true }, kinds := [], alts := [], laidByText := true, laidKinds := [.data, .data, .data, .data, .sentinel, .sentinel, .widerDeep, .pinned], laidTests := true, laidLooks := .later }
def HealthNamesUptoCardSaid : Prop := Claim7.holds Tryz.pinned (.plain (OpenSpec.upto healthNamesSpec)) healthNamesUptoCard
end Rows
end Go.Proofs.YtcfifjicjpncpaaGreatDoor
