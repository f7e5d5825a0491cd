/-
  No cell of these rows narrows 'for every input' (looked for: loops, veiled, ifaces, maps, wideKeys, modest, calm, conditions, laid).
  DERIVED. THE GIVEN ROWS OF THIS SEAT. 7 by the template 'for every input the law returns true; each argument reads behind the call as it read before'; 0 by the template 'total and deterministic' (their statements: YtehccakjdbapiaaTotals.lean).
  GIVEN WITH THE SEED: the statements are not yours to turn. If you find one false, say at which input.
  Laid BY PROGRAM, IN A SANDBOX (cutbox-rows.mjs): the forced cells as the released guide's own fill.sh prints them over the translation 994a01b9bedb9cf7… (all of the seat's roots in one cut). By AI agents, Wed Nov 11 2026. No macro, syntax, notation, axiom, sorry.
-/
import Derived.Test.YtehccakjdbapiaaChecked
import GoSem.Claim
import GoSem.ClaimJoined
import GoSem.ClaimMapViews
import Derived.JoinedTies
import Derived.KernelRfl
namespace Go.Proofs.Ytehccakjdbapiaa
/- THE CELL 'sum', in the pinned program and in every row, IS THE sha256 OF THE DUMP (.gsa) THAT YtehccakjdbapiaaProg.lean LOADS. Nothing in Lean hashes anything: it is a label: what it is worth is what the hold of that sum in a sandbox is worth. -/
noncomputable def Try.pinned : Pinned := { name := "ytehccakjdbapiaa", sum := "994a01b9bedb9cf71a6cc7e053d8809f54d6eccd4989fa02eb6ae8415e993f46", checked := Try.checked }
namespace Rows
def none {H : Type} : Left H := { results := [], args := [] }

/-- 'musterlaw17.SchedRuns': WHATEVER THE INPUT: true; the input reads as it did. -/
def schedRunsSpec : ChangeSpec := { name := "schedRuns", fn := fun _ => fun
  | [d1, d2, d3] => { results := [.lit (.bool true)], args := [d1, d2, d3] }
  | _ => none }
def schedRunsRow : OpenClaim := { program := "ytehccakjdbapiaa", sum := "994a01b9bedb9cf71a6cc7e053d8809f54d6eccd4989fa02eb6ae8415e993f46", func := "muster/musterlaw17.SchedRuns", spec := "schedRuns", unfollowed := true, recurses := true, apart := false }
def SchedRunsSaid : Prop := schedRunsRow.holds Try.pinned (OpenSpec.ofChange schedRunsSpec)

/-- ITS FALSE NEIGHBOUR: 'it returns false'. Refute it at one input. -/
def schedRunsWrong : ChangeSpec := { name := "schedRuns", fn := fun _ => fun
  | [d1, d2, d3] => { results := [.lit (.bool false)], args := [d1, d2, d3] }
  | _ => none }
def SchedRunsWrongFalsely : Prop := schedRunsRow.holds Try.pinned (OpenSpec.ofChange schedRunsWrong)

/-- 'musterlaw17.SchedFair': WHATEVER THE INPUT: true; the input reads as it did. -/
def schedFairSpec : ChangeSpec := { name := "schedFair", fn := fun _ => fun
  | [d1, d2, d3] => { results := [.lit (.bool true)], args := [d1, d2, d3] }
  | _ => none }
def schedFairRow : OpenClaim := { program := "ytehccakjdbapiaa", sum := "994a01b9bedb9cf71a6cc7e053d8809f54d6eccd4989fa02eb6ae8415e993f46", func := "muster/musterlaw17.SchedFair", spec := "schedFair", unfollowed := true, recurses := true, apart := false }
def SchedFairSaid : Prop := schedFairRow.holds Try.pinned (OpenSpec.ofChange schedFairSpec)

/-- ITS FALSE NEIGHBOUR: 'it returns false'. Refute it at one input. -/
def schedFairWrong : ChangeSpec := { name := "schedFair", fn := fun _ => fun
  | [d1, d2, d3] => { results := [.lit (.bool false)], args := [d1, d2, d3] }
  | _ => none }
def SchedFairWrongFalsely : Prop := schedFairRow.holds Try.pinned (OpenSpec.ofChange schedFairWrong)

/-- 'musterlaw17.SchedTurns': WHATEVER THE INPUT: true; the input reads as it did. -/
def schedTurnsSpec : ChangeSpec := { name := "schedTurns", fn := fun _ => fun
  | [d1, d2, d3] => { results := [.lit (.bool true)], args := [d1, d2, d3] }
  | _ => none }
def schedTurnsRow : OpenClaim := { program := "ytehccakjdbapiaa", sum := "994a01b9bedb9cf71a6cc7e053d8809f54d6eccd4989fa02eb6ae8415e993f46", func := "muster/musterlaw17.SchedTurns", spec := "schedTurns", unfollowed := true, recurses := true, apart := false }
def SchedTurnsSaid : Prop := schedTurnsRow.holds Try.pinned (OpenSpec.ofChange schedTurnsSpec)

/-- ITS FALSE NEIGHBOUR: 'it returns false'. Refute it at one input. -/
def schedTurnsWrong : ChangeSpec := { name := "schedTurns", fn := fun _ => fun
  | [d1, d2, d3] => { results := [.lit (.bool false)], args := [d1, d2, d3] }
  | _ => none }
def SchedTurnsWrongFalsely : Prop := schedTurnsRow.holds Try.pinned (OpenSpec.ofChange schedTurnsWrong)

/-- 'musterlaw17.SchedPicks': WHATEVER THE INPUT: true; the input reads as it did. -/
def schedPicksSpec : ChangeSpec := { name := "schedPicks", fn := fun _ => fun
  | [d1, d2] => { results := [.lit (.bool true)], args := [d1, d2] }
  | _ => none }
def schedPicksRow : OpenClaim := { program := "ytehccakjdbapiaa", sum := "994a01b9bedb9cf71a6cc7e053d8809f54d6eccd4989fa02eb6ae8415e993f46", func := "muster/musterlaw17.SchedPicks", spec := "schedPicks", unfollowed := true, recurses := true, apart := false }
def SchedPicksSaid : Prop := schedPicksRow.holds Try.pinned (OpenSpec.ofChange schedPicksSpec)

/-- ITS FALSE NEIGHBOUR: 'it returns false'. Refute it at one input. -/
def schedPicksWrong : ChangeSpec := { name := "schedPicks", fn := fun _ => fun
  | [d1, d2] => { results := [.lit (.bool false)], args := [d1, d2] }
  | _ => none }
def SchedPicksWrongFalsely : Prop := schedPicksRow.holds Try.pinned (OpenSpec.ofChange schedPicksWrong)

/-- 'musterlaw17.SchedPlays': WHATEVER THE INPUT: true; the input reads as it did. -/
def schedPlaysSpec : ChangeSpec := { name := "schedPlays", fn := fun _ => fun
  | [d] => { results := [.lit (.bool true)], args := [d] }
  | _ => none }
def schedPlaysRow : OpenClaim := { program := "ytehccakjdbapiaa", sum := "994a01b9bedb9cf71a6cc7e053d8809f54d6eccd4989fa02eb6ae8415e993f46", func := "muster/musterlaw17.SchedPlays", spec := "schedPlays", unfollowed := true, recurses := true, apart := false }
def SchedPlaysSaid : Prop := schedPlaysRow.holds Try.pinned (OpenSpec.ofChange schedPlaysSpec)

/-- ITS FALSE NEIGHBOUR: 'it returns false'. Refute it at one input. -/
def schedPlaysWrong : ChangeSpec := { name := "schedPlays", fn := fun _ => fun
  | [d] => { results := [.lit (.bool false)], args := [d] }
  | _ => none }
def SchedPlaysWrongFalsely : Prop := schedPlaysRow.holds Try.pinned (OpenSpec.ofChange schedPlaysWrong)

/-- 'musterlaw17.SchedDone': WHATEVER THE INPUT: true; the input reads as it did. -/
def schedDoneSpec : ChangeSpec := { name := "schedDone", fn := fun _ => fun
  | [d1, d2, d3] => { results := [.lit (.bool true)], args := [d1, d2, d3] }
  | _ => none }
def schedDoneRow : OpenClaim := { program := "ytehccakjdbapiaa", sum := "994a01b9bedb9cf71a6cc7e053d8809f54d6eccd4989fa02eb6ae8415e993f46", func := "muster/musterlaw17.SchedDone", spec := "schedDone", unfollowed := true, recurses := true, apart := false }
def SchedDoneSaid : Prop := schedDoneRow.holds Try.pinned (OpenSpec.ofChange schedDoneSpec)

/-- ITS FALSE NEIGHBOUR: 'it returns false'. Refute it at one input. -/
def schedDoneWrong : ChangeSpec := { name := "schedDone", fn := fun _ => fun
  | [d1, d2, d3] => { results := [.lit (.bool false)], args := [d1, d2, d3] }
  | _ => none }
def SchedDoneWrongFalsely : Prop := schedDoneRow.holds Try.pinned (OpenSpec.ofChange schedDoneWrong)

/-- 'musterlaw17.SchedLogs': WHATEVER THE INPUT: true; the input reads as it did. -/
def schedLogsSpec : ChangeSpec := { name := "schedLogs", fn := fun _ => fun
  | [d1, d2] => { results := [.lit (.bool true)], args := [d1, d2] }
  | _ => none }
def schedLogsRow : OpenClaim := { program := "ytehccakjdbapiaa", sum := "994a01b9bedb9cf71a6cc7e053d8809f54d6eccd4989fa02eb6ae8415e993f46", func := "muster/musterlaw17.SchedLogs", spec := "schedLogs", unfollowed := true, recurses := true, apart := false }
def SchedLogsSaid : Prop := schedLogsRow.holds Try.pinned (OpenSpec.ofChange schedLogsSpec)

/-- ITS FALSE NEIGHBOUR: 'it returns false'. Refute it at one input. -/
def schedLogsWrong : ChangeSpec := { name := "schedLogs", fn := fun _ => fun
  | [d1, d2] => { results := [.lit (.bool false)], args := [d1, d2] }
  | _ => none }
def SchedLogsWrongFalsely : Prop := schedLogsRow.holds Try.pinned (OpenSpec.ofChange schedLogsWrong)

/- THE SECOND FORM. 'bulk': how many values and letters a reading holds, each counted each time it is reached (what is shared counts as often as it is met; a slice's spare places count too). A statement '..UptoSaid' is the law's where the arguments, and the package variables that the reading takes, are together of bulk at most 1048576: NARROWER than '..Said'. Prove '..Said' where nothing that the law and all that it calls make is longer than what came in: it says more and counts as full. Else prove '..UptoSaid'. A law counts once. -/
mutual
def uptoBulk {H : Type} : DataW H → Nat
  | .lit (.string bytes) => bytes.length + 1
  | .lit _ => 1
  | .nil => 1
  | .ptr d => uptoBulk d + 1
  | .slice elems spare => uptoBulkAll elems + uptoBulkAll spare + 1
  | .agg parts => uptoBulkAll parts + 1
  | .iface _ d => uptoBulk d + 1
  | .map entries => uptoBulkEntries entries + 1
  | .held _ => 1
def uptoBulkAll {H : Type} : List (DataW H) → Nat
  | [] => 0
  | d :: r => uptoBulk d + uptoBulkAll r
def uptoBulkEntries {H : Type} : List (Lit × DataW H) → Nat
  | [] => 0
  | x :: r => uptoBulkEntry x + uptoBulkEntries r
def uptoBulkEntry {H : Type} : Lit × DataW H → Nat
  | (.string bytes, d) => bytes.length + uptoBulk d + 1
  | (_, d) => uptoBulk d + 1
 end
def uptoSmall : (H : Type) → List (DataW H) → Bool := fun _ ds => decide (uptoBulkAll ds ≤ 1048576)
def OpenSpec.upto (s : _root_.Go.ChangeSpec) : _root_.Go.OpenSpec := { _root_.Go.OpenSpec.ofChange s with cond := some uptoSmall }

/-- 'musterlaw17.SchedRuns', WHERE WHAT IT READS IS OF BULK AT MOST 1048576: true; the input reads as it did. -/
def schedRunsUptoRow : OpenClaim := { program := "ytehccakjdbapiaa", sum := "994a01b9bedb9cf71a6cc7e053d8809f54d6eccd4989fa02eb6ae8415e993f46", func := "muster/musterlaw17.SchedRuns", spec := "schedRuns", unfollowed := true, recurses := true, apart := false, narrowed := true }
def SchedRunsUptoSaid : Prop := schedRunsUptoRow.holds Try.pinned (OpenSpec.upto schedRunsSpec)

/-- 'musterlaw17.SchedFair', WHERE WHAT IT READS IS OF BULK AT MOST 1048576: true; the input reads as it did. -/
def schedFairUptoRow : OpenClaim := { program := "ytehccakjdbapiaa", sum := "994a01b9bedb9cf71a6cc7e053d8809f54d6eccd4989fa02eb6ae8415e993f46", func := "muster/musterlaw17.SchedFair", spec := "schedFair", unfollowed := true, recurses := true, apart := false, narrowed := true }
def SchedFairUptoSaid : Prop := schedFairUptoRow.holds Try.pinned (OpenSpec.upto schedFairSpec)

/-- 'musterlaw17.SchedTurns', WHERE WHAT IT READS IS OF BULK AT MOST 1048576: true; the input reads as it did. -/
def schedTurnsUptoRow : OpenClaim := { program := "ytehccakjdbapiaa", sum := "994a01b9bedb9cf71a6cc7e053d8809f54d6eccd4989fa02eb6ae8415e993f46", func := "muster/musterlaw17.SchedTurns", spec := "schedTurns", unfollowed := true, recurses := true, apart := false, narrowed := true }
def SchedTurnsUptoSaid : Prop := schedTurnsUptoRow.holds Try.pinned (OpenSpec.upto schedTurnsSpec)

/-- 'musterlaw17.SchedPicks', WHERE WHAT IT READS IS OF BULK AT MOST 1048576: true; the input reads as it did. -/
def schedPicksUptoRow : OpenClaim := { program := "ytehccakjdbapiaa", sum := "994a01b9bedb9cf71a6cc7e053d8809f54d6eccd4989fa02eb6ae8415e993f46", func := "muster/musterlaw17.SchedPicks", spec := "schedPicks", unfollowed := true, recurses := true, apart := false, narrowed := true }
def SchedPicksUptoSaid : Prop := schedPicksUptoRow.holds Try.pinned (OpenSpec.upto schedPicksSpec)

/-- 'musterlaw17.SchedPlays', WHERE WHAT IT READS IS OF BULK AT MOST 1048576: true; the input reads as it did. -/
def schedPlaysUptoRow : OpenClaim := { program := "ytehccakjdbapiaa", sum := "994a01b9bedb9cf71a6cc7e053d8809f54d6eccd4989fa02eb6ae8415e993f46", func := "muster/musterlaw17.SchedPlays", spec := "schedPlays", unfollowed := true, recurses := true, apart := false, narrowed := true }
def SchedPlaysUptoSaid : Prop := schedPlaysUptoRow.holds Try.pinned (OpenSpec.upto schedPlaysSpec)

/-- 'musterlaw17.SchedDone', WHERE WHAT IT READS IS OF BULK AT MOST 1048576: true; the input reads as it did. -/
def schedDoneUptoRow : OpenClaim := { program := "ytehccakjdbapiaa", sum := "994a01b9bedb9cf71a6cc7e053d8809f54d6eccd4989fa02eb6ae8415e993f46", func := "muster/musterlaw17.SchedDone", spec := "schedDone", unfollowed := true, recurses := true, apart := false, narrowed := true }
def SchedDoneUptoSaid : Prop := schedDoneUptoRow.holds Try.pinned (OpenSpec.upto schedDoneSpec)

/-- 'musterlaw17.SchedLogs', WHERE WHAT IT READS IS OF BULK AT MOST 1048576: true; the input reads as it did. -/
def schedLogsUptoRow : OpenClaim := { program := "ytehccakjdbapiaa", sum := "994a01b9bedb9cf71a6cc7e053d8809f54d6eccd4989fa02eb6ae8415e993f46", func := "muster/musterlaw17.SchedLogs", spec := "schedLogs", unfollowed := true, recurses := true, apart := false, narrowed := true }
def SchedLogsUptoSaid : Prop := schedLogsUptoRow.holds Try.pinned (OpenSpec.upto schedLogsSpec)

end Rows
end Go.Proofs.Ytehccakjdbapiaa
