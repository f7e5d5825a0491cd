/-
  No cell of these rows narrows 'for every input' (looked for: loops, veiled, ifaces, maps, wideKeys, modest, calm, conditions, laid).
  DERIVED. THE GIVEN ROWS OF THIS SEAT. 2 by the template 'for every input the law returns true; each argument reads behind the call as it read before'; 0 by the template 'total and deterministic' (their statements: YtnllflgijnloiaaTotals.lean).
  GIVEN WITH THE SEED: the statements are not yours to turn. If you find one false, say at which input.
  Laid BY PROGRAM, IN A SANDBOX (cutbox-rows.mjs): the forced cells as the released guide's own fill.sh prints them over the translation cf48708da5822924… (all of the seat's roots in one cut). By AI agents, Wed Nov 11 2026. No macro, syntax, notation, axiom, sorry.
-/
import Derived.Test.YtnllflgijnloiaaChecked
import GoSem.Claim
import GoSem.ClaimJoined
import GoSem.ClaimMapViews
import Derived.JoinedTies
import Derived.KernelRfl
namespace Go.Proofs.Ytnllflgijnloiaa
/- THE CELL 'sum', in the pinned program and in every row, IS THE sha256 OF THE DUMP (.gsa) THAT YtnllflgijnloiaaProg.lean LOADS. Nothing in Lean hashes anything: it is a label: what it is worth is what the hold of that sum in a sandbox is worth. -/
noncomputable def Try.pinned : Pinned := { name := "ytnllflgijnloiaa", sum := "cf48708da58229246a5517c67b4250bf2f46aff109fcf3472ca5fcdd2ed73796", checked := Try.checked }
namespace Rows
def none {H : Type} : Left H := { results := [], args := [] }

/-- 'musterlaw20.DnsNames': WHATEVER THE INPUT: true; the input reads as it did. -/
def dnsNamesSpec : ChangeSpec := { name := "dnsNames", fn := fun _ => fun
  | [] => { results := [.lit (.bool true)], args := [] }
  | _ => none }
def dnsNamesRow : OpenClaim := { program := "ytnllflgijnloiaa", sum := "cf48708da58229246a5517c67b4250bf2f46aff109fcf3472ca5fcdd2ed73796", func := "muster/musterlaw20.DnsNames", spec := "dnsNames", apart := false }
def DnsNamesSaid : Prop := dnsNamesRow.holds Try.pinned (OpenSpec.ofChange dnsNamesSpec)

/-- ITS FALSE NEIGHBOUR: 'it returns false'. Refute it at one input. -/
def dnsNamesWrong : ChangeSpec := { name := "dnsNames", fn := fun _ => fun
  | [] => { results := [.lit (.bool false)], args := [] }
  | _ => none }
def DnsNamesWrongFalsely : Prop := dnsNamesRow.holds Try.pinned (OpenSpec.ofChange dnsNamesWrong)

/-- 'musterlaw20.DnsBack': WHATEVER THE INPUT: true; the input reads as it did. -/
def dnsBackSpec : ChangeSpec := { name := "dnsBack", fn := fun _ => fun
  | [d1, d2] => { results := [.lit (.bool true)], args := [d1, d2] }
  | _ => none }
def dnsBackRow : OpenClaim := { program := "ytnllflgijnloiaa", sum := "cf48708da58229246a5517c67b4250bf2f46aff109fcf3472ca5fcdd2ed73796", func := "muster/musterlaw20.DnsBack", spec := "dnsBack", apart := false }
def DnsBackSaid : Prop := dnsBackRow.holds Try.pinned (OpenSpec.ofChange dnsBackSpec)

/-- ITS FALSE NEIGHBOUR: 'it returns false'. Refute it at one input. -/
def dnsBackWrong : ChangeSpec := { name := "dnsBack", fn := fun _ => fun
  | [d1, d2] => { results := [.lit (.bool false)], args := [d1, d2] }
  | _ => none }
def DnsBackWrongFalsely : Prop := dnsBackRow.holds Try.pinned (OpenSpec.ofChange dnsBackWrong)

/- THE SECOND FORM. 'bulk': how many values and letters a reading holds, each counted each time it is reached (what is shared counts as often as it is met; a slice's spare places count too). A statement '..UptoSaid' is the law's where the arguments, and the package variables that the reading takes, are together of bulk at most 1048576: NARROWER than '..Said'. Prove '..Said' where nothing that the law and all that it calls make is longer than what came in: it says more and counts as full. Else prove '..UptoSaid'. A law counts once. -/
mutual
def uptoBulk {H : Type} : DataW H → Nat
  | .lit (.string bytes) => bytes.length + 1
  | .lit _ => 1
  | .nil => 1
  | .ptr d => uptoBulk d + 1
  | .slice elems spare => uptoBulkAll elems + uptoBulkAll spare + 1
  | .agg parts => uptoBulkAll parts + 1
  | .iface _ d => uptoBulk d + 1
  | .map entries => uptoBulkEntries entries + 1
  | .held _ => 1
def uptoBulkAll {H : Type} : List (DataW H) → Nat
  | [] => 0
  | d :: r => uptoBulk d + uptoBulkAll r
def uptoBulkEntries {H : Type} : List (Lit × DataW H) → Nat
  | [] => 0
  | x :: r => uptoBulkEntry x + uptoBulkEntries r
def uptoBulkEntry {H : Type} : Lit × DataW H → Nat
  | (.string bytes, d) => bytes.length + uptoBulk d + 1
  | (_, d) => uptoBulk d + 1
 end
def uptoSmall : (H : Type) → List (DataW H) → Bool := fun _ ds => decide (uptoBulkAll ds ≤ 1048576)
def OpenSpec.upto (s : _root_.Go.ChangeSpec) : _root_.Go.OpenSpec := { _root_.Go.OpenSpec.ofChange s with cond := some uptoSmall }

/-- 'musterlaw20.DnsNames', WHERE WHAT IT READS IS OF BULK AT MOST 1048576: true; the input reads as it did. -/
def dnsNamesUptoRow : OpenClaim := { program := "ytnllflgijnloiaa", sum := "cf48708da58229246a5517c67b4250bf2f46aff109fcf3472ca5fcdd2ed73796", func := "muster/musterlaw20.DnsNames", spec := "dnsNames", apart := false, narrowed := true }
def DnsNamesUptoSaid : Prop := dnsNamesUptoRow.holds Try.pinned (OpenSpec.upto dnsNamesSpec)

/-- 'musterlaw20.DnsBack', WHERE WHAT IT READS IS OF BULK AT MOST 1048576: true; the input reads as it did. -/
def dnsBackUptoRow : OpenClaim := { program := "ytnllflgijnloiaa", sum := "cf48708da58229246a5517c67b4250bf2f46aff109fcf3472ca5fcdd2ed73796", func := "muster/musterlaw20.DnsBack", spec := "dnsBack", apart := false, narrowed := true }
def DnsBackUptoSaid : Prop := dnsBackUptoRow.holds Try.pinned (OpenSpec.upto dnsBackSpec)

end Rows
end Go.Proofs.Ytnllflgijnloiaa
