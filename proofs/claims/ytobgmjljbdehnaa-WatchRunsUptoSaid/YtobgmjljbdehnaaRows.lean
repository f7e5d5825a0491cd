/-
  NARROWER THAN 'FOR EVERY INPUT', by the rows' own cells (each row's printed sentence says how): WatchNames: calm · WatchOnce: calm · WatchRuns: calm · WatchFirst: calm · WatchVigil: calm.
  DERIVED. THE GIVEN ROWS OF THIS SEAT. 5 by the template 'for every input the law returns true; each argument reads behind the call as it read before'; 0 by the template 'total and deterministic' (their statements: YtobgmjljbdehnaaTotals.lean).
  GIVEN WITH THE SEED: the statements are not yours to turn. If you find one false, say at which input.
  Laid BY PROGRAM, IN A SANDBOX (cutbox-rows.mjs): the forced cells as the released guide's own fill.sh prints them over the translation 793c7dc28f96ff20… (all of the seat's roots in one cut). By AI agents, Wed Nov 11 2026. No macro, syntax, notation, axiom, sorry.
-/
import Derived.Test.YtobgmjljbdehnaaChecked
import GoSem.Claim
import GoSem.ClaimJoined
import GoSem.ClaimMapViews
import Derived.JoinedTies
import Derived.KernelRfl
namespace Go.Proofs.Ytobgmjljbdehnaa
/- THE CELL 'sum', in the pinned program and in every row, IS THE sha256 OF THE DUMP (.gsa) THAT YtobgmjljbdehnaaProg.lean LOADS. Nothing in Lean hashes anything: it is a label: what it is worth is what the hold of that sum in a sandbox is worth. -/
noncomputable def Try.pinned : Pinned := { name := "ytobgmjljbdehnaa", sum := "793c7dc28f96ff20572336d070faa5daf7987163a2215e943ad3b2b85d7f371e", checked := Try.checked }
namespace Rows
def none {H : Type} : Left H := { results := [], args := [] }

/-- 'musterlaw02.WatchNames': WHATEVER THE INPUT: true; the input reads as it did. -/
def watchNamesSpec : ChangeSpec := { name := "watchNames", fn := fun _ => fun
  | [] => { results := [.lit (.bool true)], args := [] }
  | _ => none }
def watchNamesRow : OpenClaim := { program := "ytobgmjljbdehnaa", sum := "793c7dc28f96ff20572336d070faa5daf7987163a2215e943ad3b2b85d7f371e", func := "muster/musterlaw02.WatchNames", spec := "watchNames", inPlace := ["sync/atomic.LoadUint32", "(*internal/sync.Mutex).Lock", "internal/race.Disable", "sync/atomic.CompareAndSwapInt32", "internal/race.Enable", "internal/race.Acquire", "(*internal/sync.Mutex).lockSlow", "internal/sync.runtime_canSpin", "internal/sync.runtime_doSpin", "internal/sync.throw", "internal/sync.runtime_nanotime", "internal/sync.runtime_SemacquireMutex", "sync/atomic.AddInt32", "(*internal/sync.Mutex).Unlock", "internal/race.ReleaseMerge", "(*internal/sync.Mutex).unlockSlow", "internal/sync.fatal", "internal/sync.runtime_Semrelease", "sync/atomic.StoreUint32"], unfollowed := true, recurses := true, leaving := true, apart := false, calm := true, outside := [.timePasses] }
def WatchNamesSaid : Prop := watchNamesRow.holds Try.pinned (OpenSpec.ofChange watchNamesSpec)

/-- ITS FALSE NEIGHBOUR: 'it returns false'. Refute it at one input. -/
def watchNamesWrong : ChangeSpec := { name := "watchNames", fn := fun _ => fun
  | [] => { results := [.lit (.bool false)], args := [] }
  | _ => none }
def WatchNamesWrongFalsely : Prop := watchNamesRow.holds Try.pinned (OpenSpec.ofChange watchNamesWrong)

/-- 'musterlaw02.WatchOnce': WHATEVER THE INPUT: true; the input reads as it did. -/
def watchOnceSpec : ChangeSpec := { name := "watchOnce", fn := fun _ => fun
  | [d] => { results := [.lit (.bool true)], args := [d] }
  | _ => none }
def watchOnceRow : OpenClaim := { program := "ytobgmjljbdehnaa", sum := "793c7dc28f96ff20572336d070faa5daf7987163a2215e943ad3b2b85d7f371e", func := "muster/musterlaw02.WatchOnce", spec := "watchOnce", inPlace := ["sync/atomic.LoadUint32", "(*internal/sync.Mutex).Lock", "internal/race.Disable", "sync/atomic.CompareAndSwapInt32", "internal/race.Enable", "internal/race.Acquire", "(*internal/sync.Mutex).lockSlow", "internal/sync.runtime_canSpin", "internal/sync.runtime_doSpin", "internal/sync.throw", "internal/sync.runtime_nanotime", "internal/sync.runtime_SemacquireMutex", "sync/atomic.AddInt32", "(*internal/sync.Mutex).Unlock", "internal/race.ReleaseMerge", "(*internal/sync.Mutex).unlockSlow", "internal/sync.fatal", "internal/sync.runtime_Semrelease", "sync/atomic.StoreUint32"], unfollowed := true, recurses := true, leaving := true, apart := false, calm := true, outside := [.timePasses] }
def WatchOnceSaid : Prop := watchOnceRow.holds Try.pinned (OpenSpec.ofChange watchOnceSpec)

/-- ITS FALSE NEIGHBOUR: 'it returns false'. Refute it at one input. -/
def watchOnceWrong : ChangeSpec := { name := "watchOnce", fn := fun _ => fun
  | [d] => { results := [.lit (.bool false)], args := [d] }
  | _ => none }
def WatchOnceWrongFalsely : Prop := watchOnceRow.holds Try.pinned (OpenSpec.ofChange watchOnceWrong)

/-- 'musterlaw02.WatchRuns': WHATEVER THE INPUT: true; the input reads as it did. -/
def watchRunsSpec : ChangeSpec := { name := "watchRuns", fn := fun _ => fun
  | [d] => { results := [.lit (.bool true)], args := [d] }
  | _ => none }
def watchRunsRow : OpenClaim := { program := "ytobgmjljbdehnaa", sum := "793c7dc28f96ff20572336d070faa5daf7987163a2215e943ad3b2b85d7f371e", func := "muster/musterlaw02.WatchRuns", spec := "watchRuns", inPlace := ["sync/atomic.LoadUint32", "(*internal/sync.Mutex).Lock", "internal/race.Disable", "sync/atomic.CompareAndSwapInt32", "internal/race.Enable", "internal/race.Acquire", "(*internal/sync.Mutex).lockSlow", "internal/sync.runtime_canSpin", "internal/sync.runtime_doSpin", "internal/sync.throw", "internal/sync.runtime_nanotime", "internal/sync.runtime_SemacquireMutex", "sync/atomic.AddInt32", "(*internal/sync.Mutex).Unlock", "internal/race.ReleaseMerge", "(*internal/sync.Mutex).unlockSlow", "internal/sync.fatal", "internal/sync.runtime_Semrelease", "sync/atomic.StoreUint32"], unfollowed := true, recurses := true, leaving := true, apart := false, calm := true, outside := [.timePasses] }
def WatchRunsSaid : Prop := watchRunsRow.holds Try.pinned (OpenSpec.ofChange watchRunsSpec)

/-- ITS FALSE NEIGHBOUR: 'it returns false'. Refute it at one input. -/
def watchRunsWrong : ChangeSpec := { name := "watchRuns", fn := fun _ => fun
  | [d] => { results := [.lit (.bool false)], args := [d] }
  | _ => none }
def WatchRunsWrongFalsely : Prop := watchRunsRow.holds Try.pinned (OpenSpec.ofChange watchRunsWrong)

/-- 'musterlaw02.WatchFirst': WHATEVER THE INPUT: true; the input reads as it did. -/
def watchFirstSpec : ChangeSpec := { name := "watchFirst", fn := fun _ => fun
  | [d1, d2] => { results := [.lit (.bool true)], args := [d1, d2] }
  | _ => none }
def watchFirstRow : OpenClaim := { program := "ytobgmjljbdehnaa", sum := "793c7dc28f96ff20572336d070faa5daf7987163a2215e943ad3b2b85d7f371e", func := "muster/musterlaw02.WatchFirst", spec := "watchFirst", inPlace := ["sync/atomic.LoadUint32", "(*internal/sync.Mutex).Lock", "internal/race.Disable", "sync/atomic.CompareAndSwapInt32", "internal/race.Enable", "internal/race.Acquire", "(*internal/sync.Mutex).lockSlow", "internal/sync.runtime_canSpin", "internal/sync.runtime_doSpin", "internal/sync.throw", "internal/sync.runtime_nanotime", "internal/sync.runtime_SemacquireMutex", "sync/atomic.AddInt32", "(*internal/sync.Mutex).Unlock", "internal/race.ReleaseMerge", "(*internal/sync.Mutex).unlockSlow", "internal/sync.fatal", "internal/sync.runtime_Semrelease", "sync/atomic.StoreUint32"], unfollowed := true, recurses := true, leaving := true, apart := false, calm := true, outside := [.timePasses] }
def WatchFirstSaid : Prop := watchFirstRow.holds Try.pinned (OpenSpec.ofChange watchFirstSpec)

/-- ITS FALSE NEIGHBOUR: 'it returns false'. Refute it at one input. -/
def watchFirstWrong : ChangeSpec := { name := "watchFirst", fn := fun _ => fun
  | [d1, d2] => { results := [.lit (.bool false)], args := [d1, d2] }
  | _ => none }
def WatchFirstWrongFalsely : Prop := watchFirstRow.holds Try.pinned (OpenSpec.ofChange watchFirstWrong)

/-- 'musterlaw02.WatchVigil': WHATEVER THE INPUT: true; the input reads as it did. -/
def watchVigilSpec : ChangeSpec := { name := "watchVigil", fn := fun _ => fun
  | [d1, d2] => { results := [.lit (.bool true)], args := [d1, d2] }
  | _ => none }
def watchVigilRow : OpenClaim := { program := "ytobgmjljbdehnaa", sum := "793c7dc28f96ff20572336d070faa5daf7987163a2215e943ad3b2b85d7f371e", func := "muster/musterlaw02.WatchVigil", spec := "watchVigil", inPlace := ["(*sync.WaitGroup).Add", "internal/race.ReleaseMerge", "internal/race.Disable", "internal/race.Enable", "internal/synctest.IsInBubble", "internal/synctest.Associate[sync.WaitGroup]", "sync.fatal", "sync/atomic.OrUint64", "sync/atomic.AddUint64", "internal/race.Read", "sync/atomic.LoadUint64", "sync/atomic.StoreUint64", "internal/synctest.Disassociate[sync.WaitGroup]", "sync.runtime_Semrelease", "(*sync.WaitGroup).Done", "sync/atomic.LoadUint32", "(*internal/sync.Mutex).Lock", "sync/atomic.CompareAndSwapInt32", "internal/race.Acquire", "(*internal/sync.Mutex).lockSlow", "internal/sync.runtime_canSpin", "internal/sync.runtime_doSpin", "internal/sync.throw", "internal/sync.runtime_nanotime", "internal/sync.runtime_SemacquireMutex", "sync/atomic.AddInt32", "(*internal/sync.Mutex).Unlock", "(*internal/sync.Mutex).unlockSlow", "internal/sync.fatal", "internal/sync.runtime_Semrelease", "sync/atomic.StoreUint32", "(*sync.WaitGroup).Wait", "internal/synctest.IsAssociated[sync.WaitGroup]", "sync/atomic.CompareAndSwapUint64", "internal/race.Write", "sync.runtime_SemacquireWaitGroup"], unfollowed := true, recurses := true, leaving := true, apart := false, calm := true, outside := [.timePasses] }
def WatchVigilSaid : Prop := watchVigilRow.holds Try.pinned (OpenSpec.ofChange watchVigilSpec)

/-- ITS FALSE NEIGHBOUR: 'it returns false'. Refute it at one input. -/
def watchVigilWrong : ChangeSpec := { name := "watchVigil", fn := fun _ => fun
  | [d1, d2] => { results := [.lit (.bool false)], args := [d1, d2] }
  | _ => none }
def WatchVigilWrongFalsely : Prop := watchVigilRow.holds Try.pinned (OpenSpec.ofChange watchVigilWrong)

/- THE SECOND FORM. 'bulk': how many values and letters a reading holds, each counted each time it is reached (what is shared counts as often as it is met; a slice's spare places count too). A statement '..UptoSaid' is the law's where the arguments, and the package variables that the reading takes, are together of bulk at most 1048576: NARROWER than '..Said'. Prove '..Said' where nothing that the law and all that it calls make is longer than what came in: it says more and counts as full. Else prove '..UptoSaid'. A law counts once. -/
mutual
def uptoBulk {H : Type} : DataW H → Nat
  | .lit (.string bytes) => bytes.length + 1
  | .lit _ => 1
  | .nil => 1
  | .ptr d => uptoBulk d + 1
  | .slice elems spare => uptoBulkAll elems + uptoBulkAll spare + 1
  | .agg parts => uptoBulkAll parts + 1
  | .iface _ d => uptoBulk d + 1
  | .map entries => uptoBulkEntries entries + 1
  | .held _ => 1
def uptoBulkAll {H : Type} : List (DataW H) → Nat
  | [] => 0
  | d :: r => uptoBulk d + uptoBulkAll r
def uptoBulkEntries {H : Type} : List (Lit × DataW H) → Nat
  | [] => 0
  | x :: r => uptoBulkEntry x + uptoBulkEntries r
def uptoBulkEntry {H : Type} : Lit × DataW H → Nat
  | (.string bytes, d) => bytes.length + uptoBulk d + 1
  | (_, d) => uptoBulk d + 1
 end
def uptoSmall : (H : Type) → List (DataW H) → Bool := fun _ ds => decide (uptoBulkAll ds ≤ 1048576)
def OpenSpec.upto (s : _root_.Go.ChangeSpec) : _root_.Go.OpenSpec := { _root_.Go.OpenSpec.ofChange s with cond := some uptoSmall }

/-- 'musterlaw02.WatchNames', WHERE WHAT IT READS IS OF BULK AT MOST 1048576: true; the input reads as it did. -/
def watchNamesUptoRow : OpenClaim := { program := "ytobgmjljbdehnaa", sum := "793c7dc28f96ff20572336d070faa5daf7987163a2215e943ad3b2b85d7f371e", func := "muster/musterlaw02.WatchNames", spec := "watchNames", inPlace := ["sync/atomic.LoadUint32", "(*internal/sync.Mutex).Lock", "internal/race.Disable", "sync/atomic.CompareAndSwapInt32", "internal/race.Enable", "internal/race.Acquire", "(*internal/sync.Mutex).lockSlow", "internal/sync.runtime_canSpin", "internal/sync.runtime_doSpin", "internal/sync.throw", "internal/sync.runtime_nanotime", "internal/sync.runtime_SemacquireMutex", "sync/atomic.AddInt32", "(*internal/sync.Mutex).Unlock", "internal/race.ReleaseMerge", "(*internal/sync.Mutex).unlockSlow", "internal/sync.fatal", "internal/sync.runtime_Semrelease", "sync/atomic.StoreUint32"], unfollowed := true, recurses := true, leaving := true, apart := false, calm := true, outside := [.timePasses], narrowed := true }
def WatchNamesUptoSaid : Prop := watchNamesUptoRow.holds Try.pinned (OpenSpec.upto watchNamesSpec)

/-- 'musterlaw02.WatchOnce', WHERE WHAT IT READS IS OF BULK AT MOST 1048576: true; the input reads as it did. -/
def watchOnceUptoRow : OpenClaim := { program := "ytobgmjljbdehnaa", sum := "793c7dc28f96ff20572336d070faa5daf7987163a2215e943ad3b2b85d7f371e", func := "muster/musterlaw02.WatchOnce", spec := "watchOnce", inPlace := ["sync/atomic.LoadUint32", "(*internal/sync.Mutex).Lock", "internal/race.Disable", "sync/atomic.CompareAndSwapInt32", "internal/race.Enable", "internal/race.Acquire", "(*internal/sync.Mutex).lockSlow", "internal/sync.runtime_canSpin", "internal/sync.runtime_doSpin", "internal/sync.throw", "internal/sync.runtime_nanotime", "internal/sync.runtime_SemacquireMutex", "sync/atomic.AddInt32", "(*internal/sync.Mutex).Unlock", "internal/race.ReleaseMerge", "(*internal/sync.Mutex).unlockSlow", "internal/sync.fatal", "internal/sync.runtime_Semrelease", "sync/atomic.StoreUint32"], unfollowed := true, recurses := true, leaving := true, apart := false, calm := true, outside := [.timePasses], narrowed := true }
def WatchOnceUptoSaid : Prop := watchOnceUptoRow.holds Try.pinned (OpenSpec.upto watchOnceSpec)

/-- 'musterlaw02.WatchRuns', WHERE WHAT IT READS IS OF BULK AT MOST 1048576: true; the input reads as it did. -/
def watchRunsUptoRow : OpenClaim := { program := "ytobgmjljbdehnaa", sum := "793c7dc28f96ff20572336d070faa5daf7987163a2215e943ad3b2b85d7f371e", func := "muster/musterlaw02.WatchRuns", spec := "watchRuns", inPlace := ["sync/atomic.LoadUint32", "(*internal/sync.Mutex).Lock", "internal/race.Disable", "sync/atomic.CompareAndSwapInt32", "internal/race.Enable", "internal/race.Acquire", "(*internal/sync.Mutex).lockSlow", "internal/sync.runtime_canSpin", "internal/sync.runtime_doSpin", "internal/sync.throw", "internal/sync.runtime_nanotime", "internal/sync.runtime_SemacquireMutex", "sync/atomic.AddInt32", "(*internal/sync.Mutex).Unlock", "internal/race.ReleaseMerge", "(*internal/sync.Mutex).unlockSlow", "internal/sync.fatal", "internal/sync.runtime_Semrelease", "sync/atomic.StoreUint32"], unfollowed := true, recurses := true, leaving := true, apart := false, calm := true, outside := [.timePasses], narrowed := true }
def WatchRunsUptoSaid : Prop := watchRunsUptoRow.holds Try.pinned (OpenSpec.upto watchRunsSpec)

/-- 'musterlaw02.WatchFirst', WHERE WHAT IT READS IS OF BULK AT MOST 1048576: true; the input reads as it did. -/
def watchFirstUptoRow : OpenClaim := { program := "ytobgmjljbdehnaa", sum := "793c7dc28f96ff20572336d070faa5daf7987163a2215e943ad3b2b85d7f371e", func := "muster/musterlaw02.WatchFirst", spec := "watchFirst", inPlace := ["sync/atomic.LoadUint32", "(*internal/sync.Mutex).Lock", "internal/race.Disable", "sync/atomic.CompareAndSwapInt32", "internal/race.Enable", "internal/race.Acquire", "(*internal/sync.Mutex).lockSlow", "internal/sync.runtime_canSpin", "internal/sync.runtime_doSpin", "internal/sync.throw", "internal/sync.runtime_nanotime", "internal/sync.runtime_SemacquireMutex", "sync/atomic.AddInt32", "(*internal/sync.Mutex).Unlock", "internal/race.ReleaseMerge", "(*internal/sync.Mutex).unlockSlow", "internal/sync.fatal", "internal/sync.runtime_Semrelease", "sync/atomic.StoreUint32"], unfollowed := true, recurses := true, leaving := true, apart := false, calm := true, outside := [.timePasses], narrowed := true }
def WatchFirstUptoSaid : Prop := watchFirstUptoRow.holds Try.pinned (OpenSpec.upto watchFirstSpec)

/-- 'musterlaw02.WatchVigil', WHERE WHAT IT READS IS OF BULK AT MOST 1048576: true; the input reads as it did. -/
def watchVigilUptoRow : OpenClaim := { program := "ytobgmjljbdehnaa", sum := "793c7dc28f96ff20572336d070faa5daf7987163a2215e943ad3b2b85d7f371e", func := "muster/musterlaw02.WatchVigil", spec := "watchVigil", inPlace := ["(*sync.WaitGroup).Add", "internal/race.ReleaseMerge", "internal/race.Disable", "internal/race.Enable", "internal/synctest.IsInBubble", "internal/synctest.Associate[sync.WaitGroup]", "sync.fatal", "sync/atomic.OrUint64", "sync/atomic.AddUint64", "internal/race.Read", "sync/atomic.LoadUint64", "sync/atomic.StoreUint64", "internal/synctest.Disassociate[sync.WaitGroup]", "sync.runtime_Semrelease", "(*sync.WaitGroup).Done", "sync/atomic.LoadUint32", "(*internal/sync.Mutex).Lock", "sync/atomic.CompareAndSwapInt32", "internal/race.Acquire", "(*internal/sync.Mutex).lockSlow", "internal/sync.runtime_canSpin", "internal/sync.runtime_doSpin", "internal/sync.throw", "internal/sync.runtime_nanotime", "internal/sync.runtime_SemacquireMutex", "sync/atomic.AddInt32", "(*internal/sync.Mutex).Unlock", "(*internal/sync.Mutex).unlockSlow", "internal/sync.fatal", "internal/sync.runtime_Semrelease", "sync/atomic.StoreUint32", "(*sync.WaitGroup).Wait", "internal/synctest.IsAssociated[sync.WaitGroup]", "sync/atomic.CompareAndSwapUint64", "internal/race.Write", "sync.runtime_SemacquireWaitGroup"], unfollowed := true, recurses := true, leaving := true, apart := false, calm := true, outside := [.timePasses], narrowed := true }
def WatchVigilUptoSaid : Prop := watchVigilUptoRow.holds Try.pinned (OpenSpec.upto watchVigilSpec)

end Rows
end Go.Proofs.Ytobgmjljbdehnaa
