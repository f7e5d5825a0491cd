/- A part of the proof by the abstract machine: SAlive. -/
import Derived.Test.YtehccakjdbapiaaAmSFacts
import Derived.Test.YtehccakjdbapiaaAmRebase
namespace Go.Am
open Go.RowKit Go.Proofs
theorem alive_run : isTrue (callN (drawA Try.prog) (fun _ _ _ => none) Try.prog 100 10 10 [] (heap0 Try.prog)) = true := by kernel_rfl
theorem alive_ok : CallsOk Try.prog (ovTrue 10) := ovTrue_ok fns_ok mixed_ok alive_run
theorem calls_ok : CallsOk Try.prog (callT (ovTrue 10) Try.prog) := callT_ok _ _ fns_ok mixed_ok alive_ok
end Go.Am
