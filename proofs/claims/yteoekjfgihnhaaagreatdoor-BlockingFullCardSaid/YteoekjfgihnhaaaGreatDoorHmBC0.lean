/- What the rows of the seat ask of the program's text, fact by fact: of all. -/
import GoSem.ClaimGoes
import Derived.Test.YteoekjfgihnhaaaGreatDoorRows
import Derived.JoinedOf
import Derived.KernelRfl
set_option linter.all false
noncomputable section
namespace Go.Proofs.YteoekjfgihnhaaaGreatDoor.Facts
open Go.ChangeShapes Go.WideShapes
theorem laidOut : laidOutB Tryz.pinned.checked.prog = true := by kernel_rfl
theorem mapsRow : mapsRowed Tryz.pinned.checked.prog = true := by kernel_rfl
theorem heard : Tryz.pinned.checked.prog.stopsHeard = true := by kernel_rfl
theorem enter : Tryz.pinned.checked.prog.mayEnter = true := by kernel_rfl
/-- No function of the translation has a go statement. -/
theorem noGo : Tryz.pinned.checked.prog.funcs.toList.any Func.goes = false := by kernel_rfl
theorem goes_none {P : Program} (h : P.funcs.toList.any Func.goes = false) (f : FuncId) : P.goes f = false := by
  have ha : ∀ fn ∈ P.funcs.toList, fn.goes = false := fun fn hf => by simpa using List.any_eq_false.1 h fn hf
  have h1 : ∀ g : FuncId, (P.funcs[g]?).any Func.goes = false := by
    intro g
    cases hg : P.funcs[g]? with
    | none => rfl
    | some fn => exact ha fn (Array.mem_toList_iff.2 (Array.mem_of_getElem? hg))
  unfold Program.goes
  rw [show P.funcs.any Func.goes = false by rw [← Array.any_toList]; exact h]
  simp [h1]
theorem goesAt_none {P : Program} (h : P.funcs.toList.any Func.goes = false) (s : String) : P.goesAt .entering s = false := by
  unfold Program.goesAt Program.goesFrom
  cases P.funcNamed s with
  | none => rfl
  | some f => simp [goes_none h f]
end Go.Proofs.YteoekjfgihnhaaaGreatDoor.Facts
