/- The seat's natives; the whole machine is right (printed by seatgen.py). -/
import Derived.Test.YteoekjfgihnhaaaGreatDoorHmGRB31
import Derived.Test.YteoekjfgihnhaaaGreatDoorHmGRB33
import Derived.Test.YteoekjfgihnhaaaGreatDoorHmGRB30
set_option linter.all false
noncomputable section
namespace Go.Am
open Go.RowKit Go.Proofs

def fnsB (l : List Func) : Bool := l.all fun fn => !(fn.name == "runtime.NumGoroutine")
theorem fns_ok : Fns Tryz.prog := by
  intro f fn hf _
  have hb : fnsB Tryz.prog.funcs.toList = true := by kernel_rfl
  have hm : fn ∈ Tryz.prog.funcs.toList := by
    rw [← Array.getElem?_toList] at hf
    exact List.mem_of_getElem? hf
  have := List.all_eq_true.1 hb fn hm
  simpa using this
theorem mixed_ok : Tryz.prog.follows .mixedOrders = true := by kernel_rfl
theorem nats_ok : NatsOk Tryz.prog hNat := by
  intro x hx
  simp only [hNat, List.mem_cons, List.mem_nil_iff, or_false] at hx
  rcases hx with rfl | rfl | rfl | rfl | rfl | rfl | rfl | rfl | rfl | rfl | rfl | rfl | rfl | rfl
  · exact ⟨Tryz.f132, by kernel_rfl, by kernel_rfl, by kernel_rfl, by kernel_rfl, .disable, by kernel_rfl⟩
  · exact ⟨Tryz.f133, by kernel_rfl, by kernel_rfl, by kernel_rfl, by kernel_rfl, by dsimp only; kernel_rfl⟩
  · exact ⟨Tryz.f134, by kernel_rfl, by kernel_rfl, by kernel_rfl, by kernel_rfl, .enable, by kernel_rfl⟩
  · exact ⟨Tryz.f135, by kernel_rfl, by kernel_rfl, by kernel_rfl, by kernel_rfl, .acquire, by kernel_rfl⟩
  · exact ⟨Tryz.f137, by kernel_rfl, by kernel_rfl, by kernel_rfl, by kernel_rfl, .releaseMerge, by kernel_rfl⟩
  · exact ⟨Tryz.f138, by kernel_rfl, by kernel_rfl, by kernel_rfl, by kernel_rfl, by dsimp only; kernel_rfl⟩
  · exact ⟨Tryz.f191, by kernel_rfl, by kernel_rfl, by kernel_rfl, by kernel_rfl, by dsimp only; kernel_rfl⟩
  · exact ⟨Tryz.f196, by kernel_rfl, by kernel_rfl, by kernel_rfl, by kernel_rfl, by dsimp only; kernel_rfl⟩
  · exact ⟨Tryz.f261, by kernel_rfl, by kernel_rfl, by kernel_rfl, by kernel_rfl, by dsimp only; kernel_rfl⟩
  · exact ⟨Tryz.f262, by kernel_rfl, by kernel_rfl, by kernel_rfl, by kernel_rfl, by kernel_rfl, #[3], by kernel_rfl⟩
  · exact ⟨Tryz.f311, by kernel_rfl, by kernel_rfl, by kernel_rfl, by kernel_rfl, by dsimp only; kernel_rfl⟩
  · exact ⟨Tryz.f373, by kernel_rfl, by kernel_rfl, by kernel_rfl, by kernel_rfl, by dsimp only; kernel_rfl⟩
  · exact ⟨Tryz.f388, by kernel_rfl, by kernel_rfl, by kernel_rfl, by kernel_rfl, by dsimp only; kernel_rfl⟩
  · exact ⟨Tryz.f392, by kernel_rfl, by kernel_rfl, by kernel_rfl, by kernel_rfl, by dsimp only; kernel_rfl⟩
theorem hOv_ok : CallMOk Tryz.prog hOv := orM_ok (hFired_ok fns_ok mixed_ok) (orM_ok hIns_ok hSort_ok)
theorem hCall_ok : CallMOk Tryz.prog hCall := callM_ok fns_ok mixed_ok (natM_ok nats_ok) hOv_ok (hDov_ok fns_ok) _
end Go.Am
