/- The health seat: its natives; the whole machine is right. -/
import Derived.Test.YtcfifjicjpncpaaGreatDoorHmGRHWorst26
import Derived.Test.YtcfifjicjpncpaaGreatDoorHmGRHWorst33
import Derived.Test.YtcfifjicjpncpaaGreatDoorHmGRHWorst27
set_option linter.all false
noncomputable section
namespace Go.Am
open Go.RowKit Go.Proofs

def fnsB (l : List Func) : Bool := l.all fun fn => !(fn.name == "runtime.NumGoroutine")
theorem fns_ok : Fns Tryz.prog := by
  intro f fn hf _
  have hb : fnsB Tryz.prog.funcs.toList = true := by kernel_rfl
  have hm : fn ∈ Tryz.prog.funcs.toList := by
    rw [← Array.getElem?_toList] at hf
    exact List.mem_of_getElem? hf
  have := List.all_eq_true.1 hb fn hm
  simpa using this
theorem mixed_ok : Tryz.prog.follows .mixedOrders = true := by kernel_rfl
theorem nats_ok : NatsOk Tryz.prog hNat := by
  intro x hx
  simp only [hNat, List.mem_cons, List.mem_nil_iff, or_false] at hx
  rcases hx with rfl | rfl | rfl | rfl | rfl | rfl | rfl | rfl | rfl | rfl | rfl | rfl | rfl | rfl | rfl
  · exact ⟨Tryz.f99, by kernel_rfl, by kernel_rfl, by kernel_rfl, by kernel_rfl, .disable, by kernel_rfl⟩
  · exact ⟨Tryz.f100, by kernel_rfl, by kernel_rfl, by kernel_rfl, by kernel_rfl, by dsimp only; kernel_rfl⟩
  · exact ⟨Tryz.f101, by kernel_rfl, by kernel_rfl, by kernel_rfl, by kernel_rfl, .enable, by kernel_rfl⟩
  · exact ⟨Tryz.f102, by kernel_rfl, by kernel_rfl, by kernel_rfl, by kernel_rfl, .acquire, by kernel_rfl⟩
  · exact ⟨Tryz.f104, by kernel_rfl, by kernel_rfl, by kernel_rfl, by kernel_rfl, .releaseMerge, by kernel_rfl⟩
  · exact ⟨Tryz.f105, by kernel_rfl, by kernel_rfl, by kernel_rfl, by kernel_rfl, by dsimp only; kernel_rfl⟩
  · exact ⟨Tryz.f152, by kernel_rfl, by kernel_rfl, by kernel_rfl, by kernel_rfl, by dsimp only; kernel_rfl⟩
  · exact ⟨Tryz.f157, by kernel_rfl, by kernel_rfl, by kernel_rfl, by kernel_rfl, by dsimp only; kernel_rfl⟩
  · exact ⟨Tryz.f201, by kernel_rfl, by kernel_rfl, by kernel_rfl, by kernel_rfl, by dsimp only; kernel_rfl⟩
  · exact ⟨Tryz.f224, by kernel_rfl, by kernel_rfl, by kernel_rfl, by kernel_rfl, by dsimp only; kernel_rfl⟩
  · exact ⟨Tryz.f225, by kernel_rfl, by kernel_rfl, by kernel_rfl, by kernel_rfl, by kernel_rfl, #[3], by kernel_rfl⟩
  · exact ⟨Tryz.f265, by kernel_rfl, by kernel_rfl, by kernel_rfl, by kernel_rfl, by dsimp only; kernel_rfl⟩
  · exact ⟨Tryz.f299, by kernel_rfl, by kernel_rfl, by kernel_rfl, by kernel_rfl, by dsimp only; kernel_rfl⟩
  · exact ⟨Tryz.f310, by kernel_rfl, by kernel_rfl, by kernel_rfl, by kernel_rfl, by dsimp only; kernel_rfl⟩
  · exact ⟨Tryz.f313, by kernel_rfl, by kernel_rfl, by kernel_rfl, by kernel_rfl, by dsimp only; kernel_rfl⟩
theorem hOv_ok : CallMOk Tryz.prog hOv := orM_ok hIns_ok hSort_ok
theorem hCall_ok : CallMOk Tryz.prog hCall := callM_ok fns_ok mixed_ok (natM_ok nats_ok) hOv_ok (hDov_ok fns_ok) _
end Go.Am
