/- The root's answer. -/
import Derived.Test.YteoekjfgihnhaaaGreatDoorHmGRF28
import Derived.Test.YteoekjfgihnhaaaGreatDoorHmGRF24
import Derived.Test.YteoekjfgihnhaaaGreatDoorHmGRF25
set_option linter.all false
noncomputable section
namespace Go.Am.BSt
open Go.RowKit Go.Proofs

theorem c1 : CallMOk Tryz.prog (piecesM [p1]) := piecesM_ok hCall_ok r1 fun p hp => by
  simp only [List.mem_cons, List.mem_nil_iff, or_false] at hp
  rcases hp with rfl
  · exact pb1
theorem c2 : CallMOk Tryz.prog (piecesM [p2, p3, p4, p5, p6]) := piecesM_ok hCall_ok r2 fun p hp => by
  simp only [List.mem_cons, List.mem_nil_iff, or_false] at hp
  rcases hp with rfl | rfl | rfl | rfl | rfl
  · exact pb2
  · exact pb3
  · exact pb4
  · exact pb5
  · exact pb6
/-- All pieces. -/
def hPieces : CallM := (orM (piecesM [p1]) (piecesM [p2, p3, p4, p5, p6]))
theorem hPieces_ok : CallMOk Tryz.prog hPieces := (orM_ok c1 c2)
def hTop : CallM := callM Tryz.prog (drawX Tryz.prog hPlan) (natCall hNat) (orM hPieces hOv) hDov 100000 200
theorem hTop_ok : CallMOk Tryz.prog hTop := callM_ok fns_ok mixed_ok (natM_ok nats_ok) (orM_ok hPieces_ok hOv_ok) (hDov_ok fns_ok) _
def isTrueM (r : Option (List (AV × Heap))) : Bool := match r with | some [(.bool true, _)] => true | _ => false
set_option maxRecDepth 1000000 in
theorem alive : isTrueM (hTop 9 [] hHeap) = true := by kernel_rfl
end Go.Am.BSt
