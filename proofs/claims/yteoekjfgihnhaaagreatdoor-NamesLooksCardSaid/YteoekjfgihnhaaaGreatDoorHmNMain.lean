/- The root's answer. -/
import Derived.Test.YteoekjfgihnhaaaGreatDoorHmGRB35
import Derived.Test.YteoekjfgihnhaaaGreatDoorHmNR1
import Derived.Test.YteoekjfgihnhaaaGreatDoorHmNR2
import Derived.Test.YteoekjfgihnhaaaGreatDoorHmNR3
import Derived.Test.YteoekjfgihnhaaaGreatDoorHmNR4
import Derived.Test.YteoekjfgihnhaaaGreatDoorHmNR5
set_option linter.all false
noncomputable section
namespace Go.Am.NSt
open Go.RowKit Go.Proofs

theorem c1 : CallMOk Tryz.prog (piecesM [p1]) := piecesM_ok hCall_ok r1 fun p hp => by
  simp only [List.mem_cons, List.mem_nil_iff, or_false] at hp
  rcases hp with rfl
  · exact pb1
theorem c2 : CallMOk Tryz.prog (piecesM [p2, p3, p4]) := piecesM_ok hCall_ok r2 fun p hp => by
  simp only [List.mem_cons, List.mem_nil_iff, or_false] at hp
  rcases hp with rfl | rfl | rfl
  · exact pb2
  · exact pb3
  · exact pb4
theorem c5 : CallMOk Tryz.prog (piecesM [p5, p6, p7, p8]) := piecesM_ok hCall_ok r5 fun p hp => by
  simp only [List.mem_cons, List.mem_nil_iff, or_false] at hp
  rcases hp with rfl | rfl | rfl | rfl
  · exact pb5
  · exact pb6
  · exact pb7
  · exact pb8
theorem c9 : CallMOk Tryz.prog (piecesM [p9, p10, p11, p12]) := piecesM_ok hCall_ok r9 fun p hp => by
  simp only [List.mem_cons, List.mem_nil_iff, or_false] at hp
  rcases hp with rfl | rfl | rfl | rfl
  · exact pb9
  · exact pb10
  · exact pb11
  · exact pb12
theorem c13 : CallMOk Tryz.prog (piecesM [p13, p14, p15]) := piecesM_ok hCall_ok r13 fun p hp => by
  simp only [List.mem_cons, List.mem_nil_iff, or_false] at hp
  rcases hp with rfl | rfl | rfl
  · exact pb13
  · exact pb14
  · exact pb15
/-- All pieces. -/
def hPieces : CallM := (orM (piecesM [p1]) (orM (piecesM [p2, p3, p4]) (orM (piecesM [p5, p6, p7, p8]) (orM (piecesM [p9, p10, p11, p12]) (piecesM [p13, p14, p15])))))
theorem hPieces_ok : CallMOk Tryz.prog hPieces := (orM_ok c1 (orM_ok c2 (orM_ok c5 (orM_ok c9 c13))))
def hTop : CallM := callM Tryz.prog (drawX Tryz.prog hPlan) (natCall hNat) (orM hPieces hOv) hDov 100000 200
theorem hTop_ok : CallMOk Tryz.prog hTop := callM_ok fns_ok mixed_ok (natM_ok nats_ok) (orM_ok hPieces_ok hOv_ok) (hDov_ok fns_ok) _
def isTrueM (r : Option (List (AV × Heap))) : Bool := match r with | some [(.bool true, _)] => true | _ => false
set_option maxRecDepth 1000000 in
theorem alive : isTrueM (hTop 6 [] hHeap) = true := by kernel_rfl
end Go.Am.NSt
