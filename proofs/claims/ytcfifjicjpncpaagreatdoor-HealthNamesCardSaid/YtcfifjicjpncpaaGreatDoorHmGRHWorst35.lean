/- The health seat: healthAlive answers true. -/
import Derived.Test.YtcfifjicjpncpaaGreatDoorHmGRHWorst34
import Derived.Test.YtcfifjicjpncpaaGreatDoorHmGRHWorst29
import Derived.Test.YtcfifjicjpncpaaGreatDoorHmGRHWorst30
import Derived.Test.YtcfifjicjpncpaaGreatDoorHmGRHWorst31
import Derived.Test.YtcfifjicjpncpaaGreatDoorHmGRHWorst32
set_option linter.all false
noncomputable section
namespace Go.Am.HSt
open Go.RowKit Go.Proofs

theorem c1 : CallMOk Tryz.prog (piecesM [p1]) := piecesM_ok hCall_ok r1 fun p hp => by
  simp only [List.mem_cons, List.mem_nil_iff, or_false] at hp
  rcases hp with rfl
  · exact pb1
theorem c6 : CallMOk Tryz.prog (piecesM [p6, p7, p8, p9]) := piecesM_ok hCall_ok r6 fun p hp => by
  simp only [List.mem_cons, List.mem_nil_iff, or_false] at hp
  rcases hp with rfl | rfl | rfl | rfl
  · exact pb6
  · exact pb7
  · exact pb8
  · exact pb9
theorem c10 : CallMOk Tryz.prog (piecesM [p10, p11, p12, p13]) := piecesM_ok hCall_ok r10 fun p hp => by
  simp only [List.mem_cons, List.mem_nil_iff, or_false] at hp
  rcases hp with rfl | rfl | rfl | rfl
  · exact pb10
  · exact pb11
  · exact pb12
  · exact pb13
theorem c2 : CallMOk Tryz.prog (piecesM [p2, p3, p4]) := piecesM_ok hCall_ok r2 fun p hp => by
  simp only [List.mem_cons, List.mem_nil_iff, or_false] at hp
  rcases hp with rfl | rfl | rfl
  · exact pb2
  · exact pb3
  · exact pb4
theorem c14 : CallMOk Tryz.prog (piecesM [p14, p15, p16, p17]) := piecesM_ok hCall_ok r14 fun p hp => by
  simp only [List.mem_cons, List.mem_nil_iff, or_false] at hp
  rcases hp with rfl | rfl | rfl | rfl
  · exact pb14
  · exact pb15
  · exact pb16
  · exact pb17
theorem c18 : CallMOk Tryz.prog (piecesM [p18, p19, p20, p21]) := piecesM_ok hCall_ok r18 fun p hp => by
  simp only [List.mem_cons, List.mem_nil_iff, or_false] at hp
  rcases hp with rfl | rfl | rfl | rfl
  · exact pb18
  · exact pb19
  · exact pb20
  · exact pb21
theorem c5 : CallMOk Tryz.prog (piecesM [p5]) := piecesM_ok hCall_ok r5 fun p hp => by
  simp only [List.mem_cons, List.mem_nil_iff, or_false] at hp
  rcases hp with rfl
  · exact pb5
theorem c22 : CallMOk Tryz.prog (piecesM [p22, p23, p24, p25]) := piecesM_ok hCall_ok r22 fun p hp => by
  simp only [List.mem_cons, List.mem_nil_iff, or_false] at hp
  rcases hp with rfl | rfl | rfl | rfl
  · exact pb22
  · exact pb23
  · exact pb24
  · exact pb25
theorem c26 : CallMOk Tryz.prog (piecesM [p26, p27, p28, p29]) := piecesM_ok hCall_ok r26 fun p hp => by
  simp only [List.mem_cons, List.mem_nil_iff, or_false] at hp
  rcases hp with rfl | rfl | rfl | rfl
  · exact pb26
  · exact pb27
  · exact pb28
  · exact pb29
theorem c30 : CallMOk Tryz.prog (piecesM [p30, p31, p32, p33]) := piecesM_ok hCall_ok r30 fun p hp => by
  simp only [List.mem_cons, List.mem_nil_iff, or_false] at hp
  rcases hp with rfl | rfl | rfl | rfl
  · exact pb30
  · exact pb31
  · exact pb32
  · exact pb33
theorem c34 : CallMOk Tryz.prog (piecesM [p34, p35, p36, p37]) := piecesM_ok hCall_ok r34 fun p hp => by
  simp only [List.mem_cons, List.mem_nil_iff, or_false] at hp
  rcases hp with rfl | rfl | rfl | rfl
  · exact pb34
  · exact pb35
  · exact pb36
  · exact pb37

/-- All pieces. -/
def hPieces : CallM := orM (piecesM [p1]) (orM (piecesM [p6, p7, p8, p9]) (orM (piecesM [p10, p11, p12, p13]) (orM (piecesM [p2, p3, p4]) (orM (piecesM [p14, p15, p16, p17]) (orM (piecesM [p18, p19, p20, p21]) (orM (piecesM [p5]) (orM (piecesM [p22, p23, p24, p25]) (orM (piecesM [p26, p27, p28, p29]) (orM (piecesM [p30, p31, p32, p33]) (piecesM [p34, p35, p36, p37]))))))))))
theorem hPieces_ok : CallMOk Tryz.prog hPieces := orM_ok c1 (orM_ok c6 (orM_ok c10 (orM_ok c2 (orM_ok c14 (orM_ok c18 (orM_ok c5 (orM_ok c22 (orM_ok c26 (orM_ok c30 (c34))))))))))
def hTop : CallM := callM Tryz.prog (drawX Tryz.prog hPlan) (natCall hNat) (orM hPieces hOv) hDov 100000 200
theorem hTop_ok : CallMOk Tryz.prog hTop := callM_ok fns_ok mixed_ok (natM_ok nats_ok) (orM_ok hPieces_ok hOv_ok) (hDov_ok fns_ok) _
def isTrueM (r : Option (List (AV × Heap))) : Bool := match r with | some [(.bool true, _)] => true | _ => false
set_option maxRecDepth 1000000 in
theorem alive : isTrueM (hTop 5 [] hHeap) = true := by kernel_rfl
end Go.Am.HSt
