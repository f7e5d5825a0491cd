/- The health seat: the memories at which the run of healthAlive is cut (printed by wip/tools/nm/Gen). -/
import Derived.Test.YtcfifjicjpncpaaGreatDoorHmGRHWorst26
import Derived.Test.YtcfifjicjpncpaaGreatDoorHmGRHWorst22
set_option linter.all false
noncomputable section
namespace Go.Am.HSt
open Go.RowKit Go.Proofs

theorem hb0 : Bnd 9 hHeap.tr := fun i hi => by
  show (T16.put .leaf 0 (some kindsO)).get i = none
  rw [T16.get_put_ne _ (by omega)]
  exact T16.get_leaf i
def d1 : List (Nat × Option Obj) := [qo 9 (cv 66 [(.int .i32 (.ofNat 0)), (.int .u32 (.ofNat 0)), (qp 387 0)]),
  qo 53 (ct 198 [(qs 4 0x656d616e), (qi 1), (qs 4 0x72646461), (qi 1), (qs 4 0x6564616d), (qi 2), (qs 7 0x6465676e616863), (qi 2)]),
  qo 72 (ct 3 [(qi 0)]),
  qo 74 (ct 135 [(qs 2 0x6469), (qk 72 0 1), qt, qz, qz]),
  qo 136 (ct 198 [(qs 4 0x65646f6e), (qi 1), (qs 2 0x6469), (qi 1), (qs 4 0x656d616e), (qi 1), (qs 4 0x74726f70), (qi 2), (qs 4 0x73676174), (qi 3), (qs 4 0x6564616d), (qi 2), (qs 7 0x6465676e616863), (qi 2)]),
  qo 163 (ct 3 [(qi 0), (qi 1)]),
  qo 187 (ct 3 [(qi 2)]),
  qo 189 (ct 135 [(qs 2 0x6469), (qk 163 0 2), qt, qz, qz, (qs 4 0x656d616e), (qk 187 0 1), qz, qz, qz]),
  qo 252 (ct 198 [(qs 4 0x65646f6e), (qi 1), (qs 2 0x6469), (qi 1), (qs 7 0x65636976726573), (qi 1), (qs 6 0x737574617473), (qi 2), (qs 4 0x65746f6e), (qi 1), (qs 4 0x6564616d), (qi 2), (qs 7 0x6465676e616863), (qi 2)]),
  qo 279 (ct 3 [(qi 0), (qi 1)]),
  qo 310 (ct 3 [(qi 0), (qi 2)]),
  qo 336 (ct 3 [(qi 3)]),
  qo 338 (ct 135 [(qs 2 0x6469), (qk 279 0 2), qt, qz, qz, (qs 7 0x65636976726573), (qk 310 0 2), qz, qz, qt, (qs 6 0x737574617473), (qk 336 0 1), qz, qz, qz]),
  qo 346 (ct 120 [(qs 5 0x7365646f6e), (ql 53 0 4 (.tip 2)), (ql 74 0 1 (.tip 5)), (qs 8 0x7365636976726573), (ql 136 0 7 (.tip 2)), (ql 189 0 2 (.tip 5)), (qs 6 0x736b63656863), (ql 252 0 7 (.tip 2)), (ql 338 0 3 (.tip 5)), (qs 5 0x736b72616d), (ql 357 0 2 (.tip 2)), (ql 378 0 1 (.tip 5))]),
  qo 357 (ct 198 [(qs 5 0x656c626174), (qi 1), (qs 5 0x65756c6176), (qi 2)]),
  qo 376 (ct 3 [(qi 0)]),
  qo 378 (ct 135 [(qs 2 0x6469), (qk 376 0 1), qt, qz, qz]),
  qo 380 (.map [((qs 5 0x7365646f6e), (qi 0), 0), ((qs 8 0x7365636976726573), (qi 1), 1), ((qs 6 0x736b63656863), (qi 2), 2), ((qs 5 0x736b72616d), (qi 3), 3)] 4),
  qo 381 (cv 180 [(qp 1274 0), (.int .i32 (.ofNat 0)), (.int .u32 (.ofNat 0))]),
  qo 387 (cv 116 [(ql 346 0 4 (.tip 3)), (qm 380), (qp 381 0)]),
  qo 571 (ct 142 [(qs 5 0x7365646f6e), (qu 0), (.slice none 0 (.exact 0)), qe, (qu 1), (.slice none 0 (.exact 0))]),
  qo 587 (.chan 0 [] false),
  qo 588 (cv 361 [(.int .u32 (.ofNat 0)), (.int .i32 (.ofNat 0)), (.int .u32 (.ofNat 0)), (.chan (some 587))]),
  qo 589 (cv 301 [(qs 10 0x1007365646f6e010003), (ql 571 0 2 (.tip 3)), (qp 588 0)]),
  qo 593 (.chan 0 [] false),
  qo 594 (cv 361 [(.int .u32 (.ofNat 0)), (.int .i32 (.ofNat 0)), (.int .u32 (.ofNat 0)), (.chan (some 593))]),
  qo 797 (ct 142 [(qs 8 0x7365636976726573), (qu 0), (.slice none 0 (.exact 0)), qe, (qu 1), (.slice none 0 (.exact 0))]),
  qo 813 (.chan 0 [] false),
  qo 814 (cv 361 [(.int .u32 (.ofNat 0)), (.int .i32 (.ofNat 0)), (.int .u32 (.ofNat 0)), (.chan (some 813))]),
  qo 815 (cv 301 [(qs 13 0x1007365636976726573010003), (ql 797 0 2 (.tip 3)), (qp 814 0)]),
  qo 821 (cv 282 [(qs 7 0x1007365646f6e), (qp 589 0), (.slice none 0 (.exact 0)), (qp 594 0)]),
  qo 826 (.chan 0 [] false),
  qo 827 (cv 361 [(.int .u32 (.ofNat 0)), (.int .i32 (.ofNat 0)), (.int .u32 (.ofNat 0)), (.chan (some 826))]),
  qo 828 (cv 282 [(qs 10 0x1007365636976726573), (qp 815 0), (.slice none 0 (.exact 0)), (qp 827 0)]),
  qo 1018 (ct 142 [(qs 6 0x736b63656863), (qu 0), (.slice none 0 (.exact 0)), qe, (qu 1), (.slice none 0 (.exact 0))]),
  qo 1034 (.chan 0 [] false),
  qo 1035 (cv 361 [(.int .u32 (.ofNat 0)), (.int .i32 (.ofNat 0)), (.int .u32 (.ofNat 0)), (.chan (some 1034))]),
  qo 1036 (cv 301 [(qs 11 0x100736b63656863010003), (ql 1018 0 2 (.tip 3)), (qp 1035 0)]),
  qo 1047 (.chan 0 [] false),
  qo 1048 (cv 361 [(.int .u32 (.ofNat 0)), (.int .i32 (.ofNat 0)), (.int .u32 (.ofNat 0)), (.chan (some 1047))]),
  qo 1049 (cv 282 [(qs 8 0x100736b63656863), (qp 1036 0), (.slice none 0 (.exact 0)), (qp 1048 0)]),
  qo 1233 (ct 142 [(qs 5 0x7865646e69), (qu 0), (.slice none 0 (.exact 0)), qe, (qu 1), (.slice none 0 (.exact 0))]),
  qo 1249 (.chan 0 [] false),
  qo 1250 (cv 361 [(.int .u32 (.ofNat 0)), (.int .i32 (.ofNat 0)), (.int .u32 (.ofNat 0)), (.chan (some 1249))]),
  qo 1251 (cv 301 [(qs 10 0x1007865646e69010003), (ql 1233 0 2 (.tip 3)), (qp 1250 0)]),
  qo 1253 (ct 277 [(qp 1261 0)]),
  qo 1254 (.chan 0 [] false),
  qo 1255 (cv 361 [(.int .u32 (.ofNat 0)), (.int .i32 (.ofNat 0)), (.int .u32 (.ofNat 0)), (.chan (some 1254))]),
  qo 1256 (cv 282 [qe, qn, (qk 1253 0 1), (qp 1255 0)]),
  qo 1259 (.chan 0 [] false),
  qo 1260 (cv 361 [(.int .u32 (.ofNat 0)), (.int .i32 (.ofNat 0)), (.int .u32 (.ofNat 0)), (.chan (some 1259))]),
  qo 1261 (cv 282 [(qs 3 0x10003), qn, (qk 1266 0 4), (qp 1260 0)]),
  qo 1262 (.chan 0 [] false),
  qo 1263 (cv 361 [(.int .u32 (.ofNat 0)), (.int .i32 (.ofNat 0)), (.int .u32 (.ofNat 0)), (.chan (some 1262))]),
  qo 1264 (cv 282 [(qs 7 0x1007865646e69), (qp 1251 0), (.slice none 0 (.exact 0)), (qp 1263 0)]),
  qo 1266 (co [(qp 1049 0), (qp 1264 0), (qp 821 0), (qp 828 0)]),
  qo 1267 (cv 284 [(qp 1256 0), (qi 4)]),
  qo 1274 (cv 183 [(qp 1267 0), (qu 1)])]
def p1 : Piece := ⟨10, [(qu 1)], 9, hHeap.tr, (qp 9 0), 1289, d1⟩
theorem pb1 : Bnd p1.n p1.t := hb0
def z1 : T16 := pt hHeap.tr d1
theorem zb1 : Bnd 1289 z1 := Bnd.pt (n := 9) (Nat.le_of_ble_eq_true (by kernel_rfl)) hb0 (by kernel_rfl)
def e2 : List (Nat × Option Obj) := [qo 9 (cv 66 [(.int .i32 (.ofNat 1)), (.int .u32 (.ofNat 0)), (qp 387 0)]),
  qo 381 (cv 180 [(qp 1274 0), (.int .i32 (.ofNat 1)), (.int .u32 (.ofNat 0))]),
  qo 1289 (ct 9 [(qs 1 0x78)]),
  qo 1290 (ct 88 [(qi 1), (qs 2 0x316e), (qs 8 0x312e302e302e3031), (qu 0), (qu 0), qe, qe, qe, (qi 0), (.slice none 0 (.exact 0)), (qu 0), (qu 0), qe, qe, qe, (qi 0), qe, (qu 0), (qu 0), qz, (qu 0), (qi 2), qe, qe, (qu 0), (qu 0), (qs 2 0x316e), (qs 2 0x3177), (qs 3 0x626577), (qi 80), (ql 1289 0 1 (.exact 1)), (qu 0), (qu 0), qe, qe, qe, (qi 0), qe, (qu 0), (qu 0), qz, (qu 0), (qi 3), qe, qe, (qu 0), (qu 0), qe, qe, qe, (qi 0), (.slice none 0 (.exact 0)), (qu 0), (qu 0), (qs 2 0x316e), (qs 1 0x63), qe, (qi 1), qe, (qu 0), (qu 0), qz, (qu 0), (qi 3), qe, qe, (qu 0), (qu 0), qe, qe, qe, (qi 0), (.slice none 0 (.exact 0)), (qu 0), (qu 0), (qs 2 0x316e), (qs 1 0x64), (qs 2 0x3177), (qi 2), qe, (qu 0), (qu 0), qz, (qu 0)]),
  qo 1291 (cv 37 [(qu 0), qz, (qi 0), (qi 0)]),
  qo 1292 (cv 147 [(ql 346 0 4 (.tip 3)), (qm 380), (qp 1267 0), (qu 1), qz]),
  qo 1293 (cv 94 [(qp 1292 0)]),
  qo 1295 (ct 154 [(qi 1), (qs 5 0x7865646e69), (qu 0)]),
  qo 1388 (ct 142 [(qs 5 0x7865646e69), (qu 0), (.slice none 0 (.exact 0)), qe, (qu 1), (.slice none 0 (.exact 0))]),
  qo 1390 (cv 76 [(ql 1388 0 2 (.tip 3))]),
  qo 1391 (.map [] 0),
  qo 1392 (cv 194 [(qp 381 0), (qp 1267 0), (qm 1391), qz]),
  qo 1393 (cv 126 [(ql 346 0 4 (.tip 3)), (qm 380), (qp 1392 0), (qu 1)]),
  qo 1394 (.map [] 0),
  qo 1395 (cv 86 [(qp 1393 0), (qu 2), (qm 1394)]),
  qo 1396 (cv 88 [(qi 1), (qs 2 0x316e), (qs 8 0x312e302e302e3031), (qu 0), (qu 0), qe, qe, qe, (qi 0), (.slice none 0 (.exact 0)), (qu 0), (qu 0), qe, qe, qe, (qi 0), qe, (qu 0), (qu 0), qz, (qu 0)])]
def a2 : T16 := pt z1 e2
theorem ab2 : Bnd 1397 a2 := Bnd.pt (n := 1289) (Nat.le_of_ble_eq_true (by kernel_rfl)) zb1 (by kernel_rfl)
def d2 : List (Nat × Option Obj) := [qo 1394 (.map [((qs 5 0x7365646f6e), (qu 2), 0)] 1),
  qo 1392 (cv 194 [(qp 381 0), (qp 1680 0), (qm 1391), qz]),
  qo 1391 (.map [((qs 7 0x100316e010000), (qi 1), 0)] 1),
  qo 1651 (ct 142 [(qs 2 0x316e), (qu 0), (.slice none 0 (.exact 0)), (qs 8 0x312e302e302e3031), (qu 0), (.slice none 0 (.exact 0)), qe, (qu 2), (.slice none 0 (.exact 0)), qe, (qu 2), (.slice none 0 (.exact 0))]),
  qo 1667 (.chan 0 [] false),
  qo 1668 (cv 361 [(.int .u32 (.ofNat 0)), (.int .i32 (.ofNat 0)), (.int .u32 (.ofNat 0)), (.chan (some 1667))]),
  qo 1669 (cv 301 [(qs 7 0x100316e010000), (ql 1651 0 4 (.tip 3)), (qp 1668 0)]),
  qo 1672 (.chan 0 [] false),
  qo 1673 (cv 361 [(.int .u32 (.ofNat 0)), (.int .i32 (.ofNat 0)), (.int .u32 (.ofNat 0)), (.chan (some 1672))]),
  qo 1674 (cv 282 [qe, qn, (qk 1679 0 2), (qp 1673 0)]),
  qo 1675 (.chan 0 [] false),
  qo 1676 (cv 361 [(.int .u32 (.ofNat 0)), (.int .i32 (.ofNat 0)), (.int .u32 (.ofNat 0)), (.chan (some 1675))]),
  qo 1677 (cv 282 [(qs 7 0x100316e010000), (qp 1669 0), (.slice none 0 (.exact 0)), (qp 1676 0)]),
  qo 1679 (co [(qp 1677 0), (qp 1261 0)]),
  qo 1680 (cv 284 [(qp 1674 0), (qi 5)])]
def p2 : Piece := ⟨25, [(qp 1395 0), (.agg [(qi 1), (qs 2 0x316e), (qs 8 0x312e302e302e3031), (qu 0), (qu 0), qe, qe, qe, (qi 0), (.slice none 0 (.exact 0)), (qu 0), (qu 0), qe, qe, qe, (qi 0), qe, (qu 0), (qu 0), qz, (qu 0)])], 1397, a2, (qi 0), 1685, d2⟩
theorem pb2 : Bnd p2.n p2.t := ab2
def z2 : T16 := pt a2 d2
theorem zb2 : Bnd 1685 z2 := Bnd.pt (n := 1397) (Nat.le_of_ble_eq_true (by kernel_rfl)) ab2 (by kernel_rfl)
def e3 : List (Nat × Option Obj) := [qo 1685 (cv 88 [(qi 2), qe, qe, (qu 0), (qu 0), (qs 2 0x316e), (qs 2 0x3177), (qs 3 0x626577), (qi 80), (ql 1289 0 1 (.exact 1)), (qu 0), (qu 0), qe, qe, qe, (qi 0), qe, (qu 0), (qu 0), qz, (qu 0)])]
def a3 : T16 := pt z2 e3
theorem ab3 : Bnd 1686 a3 := Bnd.pt (n := 1685) (Nat.le_of_ble_eq_true (by kernel_rfl)) zb2 (by kernel_rfl)
def d3 : List (Nat × Option Obj) := [qo 1394 (.map [((qs 5 0x7365646f6e), (qu 2), 0), ((qs 8 0x7365636976726573), (qu 2), 1)] 2),
  qo 1392 (cv 194 [(qp 381 0), (qp 2648 0), (qm 1391), qz]),
  qo 1391 (.map [((qs 7 0x100316e010000), (qi 1), 0), ((qs 12 0x1003177010100316e010001), (qi 1), 1), ((qs 18 0x1003177010100316e010100626577010101), (qi 1), 2)] 3),
  qo 2589 (ct 142 [(qs 2 0x316e), (qu 0), (.slice none 0 (.exact 0)), (qs 2 0x3177), (qu 0), (.slice none 0 (.exact 0)), (qs 3 0x626577), (qu 0), (.slice none 0 (.exact 0)), qe, (qu 80), (.slice none 0 (.exact 0)), qe, (qu 0), (qk 2592 0 1), qe, (qu 2), (.slice none 0 (.exact 0)), qe, (qu 2), (.slice none 0 (.exact 0))]),
  qo 2592 (ct 9 [(qs 1 0x78)]),
  qo 2607 (.chan 0 [] false),
  qo 2608 (cv 361 [(.int .u32 (.ofNat 0)), (.int .i32 (.ofNat 0)), (.int .u32 (.ofNat 0)), (.chan (some 2607))]),
  qo 2609 (cv 301 [(qs 12 0x1003177010100316e010001), (ql 2589 0 7 (.tip 3)), (qp 2608 0)]),
  qo 2615 (.chan 0 [] false),
  qo 2616 (cv 361 [(.int .u32 (.ofNat 0)), (.int .i32 (.ofNat 0)), (.int .u32 (.ofNat 0)), (.chan (some 2615))]),
  qo 2630 (.chan 0 [] false),
  qo 2631 (cv 361 [(.int .u32 (.ofNat 0)), (.int .i32 (.ofNat 0)), (.int .u32 (.ofNat 0)), (.chan (some 2630))]),
  qo 2632 (cv 301 [(qs 18 0x1003177010100316e010100626577010101), (ql 2589 0 7 (.tip 3)), (qp 2631 0)]),
  qo 2634 (ct 277 [(qp 1677 0), (qp 2642 0), (qp 1261 0)]),
  qo 2635 (.chan 0 [] false),
  qo 2636 (cv 361 [(.int .u32 (.ofNat 0)), (.int .i32 (.ofNat 0)), (.int .u32 (.ofNat 0)), (.chan (some 2635))]),
  qo 2637 (cv 282 [qe, qn, (qk 2634 0 3), (qp 2636 0)]),
  qo 2638 (cv 282 [(qs 11 0x1003177010100316e0100), (qp 2609 0), (.slice none 0 (.exact 0)), (qp 2616 0)]),
  qo 2640 (.chan 0 [] false),
  qo 2641 (cv 361 [(.int .u32 (.ofNat 0)), (.int .i32 (.ofNat 0)), (.int .u32 (.ofNat 0)), (.chan (some 2640))]),
  qo 2642 (cv 282 [(qs 1 0x1), qn, (qk 2647 0 2), (qp 2641 0)]),
  qo 2643 (.chan 0 [] false),
  qo 2644 (cv 361 [(.int .u32 (.ofNat 0)), (.int .i32 (.ofNat 0)), (.int .u32 (.ofNat 0)), (.chan (some 2643))]),
  qo 2645 (cv 282 [(qs 17 0x1003177010100316e0101006265770101), (qp 2632 0), (.slice none 0 (.exact 0)), (qp 2644 0)]),
  qo 2647 (ct 277 [(qp 2638 0), (qp 2645 0)]),
  qo 2648 (cv 284 [(qp 2637 0), (qi 7)])]
def p3 : Piece := ⟨25, [(qp 1395 0), (.agg [(qi 2), qe, qe, (qu 0), (qu 0), (qs 2 0x316e), (qs 2 0x3177), (qs 3 0x626577), (qi 80), (ql 1289 0 1 (.exact 1)), (qu 0), (qu 0), qe, qe, qe, (qi 0), qe, (qu 0), (qu 0), qz, (qu 0)])], 1686, a3, (qi 0), 2653, d3⟩
theorem pb3 : Bnd p3.n p3.t := ab3
def z3 : T16 := pt a3 d3
theorem zb3 : Bnd 2653 z3 := Bnd.pt (n := 1686) (Nat.le_of_ble_eq_true (by kernel_rfl)) ab3 (by kernel_rfl)
def e4 : List (Nat × Option Obj) := [qo 2653 (cv 88 [(qi 3), qe, qe, (qu 0), (qu 0), qe, qe, qe, (qi 0), (.slice none 0 (.exact 0)), (qu 0), (qu 0), (qs 2 0x316e), (qs 1 0x63), qe, (qi 1), qe, (qu 0), (qu 0), qz, (qu 0)])]
def a4 : T16 := pt z3 e4
theorem ab4 : Bnd 2654 a4 := Bnd.pt (n := 2653) (Nat.le_of_ble_eq_true (by kernel_rfl)) zb3 (by kernel_rfl)
def d4 : List (Nat × Option Obj) := [qo 1394 (.map [((qs 5 0x7365646f6e), (qu 2), 0), ((qs 8 0x7365636976726573), (qu 2), 1), ((qs 6 0x736b63656863), (qu 2), 2)] 3),
  qo 1392 (cv 194 [(qp 381 0), (qp 4191 0), (qm 1391), qz]),
  qo 1391 (.map [((qs 7 0x100316e010000), (qi 1), 0), ((qs 12 0x1003177010100316e010001), (qi 1), 1), ((qs 18 0x1003177010100316e010100626577010101), (qi 1), 2), ((qs 11 0x10063010100316e010002), (qi 1), 3), ((qs 20 0x10063010100316e010100000000000000020202), (qi 1), 4)] 5),
  qo 4134 (ct 142 [(qs 2 0x316e), (qu 0), (.slice none 0 (.exact 0)), (qs 1 0x63), (qu 0), (.slice none 0 (.exact 0)), qe, (qu 0), (.slice none 0 (.exact 0)), qe, (qu 1), (.slice none 0 (.exact 0)), qe, (qu 0), (.slice none 0 (.exact 0)), qe, (qu 2), (.slice none 0 (.exact 0)), qe, (qu 2), (.slice none 0 (.exact 0))]),
  qo 4150 (.chan 0 [] false),
  qo 4151 (cv 361 [(.int .u32 (.ofNat 0)), (.int .i32 (.ofNat 0)), (.int .u32 (.ofNat 0)), (.chan (some 4150))]),
  qo 4152 (cv 301 [(qs 11 0x10063010100316e010002), (ql 4134 0 7 (.tip 3)), (qp 4151 0)]),
  qo 4158 (.chan 0 [] false),
  qo 4159 (cv 361 [(.int .u32 (.ofNat 0)), (.int .i32 (.ofNat 0)), (.int .u32 (.ofNat 0)), (.chan (some 4158))]),
  qo 4173 (.chan 0 [] false),
  qo 4174 (cv 361 [(.int .u32 (.ofNat 0)), (.int .i32 (.ofNat 0)), (.int .u32 (.ofNat 0)), (.chan (some 4173))]),
  qo 4175 (cv 301 [(qs 20 0x10063010100316e010100000000000000020202), (ql 4134 0 7 (.tip 3)), (qp 4174 0)]),
  qo 4177 (ct 277 [(qp 1677 0), (qp 2642 0), (qp 4185 0), (qp 1261 0)]),
  qo 4178 (.chan 0 [] false),
  qo 4179 (cv 361 [(.int .u32 (.ofNat 0)), (.int .i32 (.ofNat 0)), (.int .u32 (.ofNat 0)), (.chan (some 4178))]),
  qo 4180 (cv 282 [qe, qn, (qk 4177 0 4), (qp 4179 0)]),
  qo 4181 (cv 282 [(qs 10 0x10063010100316e0100), (qp 4152 0), (.slice none 0 (.exact 0)), (qp 4159 0)]),
  qo 4183 (.chan 0 [] false),
  qo 4184 (cv 361 [(.int .u32 (.ofNat 0)), (.int .i32 (.ofNat 0)), (.int .u32 (.ofNat 0)), (.chan (some 4183))]),
  qo 4185 (cv 282 [(qs 1 0x2), qn, (qk 4190 0 2), (qp 4184 0)]),
  qo 4186 (.chan 0 [] false),
  qo 4187 (cv 361 [(.int .u32 (.ofNat 0)), (.int .i32 (.ofNat 0)), (.int .u32 (.ofNat 0)), (.chan (some 4186))]),
  qo 4188 (cv 282 [(qs 19 0x10063010100316e0101000000000000000202), (qp 4175 0), (.slice none 0 (.exact 0)), (qp 4187 0)]),
  qo 4190 (ct 277 [(qp 4181 0), (qp 4188 0)]),
  qo 4191 (cv 284 [(qp 4180 0), (qi 9)])]
def p4 : Piece := ⟨25, [(qp 1395 0), (.agg [(qi 3), qe, qe, (qu 0), (qu 0), qe, qe, qe, (qi 0), (.slice none 0 (.exact 0)), (qu 0), (qu 0), (qs 2 0x316e), (qs 1 0x63), qe, (qi 1), qe, (qu 0), (qu 0), qz, (qu 0)])], 2654, a4, (qi 0), 4196, d4⟩
theorem pb4 : Bnd p4.n p4.t := ab4
def z4 : T16 := pt a4 d4
theorem zb4 : Bnd 4196 z4 := Bnd.pt (n := 2654) (Nat.le_of_ble_eq_true (by kernel_rfl)) ab4 (by kernel_rfl)
def e5 : List (Nat × Option Obj) := [qo 4196 (cv 88 [(qi 3), qe, qe, (qu 0), (qu 0), qe, qe, qe, (qi 0), (.slice none 0 (.exact 0)), (qu 0), (qu 0), (qs 2 0x316e), (qs 1 0x64), (qs 2 0x3177), (qi 2), qe, (qu 0), (qu 0), qz, (qu 0)])]
def a5 : T16 := pt z4 e5
theorem ab5 : Bnd 4197 a5 := Bnd.pt (n := 4196) (Nat.le_of_ble_eq_true (by kernel_rfl)) zb4 (by kernel_rfl)
def d5 : List (Nat × Option Obj) := [qo 1394 (.map [((qs 5 0x7365646f6e), (qu 2), 0), ((qs 8 0x7365636976726573), (qu 2), 1), ((qs 6 0x736b63656863), (qu 2), 2)] 3),
  qo 1392 (cv 194 [(qp 381 0), (qp 6110 0), (qm 1391), qz]),
  qo 1391 (.map [((qs 7 0x100316e010000), (qi 1), 0), ((qs 12 0x1003177010100316e010001), (qi 1), 1), ((qs 18 0x1003177010100316e010100626577010101), (qi 1), 2), ((qs 11 0x10063010100316e010002), (qi 1), 3), ((qs 20 0x10063010100316e010100000000000000020202), (qi 1), 4), ((qs 11 0x10064010100316e010002), (qi 1), 5), ((qs 21 0x10064010100316e0101003177010100316e010102), (qi 1), 6), ((qs 20 0x10064010100316e010200000000000000020202), (qi 1), 7)] 8),
  qo 6010 (ct 142 [(qs 2 0x316e), (qu 0), (.slice none 0 (.exact 0)), (qs 1 0x64), (qu 0), (.slice none 0 (.exact 0)), (qs 2 0x3177), (qu 0), (.slice none 0 (.exact 0)), qe, (qu 2), (.slice none 0 (.exact 0)), qe, (qu 0), (.slice none 0 (.exact 0)), qe, (qu 2), (.slice none 0 (.exact 0)), qe, (qu 2), (.slice none 0 (.exact 0))]),
  qo 6026 (.chan 0 [] false),
  qo 6027 (cv 361 [(.int .u32 (.ofNat 0)), (.int .i32 (.ofNat 0)), (.int .u32 (.ofNat 0)), (.chan (some 6026))]),
  qo 6028 (cv 301 [(qs 11 0x10064010100316e010002), (ql 6010 0 7 (.tip 3)), (qp 6027 0)]),
  qo 6039 (cv 282 [(qs 3 0x10063), (qp 4152 0), (.slice none 0 (.exact 0)), (qp 4159 0)]),
  qo 6041 (.chan 0 [] false),
  qo 6042 (cv 361 [(.int .u32 (.ofNat 0)), (.int .i32 (.ofNat 0)), (.int .u32 (.ofNat 0)), (.chan (some 6041))]),
  qo 6043 (cv 282 [(qs 7 0x10100316e0100), qn, (qk 6048 0 2), (qp 6042 0)]),
  qo 6044 (.chan 0 [] false),
  qo 6045 (cv 361 [(.int .u32 (.ofNat 0)), (.int .i32 (.ofNat 0)), (.int .u32 (.ofNat 0)), (.chan (some 6044))]),
  qo 6046 (cv 282 [(qs 3 0x10064), (qp 6028 0), (.slice none 0 (.exact 0)), (qp 6045 0)]),
  qo 6048 (ct 277 [(qp 6039 0), (qp 6046 0)]),
  qo 6059 (.chan 0 [] false),
  qo 6060 (cv 361 [(.int .u32 (.ofNat 0)), (.int .i32 (.ofNat 0)), (.int .u32 (.ofNat 0)), (.chan (some 6059))]),
  qo 6061 (cv 301 [(qs 21 0x10064010100316e0101003177010100316e010102), (ql 6010 0 7 (.tip 3)), (qp 6060 0)]),
  qo 6072 (.chan 0 [] false),
  qo 6073 (cv 361 [(.int .u32 (.ofNat 0)), (.int .i32 (.ofNat 0)), (.int .u32 (.ofNat 0)), (.chan (some 6072))]),
  qo 6074 (cv 282 [(qs 20 0x10064010100316e0101003177010100316e0101), (qp 6061 0), (.slice none 0 (.exact 0)), (qp 6073 0)]),
  qo 6087 (.chan 0 [] false),
  qo 6088 (cv 361 [(.int .u32 (.ofNat 0)), (.int .i32 (.ofNat 0)), (.int .u32 (.ofNat 0)), (.chan (some 6087))]),
  qo 6089 (cv 301 [(qs 20 0x10064010100316e010200000000000000020202), (ql 6010 0 7 (.tip 3)), (qp 6088 0)]),
  qo 6091 (ct 277 [(qp 1677 0), (qp 2642 0), (qp 6099 0), (qp 1261 0)]),
  qo 6092 (.chan 0 [] false),
  qo 6093 (cv 361 [(.int .u32 (.ofNat 0)), (.int .i32 (.ofNat 0)), (.int .u32 (.ofNat 0)), (.chan (some 6092))]),
  qo 6094 (cv 282 [qe, qn, (qk 6091 0 4), (qp 6093 0)]),
  qo 6096 (ct 277 [(qp 6043 0), (qp 6074 0), (qp 6104 0)]),
  qo 6097 (.chan 0 [] false),
  qo 6098 (cv 361 [(.int .u32 (.ofNat 0)), (.int .i32 (.ofNat 0)), (.int .u32 (.ofNat 0)), (.chan (some 6097))]),
  qo 6099 (cv 282 [(qs 1 0x2), qn, (qk 6096 0 3), (qp 6098 0)]),
  qo 6100 (cv 282 [(qs 10 0x10063010100316e0101), (qp 4175 0), (.slice none 0 (.exact 0)), (qp 4187 0)]),
  qo 6102 (.chan 0 [] false),
  qo 6103 (cv 361 [(.int .u32 (.ofNat 0)), (.int .i32 (.ofNat 0)), (.int .u32 (.ofNat 0)), (.chan (some 6102))]),
  qo 6104 (cv 282 [(qs 9 0x202), qn, (qk 6109 0 2), (qp 6103 0)]),
  qo 6105 (.chan 0 [] false),
  qo 6106 (cv 361 [(.int .u32 (.ofNat 0)), (.int .i32 (.ofNat 0)), (.int .u32 (.ofNat 0)), (.chan (some 6105))]),
  qo 6107 (cv 282 [(qs 10 0x10064010100316e0102), (qp 6089 0), (.slice none 0 (.exact 0)), (qp 6106 0)]),
  qo 6109 (ct 277 [(qp 6100 0), (qp 6107 0)]),
  qo 6110 (cv 284 [(qp 6094 0), (qi 12)])]
def p5 : Piece := ⟨25, [(qp 1395 0), (.agg [(qi 3), qe, qe, (qu 0), (qu 0), qe, qe, qe, (qi 0), (.slice none 0 (.exact 0)), (qu 0), (qu 0), (qs 2 0x316e), (qs 1 0x64), (qs 2 0x3177), (qi 2), qe, (qu 0), (qu 0), qz, (qu 0)])], 4197, a5, (qi 0), 6115, d5⟩
theorem pb5 : Bnd p5.n p5.t := ab5
def z5 : T16 := pt a5 d5
theorem zb5 : Bnd 6115 z5 := Bnd.pt (n := 4197) (Nat.le_of_ble_eq_true (by kernel_rfl)) ab5 (by kernel_rfl)
def e6 : List (Nat × Option Obj) := [qo 1394 (.map [((qs 5 0x7365646f6e), (qu 2), 0), ((qs 8 0x7365636976726573), (qu 2), 1), ((qs 6 0x736b63656863), (qu 2), 2), ((qs 5 0x7865646e69), (qu 2), 3)] 4),
  qo 6115 (.iter (some 1394) 4 [0] (some 0) 4),
  qo 6116 (cv 76 [(ql 6117 0 2 (.exact 2))]),
  qo 6117 (ct 142 [(qs 5 0x7365646f6e), (qu 0), (.slice none 0 (.exact 0)), qe, (qu 2), (.slice none 0 (.exact 0))])]
def a6 : T16 := pt z5 e6
theorem ab6 : Bnd 6118 a6 := Bnd.pt (n := 6115) (Nat.le_of_ble_eq_true (by kernel_rfl)) zb5 (by kernel_rfl)
def d6 : List (Nat × Option Obj) := [qo 1392 (cv 194 [(qp 381 0), (qp 6536 0), (qm 1391), qz]),
  qo 1391 (.map [((qs 7 0x100316e010000), (qi 1), 0), ((qs 12 0x1003177010100316e010001), (qi 1), 1), ((qs 18 0x1003177010100316e010100626577010101), (qi 1), 2), ((qs 11 0x10063010100316e010002), (qi 1), 3), ((qs 20 0x10063010100316e010100000000000000020202), (qi 1), 4), ((qs 11 0x10064010100316e010002), (qi 1), 5), ((qs 21 0x10064010100316e0101003177010100316e010102), (qi 1), 6), ((qs 20 0x10064010100316e010200000000000000020202), (qi 1), 7), ((qs 10 0x1007365646f6e010003), (qi 1), 8)] 9),
  qo 6397 (ct 142 [(qs 5 0x7365646f6e), (qu 0), (.slice none 0 (.exact 0)), qe, (qu 2), (.slice none 0 (.exact 0))]),
  qo 6520 (.chan 0 [] false),
  qo 6521 (cv 361 [(.int .u32 (.ofNat 0)), (.int .i32 (.ofNat 0)), (.int .u32 (.ofNat 0)), (.chan (some 6520))]),
  qo 6522 (cv 301 [(qs 10 0x1007365646f6e010003), (ql 6397 0 2 (.tip 3)), (qp 6521 0)]),
  qo 6524 (ct 277 [(qp 1677 0), (qp 2642 0), (qp 6099 0), (qp 6532 0)]),
  qo 6525 (.chan 0 [] false),
  qo 6526 (cv 361 [(.int .u32 (.ofNat 0)), (.int .i32 (.ofNat 0)), (.int .u32 (.ofNat 0)), (.chan (some 6525))]),
  qo 6527 (cv 282 [qe, qn, (qk 6524 0 4), (qp 6526 0)]),
  qo 6529 (ct 277 [(qp 1049 0), (qp 1264 0), (qp 6535 0), (qp 828 0)]),
  qo 6530 (.chan 0 [] false),
  qo 6531 (cv 361 [(.int .u32 (.ofNat 0)), (.int .i32 (.ofNat 0)), (.int .u32 (.ofNat 0)), (.chan (some 6530))]),
  qo 6532 (cv 282 [(qs 3 0x10003), qn, (qk 6529 0 4), (qp 6531 0)]),
  qo 6533 (.chan 0 [] false),
  qo 6534 (cv 361 [(.int .u32 (.ofNat 0)), (.int .i32 (.ofNat 0)), (.int .u32 (.ofNat 0)), (.chan (some 6533))]),
  qo 6535 (cv 282 [(qs 7 0x1007365646f6e), (qp 6522 0), (.slice none 0 (.exact 0)), (qp 6534 0)]),
  qo 6536 (cv 284 [(qp 6527 0), (qi 12)]),
  qo 6543 (ct 142 [(qs 5 0x7365646f6e), (qu 0), (.slice none 0 (.exact 0)), qe, (qu 1), (.slice none 0 (.exact 0))])]
def p6 : Piece := ⟨19, [(qp 1393 0), (qs 5 0x736b72616d), (.agg [(ql 6117 0 2 (.exact 2))])], 6118, a6, (.tuple [(.agg [(ql 6543 0 2 (.tip 3))]), qt, (qi 0)]), 6545, d6⟩
theorem pb6 : Bnd p6.n p6.t := ab6
def z6 : T16 := pt a6 d6
theorem zb6 : Bnd 6545 z6 := Bnd.pt (n := 6118) (Nat.le_of_ble_eq_true (by kernel_rfl)) ab6 (by kernel_rfl)
def e7 : List (Nat × Option Obj) := [qo 6115 (.iter (some 1394) 4 [1] (some 1) 4),
  qo 6117 (ct 142 [(qs 8 0x7365636976726573), (qu 0), (.slice none 0 (.exact 0)), qe, (qu 2), (.slice none 0 (.exact 0))])]
def a7 : T16 := pt a6 e7
theorem ab7 : Bnd 6118 a7 := Bnd.pt (n := 6118) (Nat.le_of_ble_eq_true (by kernel_rfl)) ab6 (by kernel_rfl)
def d7 : List (Nat × Option Obj) := [qo 1392 (cv 194 [(qp 381 0), (qp 6578 0), (qm 1391), qz]),
  qo 1391 (.map [((qs 7 0x100316e010000), (qi 1), 0), ((qs 12 0x1003177010100316e010001), (qi 1), 1), ((qs 18 0x1003177010100316e010100626577010101), (qi 1), 2), ((qs 11 0x10063010100316e010002), (qi 1), 3), ((qs 20 0x10063010100316e010100000000000000020202), (qi 1), 4), ((qs 11 0x10064010100316e010002), (qi 1), 5), ((qs 21 0x10064010100316e0101003177010100316e010102), (qi 1), 6), ((qs 20 0x10064010100316e010200000000000000020202), (qi 1), 7), ((qs 13 0x1007365636976726573010003), (qi 1), 8)] 9),
  qo 6427 (ct 142 [(qs 8 0x7365636976726573), (qu 0), (.slice none 0 (.exact 0)), qe, (qu 2), (.slice none 0 (.exact 0))]),
  qo 6562 (.chan 0 [] false),
  qo 6563 (cv 361 [(.int .u32 (.ofNat 0)), (.int .i32 (.ofNat 0)), (.int .u32 (.ofNat 0)), (.chan (some 6562))]),
  qo 6564 (cv 301 [(qs 13 0x1007365636976726573010003), (ql 6427 0 2 (.tip 3)), (qp 6563 0)]),
  qo 6566 (ct 277 [(qp 1677 0), (qp 2642 0), (qp 6099 0), (qp 6574 0)]),
  qo 6567 (.chan 0 [] false),
  qo 6568 (cv 361 [(.int .u32 (.ofNat 0)), (.int .i32 (.ofNat 0)), (.int .u32 (.ofNat 0)), (.chan (some 6567))]),
  qo 6569 (cv 282 [qe, qn, (qk 6566 0 4), (qp 6568 0)]),
  qo 6571 (ct 277 [(qp 1049 0), (qp 1264 0), (qp 821 0), (qp 6577 0)]),
  qo 6572 (.chan 0 [] false),
  qo 6573 (cv 361 [(.int .u32 (.ofNat 0)), (.int .i32 (.ofNat 0)), (.int .u32 (.ofNat 0)), (.chan (some 6572))]),
  qo 6574 (cv 282 [(qs 3 0x10003), qn, (qk 6571 0 4), (qp 6573 0)]),
  qo 6575 (.chan 0 [] false),
  qo 6576 (cv 361 [(.int .u32 (.ofNat 0)), (.int .i32 (.ofNat 0)), (.int .u32 (.ofNat 0)), (.chan (some 6575))]),
  qo 6577 (cv 282 [(qs 10 0x1007365636976726573), (qp 6564 0), (.slice none 0 (.exact 0)), (qp 6576 0)]),
  qo 6578 (cv 284 [(qp 6569 0), (qi 12)]),
  qo 6585 (ct 142 [(qs 8 0x7365636976726573), (qu 0), (.slice none 0 (.exact 0)), qe, (qu 1), (.slice none 0 (.exact 0))])]
def p7 : Piece := ⟨19, [(qp 1393 0), (qs 5 0x736b72616d), (.agg [(ql 6117 0 2 (.exact 2))])], 6118, a7, (.tuple [(.agg [(ql 6585 0 2 (.tip 3))]), qt, (qi 0)]), 6587, d7⟩
theorem pb7 : Bnd p7.n p7.t := ab7
def z7 : T16 := pt a7 d7
theorem zb7 : Bnd 6587 z7 := Bnd.pt (n := 6118) (Nat.le_of_ble_eq_true (by kernel_rfl)) ab7 (by kernel_rfl)
def e8 : List (Nat × Option Obj) := [qo 6115 (.iter (some 1394) 4 [2] (some 2) 4),
  qo 6117 (ct 142 [(qs 6 0x736b63656863), (qu 0), (.slice none 0 (.exact 0)), qe, (qu 2), (.slice none 0 (.exact 0))])]
def a8 : T16 := pt a6 e8
theorem ab8 : Bnd 6118 a8 := Bnd.pt (n := 6118) (Nat.le_of_ble_eq_true (by kernel_rfl)) ab6 (by kernel_rfl)
def d8 : List (Nat × Option Obj) := [qo 1392 (cv 194 [(qp 381 0), (qp 6550 0), (qm 1391), qz]),
  qo 1391 (.map [((qs 7 0x100316e010000), (qi 1), 0), ((qs 12 0x1003177010100316e010001), (qi 1), 1), ((qs 18 0x1003177010100316e010100626577010101), (qi 1), 2), ((qs 11 0x10063010100316e010002), (qi 1), 3), ((qs 20 0x10063010100316e010100000000000000020202), (qi 1), 4), ((qs 11 0x10064010100316e010002), (qi 1), 5), ((qs 21 0x10064010100316e0101003177010100316e010102), (qi 1), 6), ((qs 20 0x10064010100316e010200000000000000020202), (qi 1), 7), ((qs 11 0x100736b63656863010003), (qi 1), 8)] 9),
  qo 6407 (ct 142 [(qs 6 0x736b63656863), (qu 0), (.slice none 0 (.exact 0)), qe, (qu 2), (.slice none 0 (.exact 0))]),
  qo 6534 (.chan 0 [] false),
  qo 6535 (cv 361 [(.int .u32 (.ofNat 0)), (.int .i32 (.ofNat 0)), (.int .u32 (.ofNat 0)), (.chan (some 6534))]),
  qo 6536 (cv 301 [(qs 11 0x100736b63656863010003), (ql 6407 0 2 (.tip 3)), (qp 6535 0)]),
  qo 6538 (ct 277 [(qp 1677 0), (qp 2642 0), (qp 6099 0), (qp 6546 0)]),
  qo 6539 (.chan 0 [] false),
  qo 6540 (cv 361 [(.int .u32 (.ofNat 0)), (.int .i32 (.ofNat 0)), (.int .u32 (.ofNat 0)), (.chan (some 6539))]),
  qo 6541 (cv 282 [qe, qn, (qk 6538 0 4), (qp 6540 0)]),
  qo 6543 (ct 277 [(qp 6549 0), (qp 1264 0), (qp 821 0), (qp 828 0)]),
  qo 6544 (.chan 0 [] false),
  qo 6545 (cv 361 [(.int .u32 (.ofNat 0)), (.int .i32 (.ofNat 0)), (.int .u32 (.ofNat 0)), (.chan (some 6544))]),
  qo 6546 (cv 282 [(qs 3 0x10003), qn, (qk 6543 0 4), (qp 6545 0)]),
  qo 6547 (.chan 0 [] false),
  qo 6548 (cv 361 [(.int .u32 (.ofNat 0)), (.int .i32 (.ofNat 0)), (.int .u32 (.ofNat 0)), (.chan (some 6547))]),
  qo 6549 (cv 282 [(qs 8 0x100736b63656863), (qp 6536 0), (.slice none 0 (.exact 0)), (qp 6548 0)]),
  qo 6550 (cv 284 [(qp 6541 0), (qi 12)]),
  qo 6557 (ct 142 [(qs 6 0x736b63656863), (qu 0), (.slice none 0 (.exact 0)), qe, (qu 1), (.slice none 0 (.exact 0))])]
def p8 : Piece := ⟨19, [(qp 1393 0), (qs 5 0x736b72616d), (.agg [(ql 6117 0 2 (.exact 2))])], 6118, a8, (.tuple [(.agg [(ql 6557 0 2 (.tip 3))]), qt, (qi 0)]), 6559, d8⟩
theorem pb8 : Bnd p8.n p8.t := ab8
def z8 : T16 := pt a8 d8
theorem zb8 : Bnd 6559 z8 := Bnd.pt (n := 6118) (Nat.le_of_ble_eq_true (by kernel_rfl)) ab8 (by kernel_rfl)
def e9 : List (Nat × Option Obj) := [qo 6115 (.iter (some 1394) 4 [3] (some 3) 4),
  qo 6117 (ct 142 [(qs 5 0x7865646e69), (qu 0), (.slice none 0 (.exact 0)), qe, (qu 2), (.slice none 0 (.exact 0))])]
def a9 : T16 := pt a6 e9
theorem ab9 : Bnd 6118 a9 := Bnd.pt (n := 6118) (Nat.le_of_ble_eq_true (by kernel_rfl)) ab6 (by kernel_rfl)
def d9 : List (Nat × Option Obj) := [qo 1392 (cv 194 [(qp 381 0), (qp 6536 0), (qm 1391), qz]),
  qo 1391 (.map [((qs 7 0x100316e010000), (qi 1), 0), ((qs 12 0x1003177010100316e010001), (qi 1), 1), ((qs 18 0x1003177010100316e010100626577010101), (qi 1), 2), ((qs 11 0x10063010100316e010002), (qi 1), 3), ((qs 20 0x10063010100316e010100000000000000020202), (qi 1), 4), ((qs 11 0x10064010100316e010002), (qi 1), 5), ((qs 21 0x10064010100316e0101003177010100316e010102), (qi 1), 6), ((qs 20 0x10064010100316e010200000000000000020202), (qi 1), 7), ((qs 10 0x1007865646e69010003), (qi 1), 8)] 9),
  qo 6397 (ct 142 [(qs 5 0x7865646e69), (qu 0), (.slice none 0 (.exact 0)), qe, (qu 2), (.slice none 0 (.exact 0))]),
  qo 6520 (.chan 0 [] false),
  qo 6521 (cv 361 [(.int .u32 (.ofNat 0)), (.int .i32 (.ofNat 0)), (.int .u32 (.ofNat 0)), (.chan (some 6520))]),
  qo 6522 (cv 301 [(qs 10 0x1007865646e69010003), (ql 6397 0 2 (.tip 3)), (qp 6521 0)]),
  qo 6524 (ct 277 [(qp 1677 0), (qp 2642 0), (qp 6099 0), (qp 6532 0)]),
  qo 6525 (.chan 0 [] false),
  qo 6526 (cv 361 [(.int .u32 (.ofNat 0)), (.int .i32 (.ofNat 0)), (.int .u32 (.ofNat 0)), (.chan (some 6525))]),
  qo 6527 (cv 282 [qe, qn, (qk 6524 0 4), (qp 6526 0)]),
  qo 6529 (ct 277 [(qp 1049 0), (qp 6535 0), (qp 821 0), (qp 828 0)]),
  qo 6530 (.chan 0 [] false),
  qo 6531 (cv 361 [(.int .u32 (.ofNat 0)), (.int .i32 (.ofNat 0)), (.int .u32 (.ofNat 0)), (.chan (some 6530))]),
  qo 6532 (cv 282 [(qs 3 0x10003), qn, (qk 6529 0 4), (qp 6531 0)]),
  qo 6533 (.chan 0 [] false),
  qo 6534 (cv 361 [(.int .u32 (.ofNat 0)), (.int .i32 (.ofNat 0)), (.int .u32 (.ofNat 0)), (.chan (some 6533))]),
  qo 6535 (cv 282 [(qs 7 0x1007865646e69), (qp 6522 0), (.slice none 0 (.exact 0)), (qp 6534 0)]),
  qo 6536 (cv 284 [(qp 6527 0), (qi 12)]),
  qo 6543 (ct 142 [(qs 5 0x7865646e69), (qu 0), (.slice none 0 (.exact 0)), qe, (qu 1), (.slice none 0 (.exact 0))])]
def p9 : Piece := ⟨19, [(qp 1393 0), (qs 5 0x736b72616d), (.agg [(ql 6117 0 2 (.exact 2))])], 6118, a9, (.tuple [(.agg [(ql 6543 0 2 (.tip 3))]), qt, (qi 0)]), 6545, d9⟩
theorem pb9 : Bnd p9.n p9.t := ab9
def z9 : T16 := pt a9 d9
theorem zb9 : Bnd 6545 z9 := Bnd.pt (n := 6118) (Nat.le_of_ble_eq_true (by kernel_rfl)) ab9 (by kernel_rfl)
def e10 : List (Nat × Option Obj) := [qo 1391 (.bag [((qs 7 0x100316e010000), (qi 1)), ((qs 12 0x1003177010100316e010001), (qi 1)), ((qs 18 0x1003177010100316e010100626577010101), (qi 1)), ((qs 11 0x10063010100316e010002), (qi 1)), ((qs 11 0x10064010100316e010002), (qi 1)), ((qs 21 0x10064010100316e0101003177010100316e010102), (qi 1)), ((qs 20 0x10063010100316e010100000000000000020202), (qi 1)), ((qs 20 0x10064010100316e010200000000000000020202), (qi 1)), ((qs 10 0x1007865646e69010003), (qi 1))] 9),
  qo 6115 (.iter (some 1394) 4 [0, 3] (some 0) 4),
  qo 6545 (cv 76 [(ql 6546 0 2 (.exact 2))]),
  qo 6546 (ct 142 [(qs 5 0x7365646f6e), (qu 0), (.slice none 0 (.exact 0)), qe, (qu 2), (.slice none 0 (.exact 0))])]
def a10 : T16 := pt z9 e10
theorem ab10 : Bnd 6547 a10 := Bnd.pt (n := 6545) (Nat.le_of_ble_eq_true (by kernel_rfl)) zb9 (by kernel_rfl)
def d10 : List (Nat × Option Obj) := [qo 1392 (cv 194 [(qp 381 0), (qp 6965 0), (qm 1391), qz]),
  qo 1391 (.bag [((qs 7 0x100316e010000), (qi 1)), ((qs 12 0x1003177010100316e010001), (qi 1)), ((qs 18 0x1003177010100316e010100626577010101), (qi 1)), ((qs 11 0x10063010100316e010002), (qi 1)), ((qs 11 0x10064010100316e010002), (qi 1)), ((qs 21 0x10064010100316e0101003177010100316e010102), (qi 1)), ((qs 20 0x10063010100316e010100000000000000020202), (qi 1)), ((qs 20 0x10064010100316e010200000000000000020202), (qi 1)), ((qs 10 0x1007865646e69010003), (qi 1)), ((qs 10 0x1007365646f6e010003), (qi 1))] 10),
  qo 6826 (ct 142 [(qs 5 0x7365646f6e), (qu 0), (.slice none 0 (.exact 0)), qe, (qu 2), (.slice none 0 (.exact 0))]),
  qo 6949 (.chan 0 [] false),
  qo 6950 (cv 361 [(.int .u32 (.ofNat 0)), (.int .i32 (.ofNat 0)), (.int .u32 (.ofNat 0)), (.chan (some 6949))]),
  qo 6951 (cv 301 [(qs 10 0x1007365646f6e010003), (ql 6826 0 2 (.tip 3)), (qp 6950 0)]),
  qo 6953 (ct 277 [(qp 1677 0), (qp 2642 0), (qp 6099 0), (qp 6961 0)]),
  qo 6954 (.chan 0 [] false),
  qo 6955 (cv 361 [(.int .u32 (.ofNat 0)), (.int .i32 (.ofNat 0)), (.int .u32 (.ofNat 0)), (.chan (some 6954))]),
  qo 6956 (cv 282 [qe, qn, (qk 6953 0 4), (qp 6955 0)]),
  qo 6958 (ct 277 [(qp 1049 0), (qp 6535 0), (qp 6964 0), (qp 828 0)]),
  qo 6959 (.chan 0 [] false),
  qo 6960 (cv 361 [(.int .u32 (.ofNat 0)), (.int .i32 (.ofNat 0)), (.int .u32 (.ofNat 0)), (.chan (some 6959))]),
  qo 6961 (cv 282 [(qs 3 0x10003), qn, (qk 6958 0 4), (qp 6960 0)]),
  qo 6962 (.chan 0 [] false),
  qo 6963 (cv 361 [(.int .u32 (.ofNat 0)), (.int .i32 (.ofNat 0)), (.int .u32 (.ofNat 0)), (.chan (some 6962))]),
  qo 6964 (cv 282 [(qs 7 0x1007365646f6e), (qp 6951 0), (.slice none 0 (.exact 0)), (qp 6963 0)]),
  qo 6965 (cv 284 [(qp 6956 0), (qi 12)]),
  qo 6972 (ct 142 [(qs 5 0x7365646f6e), (qu 0), (.slice none 0 (.exact 0)), qe, (qu 1), (.slice none 0 (.exact 0))])]
def p10 : Piece := ⟨19, [(qp 1393 0), (qs 5 0x736b72616d), (.agg [(ql 6546 0 2 (.exact 2))])], 6547, a10, (.tuple [(.agg [(ql 6972 0 2 (.tip 3))]), qt, (qi 0)]), 6974, d10⟩
theorem pb10 : Bnd p10.n p10.t := ab10
def z10 : T16 := pt a10 d10
theorem zb10 : Bnd 6974 z10 := Bnd.pt (n := 6547) (Nat.le_of_ble_eq_true (by kernel_rfl)) ab10 (by kernel_rfl)
def e11 : List (Nat × Option Obj) := [qo 6115 (.iter (some 1394) 4 [1, 3] (some 1) 4),
  qo 6546 (ct 142 [(qs 8 0x7365636976726573), (qu 0), (.slice none 0 (.exact 0)), qe, (qu 2), (.slice none 0 (.exact 0))])]
def a11 : T16 := pt a10 e11
theorem ab11 : Bnd 6547 a11 := Bnd.pt (n := 6547) (Nat.le_of_ble_eq_true (by kernel_rfl)) ab10 (by kernel_rfl)
def d11 : List (Nat × Option Obj) := [qo 1392 (cv 194 [(qp 381 0), (qp 7007 0), (qm 1391), qz]),
  qo 1391 (.bag [((qs 7 0x100316e010000), (qi 1)), ((qs 12 0x1003177010100316e010001), (qi 1)), ((qs 18 0x1003177010100316e010100626577010101), (qi 1)), ((qs 11 0x10063010100316e010002), (qi 1)), ((qs 11 0x10064010100316e010002), (qi 1)), ((qs 21 0x10064010100316e0101003177010100316e010102), (qi 1)), ((qs 20 0x10063010100316e010100000000000000020202), (qi 1)), ((qs 20 0x10064010100316e010200000000000000020202), (qi 1)), ((qs 10 0x1007865646e69010003), (qi 1)), ((qs 13 0x1007365636976726573010003), (qi 1))] 10),
  qo 6856 (ct 142 [(qs 8 0x7365636976726573), (qu 0), (.slice none 0 (.exact 0)), qe, (qu 2), (.slice none 0 (.exact 0))]),
  qo 6991 (.chan 0 [] false),
  qo 6992 (cv 361 [(.int .u32 (.ofNat 0)), (.int .i32 (.ofNat 0)), (.int .u32 (.ofNat 0)), (.chan (some 6991))]),
  qo 6993 (cv 301 [(qs 13 0x1007365636976726573010003), (ql 6856 0 2 (.tip 3)), (qp 6992 0)]),
  qo 6995 (ct 277 [(qp 1677 0), (qp 2642 0), (qp 6099 0), (qp 7003 0)]),
  qo 6996 (.chan 0 [] false),
  qo 6997 (cv 361 [(.int .u32 (.ofNat 0)), (.int .i32 (.ofNat 0)), (.int .u32 (.ofNat 0)), (.chan (some 6996))]),
  qo 6998 (cv 282 [qe, qn, (qk 6995 0 4), (qp 6997 0)]),
  qo 7000 (ct 277 [(qp 1049 0), (qp 6535 0), (qp 821 0), (qp 7006 0)]),
  qo 7001 (.chan 0 [] false),
  qo 7002 (cv 361 [(.int .u32 (.ofNat 0)), (.int .i32 (.ofNat 0)), (.int .u32 (.ofNat 0)), (.chan (some 7001))]),
  qo 7003 (cv 282 [(qs 3 0x10003), qn, (qk 7000 0 4), (qp 7002 0)]),
  qo 7004 (.chan 0 [] false),
  qo 7005 (cv 361 [(.int .u32 (.ofNat 0)), (.int .i32 (.ofNat 0)), (.int .u32 (.ofNat 0)), (.chan (some 7004))]),
  qo 7006 (cv 282 [(qs 10 0x1007365636976726573), (qp 6993 0), (.slice none 0 (.exact 0)), (qp 7005 0)]),
  qo 7007 (cv 284 [(qp 6998 0), (qi 12)]),
  qo 7014 (ct 142 [(qs 8 0x7365636976726573), (qu 0), (.slice none 0 (.exact 0)), qe, (qu 1), (.slice none 0 (.exact 0))])]
def p11 : Piece := ⟨19, [(qp 1393 0), (qs 5 0x736b72616d), (.agg [(ql 6546 0 2 (.exact 2))])], 6547, a11, (.tuple [(.agg [(ql 7014 0 2 (.tip 3))]), qt, (qi 0)]), 7016, d11⟩
theorem pb11 : Bnd p11.n p11.t := ab11
def z11 : T16 := pt a11 d11
theorem zb11 : Bnd 7016 z11 := Bnd.pt (n := 6547) (Nat.le_of_ble_eq_true (by kernel_rfl)) ab11 (by kernel_rfl)
def e12 : List (Nat × Option Obj) := [qo 6115 (.iter (some 1394) 4 [2, 3] (some 2) 4),
  qo 6546 (ct 142 [(qs 6 0x736b63656863), (qu 0), (.slice none 0 (.exact 0)), qe, (qu 2), (.slice none 0 (.exact 0))])]
def a12 : T16 := pt a10 e12
theorem ab12 : Bnd 6547 a12 := Bnd.pt (n := 6547) (Nat.le_of_ble_eq_true (by kernel_rfl)) ab10 (by kernel_rfl)
def d12 : List (Nat × Option Obj) := [qo 1392 (cv 194 [(qp 381 0), (qp 6979 0), (qm 1391), qz]),
  qo 1391 (.bag [((qs 7 0x100316e010000), (qi 1)), ((qs 12 0x1003177010100316e010001), (qi 1)), ((qs 18 0x1003177010100316e010100626577010101), (qi 1)), ((qs 11 0x10063010100316e010002), (qi 1)), ((qs 11 0x10064010100316e010002), (qi 1)), ((qs 21 0x10064010100316e0101003177010100316e010102), (qi 1)), ((qs 20 0x10063010100316e010100000000000000020202), (qi 1)), ((qs 20 0x10064010100316e010200000000000000020202), (qi 1)), ((qs 11 0x100736b63656863010003), (qi 1)), ((qs 10 0x1007865646e69010003), (qi 1))] 10),
  qo 6836 (ct 142 [(qs 6 0x736b63656863), (qu 0), (.slice none 0 (.exact 0)), qe, (qu 2), (.slice none 0 (.exact 0))]),
  qo 6963 (.chan 0 [] false),
  qo 6964 (cv 361 [(.int .u32 (.ofNat 0)), (.int .i32 (.ofNat 0)), (.int .u32 (.ofNat 0)), (.chan (some 6963))]),
  qo 6965 (cv 301 [(qs 11 0x100736b63656863010003), (ql 6836 0 2 (.tip 3)), (qp 6964 0)]),
  qo 6967 (ct 277 [(qp 1677 0), (qp 2642 0), (qp 6099 0), (qp 6975 0)]),
  qo 6968 (.chan 0 [] false),
  qo 6969 (cv 361 [(.int .u32 (.ofNat 0)), (.int .i32 (.ofNat 0)), (.int .u32 (.ofNat 0)), (.chan (some 6968))]),
  qo 6970 (cv 282 [qe, qn, (qk 6967 0 4), (qp 6969 0)]),
  qo 6972 (ct 277 [(qp 6978 0), (qp 6535 0), (qp 821 0), (qp 828 0)]),
  qo 6973 (.chan 0 [] false),
  qo 6974 (cv 361 [(.int .u32 (.ofNat 0)), (.int .i32 (.ofNat 0)), (.int .u32 (.ofNat 0)), (.chan (some 6973))]),
  qo 6975 (cv 282 [(qs 3 0x10003), qn, (qk 6972 0 4), (qp 6974 0)]),
  qo 6976 (.chan 0 [] false),
  qo 6977 (cv 361 [(.int .u32 (.ofNat 0)), (.int .i32 (.ofNat 0)), (.int .u32 (.ofNat 0)), (.chan (some 6976))]),
  qo 6978 (cv 282 [(qs 8 0x100736b63656863), (qp 6965 0), (.slice none 0 (.exact 0)), (qp 6977 0)]),
  qo 6979 (cv 284 [(qp 6970 0), (qi 12)]),
  qo 6986 (ct 142 [(qs 6 0x736b63656863), (qu 0), (.slice none 0 (.exact 0)), qe, (qu 1), (.slice none 0 (.exact 0))])]
def p12 : Piece := ⟨19, [(qp 1393 0), (qs 5 0x736b72616d), (.agg [(ql 6546 0 2 (.exact 2))])], 6547, a12, (.tuple [(.agg [(ql 6986 0 2 (.tip 3))]), qt, (qi 0)]), 6988, d12⟩
theorem pb12 : Bnd p12.n p12.t := ab12
def z12 : T16 := pt a12 d12
theorem zb12 : Bnd 6988 z12 := Bnd.pt (n := 6547) (Nat.le_of_ble_eq_true (by kernel_rfl)) ab12 (by kernel_rfl)
def e13 : List (Nat × Option Obj) := [qo 1391 (.bag [((qs 7 0x100316e010000), (qi 1)), ((qs 12 0x1003177010100316e010001), (qi 1)), ((qs 18 0x1003177010100316e010100626577010101), (qi 1)), ((qs 11 0x10063010100316e010002), (qi 1)), ((qs 11 0x10064010100316e010002), (qi 1)), ((qs 21 0x10064010100316e0101003177010100316e010102), (qi 1)), ((qs 20 0x10063010100316e010100000000000000020202), (qi 1)), ((qs 20 0x10064010100316e010200000000000000020202), (qi 1)), ((qs 11 0x100736b63656863010003), (qi 1))] 9),
  qo 6115 (.iter (some 1394) 4 [0, 2] (some 0) 4),
  qo 6559 (cv 76 [(ql 6560 0 2 (.exact 2))]),
  qo 6560 (ct 142 [(qs 5 0x7365646f6e), (qu 0), (.slice none 0 (.exact 0)), qe, (qu 2), (.slice none 0 (.exact 0))])]
def a13 : T16 := pt z8 e13
theorem ab13 : Bnd 6561 a13 := Bnd.pt (n := 6559) (Nat.le_of_ble_eq_true (by kernel_rfl)) zb8 (by kernel_rfl)
def d13 : List (Nat × Option Obj) := [qo 1392 (cv 194 [(qp 381 0), (qp 6979 0), (qm 1391), qz]),
  qo 1391 (.bag [((qs 7 0x100316e010000), (qi 1)), ((qs 12 0x1003177010100316e010001), (qi 1)), ((qs 18 0x1003177010100316e010100626577010101), (qi 1)), ((qs 11 0x10063010100316e010002), (qi 1)), ((qs 11 0x10064010100316e010002), (qi 1)), ((qs 21 0x10064010100316e0101003177010100316e010102), (qi 1)), ((qs 20 0x10063010100316e010100000000000000020202), (qi 1)), ((qs 20 0x10064010100316e010200000000000000020202), (qi 1)), ((qs 11 0x100736b63656863010003), (qi 1)), ((qs 10 0x1007365646f6e010003), (qi 1))] 10),
  qo 6840 (ct 142 [(qs 5 0x7365646f6e), (qu 0), (.slice none 0 (.exact 0)), qe, (qu 2), (.slice none 0 (.exact 0))]),
  qo 6963 (.chan 0 [] false),
  qo 6964 (cv 361 [(.int .u32 (.ofNat 0)), (.int .i32 (.ofNat 0)), (.int .u32 (.ofNat 0)), (.chan (some 6963))]),
  qo 6965 (cv 301 [(qs 10 0x1007365646f6e010003), (ql 6840 0 2 (.tip 3)), (qp 6964 0)]),
  qo 6967 (ct 277 [(qp 1677 0), (qp 2642 0), (qp 6099 0), (qp 6975 0)]),
  qo 6968 (.chan 0 [] false),
  qo 6969 (cv 361 [(.int .u32 (.ofNat 0)), (.int .i32 (.ofNat 0)), (.int .u32 (.ofNat 0)), (.chan (some 6968))]),
  qo 6970 (cv 282 [qe, qn, (qk 6967 0 4), (qp 6969 0)]),
  qo 6972 (ct 277 [(qp 6549 0), (qp 1264 0), (qp 6978 0), (qp 828 0)]),
  qo 6973 (.chan 0 [] false),
  qo 6974 (cv 361 [(.int .u32 (.ofNat 0)), (.int .i32 (.ofNat 0)), (.int .u32 (.ofNat 0)), (.chan (some 6973))]),
  qo 6975 (cv 282 [(qs 3 0x10003), qn, (qk 6972 0 4), (qp 6974 0)]),
  qo 6976 (.chan 0 [] false),
  qo 6977 (cv 361 [(.int .u32 (.ofNat 0)), (.int .i32 (.ofNat 0)), (.int .u32 (.ofNat 0)), (.chan (some 6976))]),
  qo 6978 (cv 282 [(qs 7 0x1007365646f6e), (qp 6965 0), (.slice none 0 (.exact 0)), (qp 6977 0)]),
  qo 6979 (cv 284 [(qp 6970 0), (qi 12)]),
  qo 6986 (ct 142 [(qs 5 0x7365646f6e), (qu 0), (.slice none 0 (.exact 0)), qe, (qu 1), (.slice none 0 (.exact 0))])]
def p13 : Piece := ⟨19, [(qp 1393 0), (qs 5 0x736b72616d), (.agg [(ql 6560 0 2 (.exact 2))])], 6561, a13, (.tuple [(.agg [(ql 6986 0 2 (.tip 3))]), qt, (qi 0)]), 6988, d13⟩
theorem pb13 : Bnd p13.n p13.t := ab13
def z13 : T16 := pt a13 d13
theorem zb13 : Bnd 6988 z13 := Bnd.pt (n := 6561) (Nat.le_of_ble_eq_true (by kernel_rfl)) ab13 (by kernel_rfl)
def e14 : List (Nat × Option Obj) := [qo 6115 (.iter (some 1394) 4 [1, 2] (some 1) 4),
  qo 6560 (ct 142 [(qs 8 0x7365636976726573), (qu 0), (.slice none 0 (.exact 0)), qe, (qu 2), (.slice none 0 (.exact 0))])]
def a14 : T16 := pt a13 e14
theorem ab14 : Bnd 6561 a14 := Bnd.pt (n := 6561) (Nat.le_of_ble_eq_true (by kernel_rfl)) ab13 (by kernel_rfl)
def d14 : List (Nat × Option Obj) := [qo 1392 (cv 194 [(qp 381 0), (qp 7021 0), (qm 1391), qz]),
  qo 1391 (.bag [((qs 7 0x100316e010000), (qi 1)), ((qs 12 0x1003177010100316e010001), (qi 1)), ((qs 18 0x1003177010100316e010100626577010101), (qi 1)), ((qs 11 0x10063010100316e010002), (qi 1)), ((qs 11 0x10064010100316e010002), (qi 1)), ((qs 21 0x10064010100316e0101003177010100316e010102), (qi 1)), ((qs 20 0x10063010100316e010100000000000000020202), (qi 1)), ((qs 20 0x10064010100316e010200000000000000020202), (qi 1)), ((qs 11 0x100736b63656863010003), (qi 1)), ((qs 13 0x1007365636976726573010003), (qi 1))] 10),
  qo 6870 (ct 142 [(qs 8 0x7365636976726573), (qu 0), (.slice none 0 (.exact 0)), qe, (qu 2), (.slice none 0 (.exact 0))]),
  qo 7005 (.chan 0 [] false),
  qo 7006 (cv 361 [(.int .u32 (.ofNat 0)), (.int .i32 (.ofNat 0)), (.int .u32 (.ofNat 0)), (.chan (some 7005))]),
  qo 7007 (cv 301 [(qs 13 0x1007365636976726573010003), (ql 6870 0 2 (.tip 3)), (qp 7006 0)]),
  qo 7009 (ct 277 [(qp 1677 0), (qp 2642 0), (qp 6099 0), (qp 7017 0)]),
  qo 7010 (.chan 0 [] false),
  qo 7011 (cv 361 [(.int .u32 (.ofNat 0)), (.int .i32 (.ofNat 0)), (.int .u32 (.ofNat 0)), (.chan (some 7010))]),
  qo 7012 (cv 282 [qe, qn, (qk 7009 0 4), (qp 7011 0)]),
  qo 7014 (ct 277 [(qp 6549 0), (qp 1264 0), (qp 821 0), (qp 7020 0)]),
  qo 7015 (.chan 0 [] false),
  qo 7016 (cv 361 [(.int .u32 (.ofNat 0)), (.int .i32 (.ofNat 0)), (.int .u32 (.ofNat 0)), (.chan (some 7015))]),
  qo 7017 (cv 282 [(qs 3 0x10003), qn, (qk 7014 0 4), (qp 7016 0)]),
  qo 7018 (.chan 0 [] false),
  qo 7019 (cv 361 [(.int .u32 (.ofNat 0)), (.int .i32 (.ofNat 0)), (.int .u32 (.ofNat 0)), (.chan (some 7018))]),
  qo 7020 (cv 282 [(qs 10 0x1007365636976726573), (qp 7007 0), (.slice none 0 (.exact 0)), (qp 7019 0)]),
  qo 7021 (cv 284 [(qp 7012 0), (qi 12)]),
  qo 7028 (ct 142 [(qs 8 0x7365636976726573), (qu 0), (.slice none 0 (.exact 0)), qe, (qu 1), (.slice none 0 (.exact 0))])]
def p14 : Piece := ⟨19, [(qp 1393 0), (qs 5 0x736b72616d), (.agg [(ql 6560 0 2 (.exact 2))])], 6561, a14, (.tuple [(.agg [(ql 7028 0 2 (.tip 3))]), qt, (qi 0)]), 7030, d14⟩
theorem pb14 : Bnd p14.n p14.t := ab14
def z14 : T16 := pt a14 d14
theorem zb14 : Bnd 7030 z14 := Bnd.pt (n := 6561) (Nat.le_of_ble_eq_true (by kernel_rfl)) ab14 (by kernel_rfl)
def e15 : List (Nat × Option Obj) := [qo 6115 (.iter (some 1394) 4 [2, 3] (some 3) 4),
  qo 6560 (ct 142 [(qs 5 0x7865646e69), (qu 0), (.slice none 0 (.exact 0)), qe, (qu 2), (.slice none 0 (.exact 0))])]
def a15 : T16 := pt a13 e15
theorem ab15 : Bnd 6561 a15 := Bnd.pt (n := 6561) (Nat.le_of_ble_eq_true (by kernel_rfl)) ab13 (by kernel_rfl)
def d15 : List (Nat × Option Obj) := [qo 1392 (cv 194 [(qp 381 0), (qp 6979 0), (qm 1391), qz]),
  qo 1391 (.bag [((qs 7 0x100316e010000), (qi 1)), ((qs 12 0x1003177010100316e010001), (qi 1)), ((qs 18 0x1003177010100316e010100626577010101), (qi 1)), ((qs 11 0x10063010100316e010002), (qi 1)), ((qs 11 0x10064010100316e010002), (qi 1)), ((qs 21 0x10064010100316e0101003177010100316e010102), (qi 1)), ((qs 20 0x10063010100316e010100000000000000020202), (qi 1)), ((qs 20 0x10064010100316e010200000000000000020202), (qi 1)), ((qs 11 0x100736b63656863010003), (qi 1)), ((qs 10 0x1007865646e69010003), (qi 1))] 10),
  qo 6840 (ct 142 [(qs 5 0x7865646e69), (qu 0), (.slice none 0 (.exact 0)), qe, (qu 2), (.slice none 0 (.exact 0))]),
  qo 6963 (.chan 0 [] false),
  qo 6964 (cv 361 [(.int .u32 (.ofNat 0)), (.int .i32 (.ofNat 0)), (.int .u32 (.ofNat 0)), (.chan (some 6963))]),
  qo 6965 (cv 301 [(qs 10 0x1007865646e69010003), (ql 6840 0 2 (.tip 3)), (qp 6964 0)]),
  qo 6967 (ct 277 [(qp 1677 0), (qp 2642 0), (qp 6099 0), (qp 6975 0)]),
  qo 6968 (.chan 0 [] false),
  qo 6969 (cv 361 [(.int .u32 (.ofNat 0)), (.int .i32 (.ofNat 0)), (.int .u32 (.ofNat 0)), (.chan (some 6968))]),
  qo 6970 (cv 282 [qe, qn, (qk 6967 0 4), (qp 6969 0)]),
  qo 6972 (ct 277 [(qp 6549 0), (qp 6978 0), (qp 821 0), (qp 828 0)]),
  qo 6973 (.chan 0 [] false),
  qo 6974 (cv 361 [(.int .u32 (.ofNat 0)), (.int .i32 (.ofNat 0)), (.int .u32 (.ofNat 0)), (.chan (some 6973))]),
  qo 6975 (cv 282 [(qs 3 0x10003), qn, (qk 6972 0 4), (qp 6974 0)]),
  qo 6976 (.chan 0 [] false),
  qo 6977 (cv 361 [(.int .u32 (.ofNat 0)), (.int .i32 (.ofNat 0)), (.int .u32 (.ofNat 0)), (.chan (some 6976))]),
  qo 6978 (cv 282 [(qs 7 0x1007865646e69), (qp 6965 0), (.slice none 0 (.exact 0)), (qp 6977 0)]),
  qo 6979 (cv 284 [(qp 6970 0), (qi 12)]),
  qo 6986 (ct 142 [(qs 5 0x7865646e69), (qu 0), (.slice none 0 (.exact 0)), qe, (qu 1), (.slice none 0 (.exact 0))])]
def p15 : Piece := ⟨19, [(qp 1393 0), (qs 5 0x736b72616d), (.agg [(ql 6560 0 2 (.exact 2))])], 6561, a15, (.tuple [(.agg [(ql 6986 0 2 (.tip 3))]), qt, (qi 0)]), 6988, d15⟩
theorem pb15 : Bnd p15.n p15.t := ab15
def z15 : T16 := pt a15 d15
theorem zb15 : Bnd 6988 z15 := Bnd.pt (n := 6561) (Nat.le_of_ble_eq_true (by kernel_rfl)) ab15 (by kernel_rfl)
def e16 : List (Nat × Option Obj) := [qo 1391 (.bag [((qs 7 0x100316e010000), (qi 1)), ((qs 12 0x1003177010100316e010001), (qi 1)), ((qs 18 0x1003177010100316e010100626577010101), (qi 1)), ((qs 11 0x10063010100316e010002), (qi 1)), ((qs 11 0x10064010100316e010002), (qi 1)), ((qs 21 0x10064010100316e0101003177010100316e010102), (qi 1)), ((qs 20 0x10063010100316e010100000000000000020202), (qi 1)), ((qs 20 0x10064010100316e010200000000000000020202), (qi 1)), ((qs 13 0x1007365636976726573010003), (qi 1))] 9),
  qo 6115 (.iter (some 1394) 4 [0, 1] (some 0) 4),
  qo 6587 (cv 76 [(ql 6588 0 2 (.exact 2))]),
  qo 6588 (ct 142 [(qs 5 0x7365646f6e), (qu 0), (.slice none 0 (.exact 0)), qe, (qu 2), (.slice none 0 (.exact 0))])]
def a16 : T16 := pt z7 e16
theorem ab16 : Bnd 6589 a16 := Bnd.pt (n := 6587) (Nat.le_of_ble_eq_true (by kernel_rfl)) zb7 (by kernel_rfl)
def d16 : List (Nat × Option Obj) := [qo 1392 (cv 194 [(qp 381 0), (qp 7007 0), (qm 1391), qz]),
  qo 1391 (.bag [((qs 7 0x100316e010000), (qi 1)), ((qs 12 0x1003177010100316e010001), (qi 1)), ((qs 18 0x1003177010100316e010100626577010101), (qi 1)), ((qs 11 0x10063010100316e010002), (qi 1)), ((qs 11 0x10064010100316e010002), (qi 1)), ((qs 21 0x10064010100316e0101003177010100316e010102), (qi 1)), ((qs 20 0x10063010100316e010100000000000000020202), (qi 1)), ((qs 20 0x10064010100316e010200000000000000020202), (qi 1)), ((qs 10 0x1007365646f6e010003), (qi 1)), ((qs 13 0x1007365636976726573010003), (qi 1))] 10),
  qo 6868 (ct 142 [(qs 5 0x7365646f6e), (qu 0), (.slice none 0 (.exact 0)), qe, (qu 2), (.slice none 0 (.exact 0))]),
  qo 6991 (.chan 0 [] false),
  qo 6992 (cv 361 [(.int .u32 (.ofNat 0)), (.int .i32 (.ofNat 0)), (.int .u32 (.ofNat 0)), (.chan (some 6991))]),
  qo 6993 (cv 301 [(qs 10 0x1007365646f6e010003), (ql 6868 0 2 (.tip 3)), (qp 6992 0)]),
  qo 6995 (ct 277 [(qp 1677 0), (qp 2642 0), (qp 6099 0), (qp 7003 0)]),
  qo 6996 (.chan 0 [] false),
  qo 6997 (cv 361 [(.int .u32 (.ofNat 0)), (.int .i32 (.ofNat 0)), (.int .u32 (.ofNat 0)), (.chan (some 6996))]),
  qo 6998 (cv 282 [qe, qn, (qk 6995 0 4), (qp 6997 0)]),
  qo 7000 (ct 277 [(qp 1049 0), (qp 1264 0), (qp 7006 0), (qp 6577 0)]),
  qo 7001 (.chan 0 [] false),
  qo 7002 (cv 361 [(.int .u32 (.ofNat 0)), (.int .i32 (.ofNat 0)), (.int .u32 (.ofNat 0)), (.chan (some 7001))]),
  qo 7003 (cv 282 [(qs 3 0x10003), qn, (qk 7000 0 4), (qp 7002 0)]),
  qo 7004 (.chan 0 [] false),
  qo 7005 (cv 361 [(.int .u32 (.ofNat 0)), (.int .i32 (.ofNat 0)), (.int .u32 (.ofNat 0)), (.chan (some 7004))]),
  qo 7006 (cv 282 [(qs 7 0x1007365646f6e), (qp 6993 0), (.slice none 0 (.exact 0)), (qp 7005 0)]),
  qo 7007 (cv 284 [(qp 6998 0), (qi 12)]),
  qo 7014 (ct 142 [(qs 5 0x7365646f6e), (qu 0), (.slice none 0 (.exact 0)), qe, (qu 1), (.slice none 0 (.exact 0))])]
def p16 : Piece := ⟨19, [(qp 1393 0), (qs 5 0x736b72616d), (.agg [(ql 6588 0 2 (.exact 2))])], 6589, a16, (.tuple [(.agg [(ql 7014 0 2 (.tip 3))]), qt, (qi 0)]), 7016, d16⟩
theorem pb16 : Bnd p16.n p16.t := ab16
def z16 : T16 := pt a16 d16
theorem zb16 : Bnd 7016 z16 := Bnd.pt (n := 6589) (Nat.le_of_ble_eq_true (by kernel_rfl)) ab16 (by kernel_rfl)
def e17 : List (Nat × Option Obj) := [qo 6115 (.iter (some 1394) 4 [1, 2] (some 2) 4),
  qo 6588 (ct 142 [(qs 6 0x736b63656863), (qu 0), (.slice none 0 (.exact 0)), qe, (qu 2), (.slice none 0 (.exact 0))])]
def a17 : T16 := pt a16 e17
theorem ab17 : Bnd 6589 a17 := Bnd.pt (n := 6589) (Nat.le_of_ble_eq_true (by kernel_rfl)) ab16 (by kernel_rfl)
def d17 : List (Nat × Option Obj) := [qo 1392 (cv 194 [(qp 381 0), (qp 7021 0), (qm 1391), qz]),
  qo 1391 (.bag [((qs 7 0x100316e010000), (qi 1)), ((qs 12 0x1003177010100316e010001), (qi 1)), ((qs 18 0x1003177010100316e010100626577010101), (qi 1)), ((qs 11 0x10063010100316e010002), (qi 1)), ((qs 11 0x10064010100316e010002), (qi 1)), ((qs 21 0x10064010100316e0101003177010100316e010102), (qi 1)), ((qs 20 0x10063010100316e010100000000000000020202), (qi 1)), ((qs 20 0x10064010100316e010200000000000000020202), (qi 1)), ((qs 11 0x100736b63656863010003), (qi 1)), ((qs 13 0x1007365636976726573010003), (qi 1))] 10),
  qo 6878 (ct 142 [(qs 6 0x736b63656863), (qu 0), (.slice none 0 (.exact 0)), qe, (qu 2), (.slice none 0 (.exact 0))]),
  qo 7005 (.chan 0 [] false),
  qo 7006 (cv 361 [(.int .u32 (.ofNat 0)), (.int .i32 (.ofNat 0)), (.int .u32 (.ofNat 0)), (.chan (some 7005))]),
  qo 7007 (cv 301 [(qs 11 0x100736b63656863010003), (ql 6878 0 2 (.tip 3)), (qp 7006 0)]),
  qo 7009 (ct 277 [(qp 1677 0), (qp 2642 0), (qp 6099 0), (qp 7017 0)]),
  qo 7010 (.chan 0 [] false),
  qo 7011 (cv 361 [(.int .u32 (.ofNat 0)), (.int .i32 (.ofNat 0)), (.int .u32 (.ofNat 0)), (.chan (some 7010))]),
  qo 7012 (cv 282 [qe, qn, (qk 7009 0 4), (qp 7011 0)]),
  qo 7014 (ct 277 [(qp 7020 0), (qp 1264 0), (qp 821 0), (qp 6577 0)]),
  qo 7015 (.chan 0 [] false),
  qo 7016 (cv 361 [(.int .u32 (.ofNat 0)), (.int .i32 (.ofNat 0)), (.int .u32 (.ofNat 0)), (.chan (some 7015))]),
  qo 7017 (cv 282 [(qs 3 0x10003), qn, (qk 7014 0 4), (qp 7016 0)]),
  qo 7018 (.chan 0 [] false),
  qo 7019 (cv 361 [(.int .u32 (.ofNat 0)), (.int .i32 (.ofNat 0)), (.int .u32 (.ofNat 0)), (.chan (some 7018))]),
  qo 7020 (cv 282 [(qs 8 0x100736b63656863), (qp 7007 0), (.slice none 0 (.exact 0)), (qp 7019 0)]),
  qo 7021 (cv 284 [(qp 7012 0), (qi 12)]),
  qo 7028 (ct 142 [(qs 6 0x736b63656863), (qu 0), (.slice none 0 (.exact 0)), qe, (qu 1), (.slice none 0 (.exact 0))])]
def p17 : Piece := ⟨19, [(qp 1393 0), (qs 5 0x736b72616d), (.agg [(ql 6588 0 2 (.exact 2))])], 6589, a17, (.tuple [(.agg [(ql 7028 0 2 (.tip 3))]), qt, (qi 0)]), 7030, d17⟩
theorem pb17 : Bnd p17.n p17.t := ab17
def z17 : T16 := pt a17 d17
theorem zb17 : Bnd 7030 z17 := Bnd.pt (n := 6589) (Nat.le_of_ble_eq_true (by kernel_rfl)) ab17 (by kernel_rfl)
def e18 : List (Nat × Option Obj) := [qo 6115 (.iter (some 1394) 4 [1, 3] (some 3) 4),
  qo 6588 (ct 142 [(qs 5 0x7865646e69), (qu 0), (.slice none 0 (.exact 0)), qe, (qu 2), (.slice none 0 (.exact 0))])]
def a18 : T16 := pt a16 e18
theorem ab18 : Bnd 6589 a18 := Bnd.pt (n := 6589) (Nat.le_of_ble_eq_true (by kernel_rfl)) ab16 (by kernel_rfl)
def d18 : List (Nat × Option Obj) := [qo 1392 (cv 194 [(qp 381 0), (qp 7007 0), (qm 1391), qz]),
  qo 1391 (.bag [((qs 7 0x100316e010000), (qi 1)), ((qs 12 0x1003177010100316e010001), (qi 1)), ((qs 18 0x1003177010100316e010100626577010101), (qi 1)), ((qs 11 0x10063010100316e010002), (qi 1)), ((qs 11 0x10064010100316e010002), (qi 1)), ((qs 21 0x10064010100316e0101003177010100316e010102), (qi 1)), ((qs 20 0x10063010100316e010100000000000000020202), (qi 1)), ((qs 20 0x10064010100316e010200000000000000020202), (qi 1)), ((qs 10 0x1007865646e69010003), (qi 1)), ((qs 13 0x1007365636976726573010003), (qi 1))] 10),
  qo 6868 (ct 142 [(qs 5 0x7865646e69), (qu 0), (.slice none 0 (.exact 0)), qe, (qu 2), (.slice none 0 (.exact 0))]),
  qo 6991 (.chan 0 [] false),
  qo 6992 (cv 361 [(.int .u32 (.ofNat 0)), (.int .i32 (.ofNat 0)), (.int .u32 (.ofNat 0)), (.chan (some 6991))]),
  qo 6993 (cv 301 [(qs 10 0x1007865646e69010003), (ql 6868 0 2 (.tip 3)), (qp 6992 0)]),
  qo 6995 (ct 277 [(qp 1677 0), (qp 2642 0), (qp 6099 0), (qp 7003 0)]),
  qo 6996 (.chan 0 [] false),
  qo 6997 (cv 361 [(.int .u32 (.ofNat 0)), (.int .i32 (.ofNat 0)), (.int .u32 (.ofNat 0)), (.chan (some 6996))]),
  qo 6998 (cv 282 [qe, qn, (qk 6995 0 4), (qp 6997 0)]),
  qo 7000 (ct 277 [(qp 1049 0), (qp 7006 0), (qp 821 0), (qp 6577 0)]),
  qo 7001 (.chan 0 [] false),
  qo 7002 (cv 361 [(.int .u32 (.ofNat 0)), (.int .i32 (.ofNat 0)), (.int .u32 (.ofNat 0)), (.chan (some 7001))]),
  qo 7003 (cv 282 [(qs 3 0x10003), qn, (qk 7000 0 4), (qp 7002 0)]),
  qo 7004 (.chan 0 [] false),
  qo 7005 (cv 361 [(.int .u32 (.ofNat 0)), (.int .i32 (.ofNat 0)), (.int .u32 (.ofNat 0)), (.chan (some 7004))]),
  qo 7006 (cv 282 [(qs 7 0x1007865646e69), (qp 6993 0), (.slice none 0 (.exact 0)), (qp 7005 0)]),
  qo 7007 (cv 284 [(qp 6998 0), (qi 12)]),
  qo 7014 (ct 142 [(qs 5 0x7865646e69), (qu 0), (.slice none 0 (.exact 0)), qe, (qu 1), (.slice none 0 (.exact 0))])]
def p18 : Piece := ⟨19, [(qp 1393 0), (qs 5 0x736b72616d), (.agg [(ql 6588 0 2 (.exact 2))])], 6589, a18, (.tuple [(.agg [(ql 7014 0 2 (.tip 3))]), qt, (qi 0)]), 7016, d18⟩
theorem pb18 : Bnd p18.n p18.t := ab18
def z18 : T16 := pt a18 d18
theorem zb18 : Bnd 7016 z18 := Bnd.pt (n := 6589) (Nat.le_of_ble_eq_true (by kernel_rfl)) ab18 (by kernel_rfl)
def e19 : List (Nat × Option Obj) := [qo 1391 (.bag [((qs 7 0x100316e010000), (qi 1)), ((qs 12 0x1003177010100316e010001), (qi 1)), ((qs 18 0x1003177010100316e010100626577010101), (qi 1)), ((qs 11 0x10063010100316e010002), (qi 1)), ((qs 11 0x10064010100316e010002), (qi 1)), ((qs 21 0x10064010100316e0101003177010100316e010102), (qi 1)), ((qs 20 0x10063010100316e010100000000000000020202), (qi 1)), ((qs 20 0x10064010100316e010200000000000000020202), (qi 1)), ((qs 10 0x1007365646f6e010003), (qi 1))] 9),
  qo 6115 (.iter (some 1394) 4 [0, 1] (some 1) 4),
  qo 6545 (cv 76 [(ql 6546 0 2 (.exact 2))]),
  qo 6546 (ct 142 [(qs 8 0x7365636976726573), (qu 0), (.slice none 0 (.exact 0)), qe, (qu 2), (.slice none 0 (.exact 0))])]
def a19 : T16 := pt z6 e19
theorem ab19 : Bnd 6547 a19 := Bnd.pt (n := 6545) (Nat.le_of_ble_eq_true (by kernel_rfl)) zb6 (by kernel_rfl)
def d19 : List (Nat × Option Obj) := [qo 1392 (cv 194 [(qp 381 0), (qp 7007 0), (qm 1391), qz]),
  qo 1391 (.bag [((qs 7 0x100316e010000), (qi 1)), ((qs 12 0x1003177010100316e010001), (qi 1)), ((qs 18 0x1003177010100316e010100626577010101), (qi 1)), ((qs 11 0x10063010100316e010002), (qi 1)), ((qs 11 0x10064010100316e010002), (qi 1)), ((qs 21 0x10064010100316e0101003177010100316e010102), (qi 1)), ((qs 20 0x10063010100316e010100000000000000020202), (qi 1)), ((qs 20 0x10064010100316e010200000000000000020202), (qi 1)), ((qs 10 0x1007365646f6e010003), (qi 1)), ((qs 13 0x1007365636976726573010003), (qi 1))] 10),
  qo 6856 (ct 142 [(qs 8 0x7365636976726573), (qu 0), (.slice none 0 (.exact 0)), qe, (qu 2), (.slice none 0 (.exact 0))]),
  qo 6991 (.chan 0 [] false),
  qo 6992 (cv 361 [(.int .u32 (.ofNat 0)), (.int .i32 (.ofNat 0)), (.int .u32 (.ofNat 0)), (.chan (some 6991))]),
  qo 6993 (cv 301 [(qs 13 0x1007365636976726573010003), (ql 6856 0 2 (.tip 3)), (qp 6992 0)]),
  qo 6995 (ct 277 [(qp 1677 0), (qp 2642 0), (qp 6099 0), (qp 7003 0)]),
  qo 6996 (.chan 0 [] false),
  qo 6997 (cv 361 [(.int .u32 (.ofNat 0)), (.int .i32 (.ofNat 0)), (.int .u32 (.ofNat 0)), (.chan (some 6996))]),
  qo 6998 (cv 282 [qe, qn, (qk 6995 0 4), (qp 6997 0)]),
  qo 7000 (ct 277 [(qp 1049 0), (qp 1264 0), (qp 6535 0), (qp 7006 0)]),
  qo 7001 (.chan 0 [] false),
  qo 7002 (cv 361 [(.int .u32 (.ofNat 0)), (.int .i32 (.ofNat 0)), (.int .u32 (.ofNat 0)), (.chan (some 7001))]),
  qo 7003 (cv 282 [(qs 3 0x10003), qn, (qk 7000 0 4), (qp 7002 0)]),
  qo 7004 (.chan 0 [] false),
  qo 7005 (cv 361 [(.int .u32 (.ofNat 0)), (.int .i32 (.ofNat 0)), (.int .u32 (.ofNat 0)), (.chan (some 7004))]),
  qo 7006 (cv 282 [(qs 10 0x1007365636976726573), (qp 6993 0), (.slice none 0 (.exact 0)), (qp 7005 0)]),
  qo 7007 (cv 284 [(qp 6998 0), (qi 12)]),
  qo 7014 (ct 142 [(qs 8 0x7365636976726573), (qu 0), (.slice none 0 (.exact 0)), qe, (qu 1), (.slice none 0 (.exact 0))])]
def p19 : Piece := ⟨19, [(qp 1393 0), (qs 5 0x736b72616d), (.agg [(ql 6546 0 2 (.exact 2))])], 6547, a19, (.tuple [(.agg [(ql 7014 0 2 (.tip 3))]), qt, (qi 0)]), 7016, d19⟩
theorem pb19 : Bnd p19.n p19.t := ab19
def z19 : T16 := pt a19 d19
theorem zb19 : Bnd 7016 z19 := Bnd.pt (n := 6547) (Nat.le_of_ble_eq_true (by kernel_rfl)) ab19 (by kernel_rfl)
def e20 : List (Nat × Option Obj) := [qo 6115 (.iter (some 1394) 4 [0, 2] (some 2) 4),
  qo 6546 (ct 142 [(qs 6 0x736b63656863), (qu 0), (.slice none 0 (.exact 0)), qe, (qu 2), (.slice none 0 (.exact 0))])]
def a20 : T16 := pt a19 e20
theorem ab20 : Bnd 6547 a20 := Bnd.pt (n := 6547) (Nat.le_of_ble_eq_true (by kernel_rfl)) ab19 (by kernel_rfl)
def d20 : List (Nat × Option Obj) := [qo 1392 (cv 194 [(qp 381 0), (qp 6979 0), (qm 1391), qz]),
  qo 1391 (.bag [((qs 7 0x100316e010000), (qi 1)), ((qs 12 0x1003177010100316e010001), (qi 1)), ((qs 18 0x1003177010100316e010100626577010101), (qi 1)), ((qs 11 0x10063010100316e010002), (qi 1)), ((qs 11 0x10064010100316e010002), (qi 1)), ((qs 21 0x10064010100316e0101003177010100316e010102), (qi 1)), ((qs 20 0x10063010100316e010100000000000000020202), (qi 1)), ((qs 20 0x10064010100316e010200000000000000020202), (qi 1)), ((qs 11 0x100736b63656863010003), (qi 1)), ((qs 10 0x1007365646f6e010003), (qi 1))] 10),
  qo 6836 (ct 142 [(qs 6 0x736b63656863), (qu 0), (.slice none 0 (.exact 0)), qe, (qu 2), (.slice none 0 (.exact 0))]),
  qo 6963 (.chan 0 [] false),
  qo 6964 (cv 361 [(.int .u32 (.ofNat 0)), (.int .i32 (.ofNat 0)), (.int .u32 (.ofNat 0)), (.chan (some 6963))]),
  qo 6965 (cv 301 [(qs 11 0x100736b63656863010003), (ql 6836 0 2 (.tip 3)), (qp 6964 0)]),
  qo 6967 (ct 277 [(qp 1677 0), (qp 2642 0), (qp 6099 0), (qp 6975 0)]),
  qo 6968 (.chan 0 [] false),
  qo 6969 (cv 361 [(.int .u32 (.ofNat 0)), (.int .i32 (.ofNat 0)), (.int .u32 (.ofNat 0)), (.chan (some 6968))]),
  qo 6970 (cv 282 [qe, qn, (qk 6967 0 4), (qp 6969 0)]),
  qo 6972 (ct 277 [(qp 6978 0), (qp 1264 0), (qp 6535 0), (qp 828 0)]),
  qo 6973 (.chan 0 [] false),
  qo 6974 (cv 361 [(.int .u32 (.ofNat 0)), (.int .i32 (.ofNat 0)), (.int .u32 (.ofNat 0)), (.chan (some 6973))]),
  qo 6975 (cv 282 [(qs 3 0x10003), qn, (qk 6972 0 4), (qp 6974 0)]),
  qo 6976 (.chan 0 [] false),
  qo 6977 (cv 361 [(.int .u32 (.ofNat 0)), (.int .i32 (.ofNat 0)), (.int .u32 (.ofNat 0)), (.chan (some 6976))]),
  qo 6978 (cv 282 [(qs 8 0x100736b63656863), (qp 6965 0), (.slice none 0 (.exact 0)), (qp 6977 0)]),
  qo 6979 (cv 284 [(qp 6970 0), (qi 12)]),
  qo 6986 (ct 142 [(qs 6 0x736b63656863), (qu 0), (.slice none 0 (.exact 0)), qe, (qu 1), (.slice none 0 (.exact 0))])]
def p20 : Piece := ⟨19, [(qp 1393 0), (qs 5 0x736b72616d), (.agg [(ql 6546 0 2 (.exact 2))])], 6547, a20, (.tuple [(.agg [(ql 6986 0 2 (.tip 3))]), qt, (qi 0)]), 6988, d20⟩
theorem pb20 : Bnd p20.n p20.t := ab20
def z20 : T16 := pt a20 d20
theorem zb20 : Bnd 6988 z20 := Bnd.pt (n := 6547) (Nat.le_of_ble_eq_true (by kernel_rfl)) ab20 (by kernel_rfl)
def e21 : List (Nat × Option Obj) := [qo 6115 (.iter (some 1394) 4 [0, 3] (some 3) 4),
  qo 6546 (ct 142 [(qs 5 0x7865646e69), (qu 0), (.slice none 0 (.exact 0)), qe, (qu 2), (.slice none 0 (.exact 0))])]
def a21 : T16 := pt a19 e21
theorem ab21 : Bnd 6547 a21 := Bnd.pt (n := 6547) (Nat.le_of_ble_eq_true (by kernel_rfl)) ab19 (by kernel_rfl)
def d21 : List (Nat × Option Obj) := [qo 1392 (cv 194 [(qp 381 0), (qp 6965 0), (qm 1391), qz]),
  qo 1391 (.bag [((qs 7 0x100316e010000), (qi 1)), ((qs 12 0x1003177010100316e010001), (qi 1)), ((qs 18 0x1003177010100316e010100626577010101), (qi 1)), ((qs 11 0x10063010100316e010002), (qi 1)), ((qs 11 0x10064010100316e010002), (qi 1)), ((qs 21 0x10064010100316e0101003177010100316e010102), (qi 1)), ((qs 20 0x10063010100316e010100000000000000020202), (qi 1)), ((qs 20 0x10064010100316e010200000000000000020202), (qi 1)), ((qs 10 0x1007865646e69010003), (qi 1)), ((qs 10 0x1007365646f6e010003), (qi 1))] 10),
  qo 6826 (ct 142 [(qs 5 0x7865646e69), (qu 0), (.slice none 0 (.exact 0)), qe, (qu 2), (.slice none 0 (.exact 0))]),
  qo 6949 (.chan 0 [] false),
  qo 6950 (cv 361 [(.int .u32 (.ofNat 0)), (.int .i32 (.ofNat 0)), (.int .u32 (.ofNat 0)), (.chan (some 6949))]),
  qo 6951 (cv 301 [(qs 10 0x1007865646e69010003), (ql 6826 0 2 (.tip 3)), (qp 6950 0)]),
  qo 6953 (ct 277 [(qp 1677 0), (qp 2642 0), (qp 6099 0), (qp 6961 0)]),
  qo 6954 (.chan 0 [] false),
  qo 6955 (cv 361 [(.int .u32 (.ofNat 0)), (.int .i32 (.ofNat 0)), (.int .u32 (.ofNat 0)), (.chan (some 6954))]),
  qo 6956 (cv 282 [qe, qn, (qk 6953 0 4), (qp 6955 0)]),
  qo 6958 (ct 277 [(qp 1049 0), (qp 6964 0), (qp 6535 0), (qp 828 0)]),
  qo 6959 (.chan 0 [] false),
  qo 6960 (cv 361 [(.int .u32 (.ofNat 0)), (.int .i32 (.ofNat 0)), (.int .u32 (.ofNat 0)), (.chan (some 6959))]),
  qo 6961 (cv 282 [(qs 3 0x10003), qn, (qk 6958 0 4), (qp 6960 0)]),
  qo 6962 (.chan 0 [] false),
  qo 6963 (cv 361 [(.int .u32 (.ofNat 0)), (.int .i32 (.ofNat 0)), (.int .u32 (.ofNat 0)), (.chan (some 6962))]),
  qo 6964 (cv 282 [(qs 7 0x1007865646e69), (qp 6951 0), (.slice none 0 (.exact 0)), (qp 6963 0)]),
  qo 6965 (cv 284 [(qp 6956 0), (qi 12)]),
  qo 6972 (ct 142 [(qs 5 0x7865646e69), (qu 0), (.slice none 0 (.exact 0)), qe, (qu 1), (.slice none 0 (.exact 0))])]
def p21 : Piece := ⟨19, [(qp 1393 0), (qs 5 0x736b72616d), (.agg [(ql 6546 0 2 (.exact 2))])], 6547, a21, (.tuple [(.agg [(ql 6972 0 2 (.tip 3))]), qt, (qi 0)]), 6974, d21⟩
theorem pb21 : Bnd p21.n p21.t := ab21
def z21 : T16 := pt a21 d21
theorem zb21 : Bnd 6974 z21 := Bnd.pt (n := 6547) (Nat.le_of_ble_eq_true (by kernel_rfl)) ab21 (by kernel_rfl)
def e22 : List (Nat × Option Obj) := [qo 6115 (.iter (some 1394) 4 [0, 1, 3] (some 1) 4),
  (6116, none),
  (6117, none),
  (6524, none),
  (6525, none),
  (6526, none),
  (6527, none),
  (6529, none),
  (6530, none),
  (6531, none),
  (6532, none),
  (6536, none),
  (6543, none),
  (6545, none),
  (6546, none),
  (6972, none),
  qo 6974 (cv 76 [(ql 6975 0 2 (.exact 2))]),
  qo 6975 (ct 142 [(qs 8 0x7365636976726573), (qu 0), (.slice none 0 (.exact 0)), qe, (qu 2), (.slice none 0 (.exact 0))])]
def a22 : T16 := pt z21 e22
theorem ab22 : Bnd 6976 a22 := Bnd.pt (n := 6974) (Nat.le_of_ble_eq_true (by kernel_rfl)) zb21 (by kernel_rfl)
def d22 : List (Nat × Option Obj) := [qo 1392 (cv 194 [(qp 381 0), (qp 7436 0), (qm 1391), qz]),
  qo 1391 (.bag [((qs 7 0x100316e010000), (qi 1)), ((qs 12 0x1003177010100316e010001), (qi 1)), ((qs 18 0x1003177010100316e010100626577010101), (qi 1)), ((qs 11 0x10063010100316e010002), (qi 1)), ((qs 11 0x10064010100316e010002), (qi 1)), ((qs 21 0x10064010100316e0101003177010100316e010102), (qi 1)), ((qs 20 0x10063010100316e010100000000000000020202), (qi 1)), ((qs 20 0x10064010100316e010200000000000000020202), (qi 1)), ((qs 10 0x1007865646e69010003), (qi 1)), ((qs 10 0x1007365646f6e010003), (qi 1)), ((qs 13 0x1007365636976726573010003), (qi 1))] 11),
  qo 7285 (ct 142 [(qs 8 0x7365636976726573), (qu 0), (.slice none 0 (.exact 0)), qe, (qu 2), (.slice none 0 (.exact 0))]),
  qo 7420 (.chan 0 [] false),
  qo 7421 (cv 361 [(.int .u32 (.ofNat 0)), (.int .i32 (.ofNat 0)), (.int .u32 (.ofNat 0)), (.chan (some 7420))]),
  qo 7422 (cv 301 [(qs 13 0x1007365636976726573010003), (ql 7285 0 2 (.tip 3)), (qp 7421 0)]),
  qo 7424 (ct 277 [(qp 1677 0), (qp 2642 0), (qp 6099 0), (qp 7432 0)]),
  qo 7425 (.chan 0 [] false),
  qo 7426 (cv 361 [(.int .u32 (.ofNat 0)), (.int .i32 (.ofNat 0)), (.int .u32 (.ofNat 0)), (.chan (some 7425))]),
  qo 7427 (cv 282 [qe, qn, (qk 7424 0 4), (qp 7426 0)]),
  qo 7429 (ct 277 [(qp 1049 0), (qp 6964 0), (qp 6535 0), (qp 7435 0)]),
  qo 7430 (.chan 0 [] false),
  qo 7431 (cv 361 [(.int .u32 (.ofNat 0)), (.int .i32 (.ofNat 0)), (.int .u32 (.ofNat 0)), (.chan (some 7430))]),
  qo 7432 (cv 282 [(qs 3 0x10003), qn, (qk 7429 0 4), (qp 7431 0)]),
  qo 7433 (.chan 0 [] false),
  qo 7434 (cv 361 [(.int .u32 (.ofNat 0)), (.int .i32 (.ofNat 0)), (.int .u32 (.ofNat 0)), (.chan (some 7433))]),
  qo 7435 (cv 282 [(qs 10 0x1007365636976726573), (qp 7422 0), (.slice none 0 (.exact 0)), (qp 7434 0)]),
  qo 7436 (cv 284 [(qp 7427 0), (qi 12)]),
  qo 7443 (ct 142 [(qs 8 0x7365636976726573), (qu 0), (.slice none 0 (.exact 0)), qe, (qu 1), (.slice none 0 (.exact 0))])]
def p22 : Piece := ⟨19, [(qp 1393 0), (qs 5 0x736b72616d), (.agg [(ql 6975 0 2 (.exact 2))])], 6976, a22, (.tuple [(.agg [(ql 7443 0 2 (.tip 3))]), qt, (qi 0)]), 7445, d22⟩
theorem pb22 : Bnd p22.n p22.t := ab22
def z22 : T16 := pt a22 d22
theorem zb22 : Bnd 7445 z22 := Bnd.pt (n := 6976) (Nat.le_of_ble_eq_true (by kernel_rfl)) ab22 (by kernel_rfl)
def e23 : List (Nat × Option Obj) := [qo 6115 (.iter (some 1394) 4 [0, 2, 3] (some 2) 4),
  qo 6975 (ct 142 [(qs 6 0x736b63656863), (qu 0), (.slice none 0 (.exact 0)), qe, (qu 2), (.slice none 0 (.exact 0))])]
def a23 : T16 := pt a22 e23
theorem ab23 : Bnd 6976 a23 := Bnd.pt (n := 6976) (Nat.le_of_ble_eq_true (by kernel_rfl)) ab22 (by kernel_rfl)
def d23 : List (Nat × Option Obj) := [qo 1392 (cv 194 [(qp 381 0), (qp 7408 0), (qm 1391), qz]),
  qo 1391 (.bag [((qs 7 0x100316e010000), (qi 1)), ((qs 12 0x1003177010100316e010001), (qi 1)), ((qs 18 0x1003177010100316e010100626577010101), (qi 1)), ((qs 11 0x10063010100316e010002), (qi 1)), ((qs 11 0x10064010100316e010002), (qi 1)), ((qs 21 0x10064010100316e0101003177010100316e010102), (qi 1)), ((qs 20 0x10063010100316e010100000000000000020202), (qi 1)), ((qs 20 0x10064010100316e010200000000000000020202), (qi 1)), ((qs 11 0x100736b63656863010003), (qi 1)), ((qs 10 0x1007865646e69010003), (qi 1)), ((qs 10 0x1007365646f6e010003), (qi 1))] 11),
  qo 7265 (ct 142 [(qs 6 0x736b63656863), (qu 0), (.slice none 0 (.exact 0)), qe, (qu 2), (.slice none 0 (.exact 0))]),
  qo 7392 (.chan 0 [] false),
  qo 7393 (cv 361 [(.int .u32 (.ofNat 0)), (.int .i32 (.ofNat 0)), (.int .u32 (.ofNat 0)), (.chan (some 7392))]),
  qo 7394 (cv 301 [(qs 11 0x100736b63656863010003), (ql 7265 0 2 (.tip 3)), (qp 7393 0)]),
  qo 7396 (ct 277 [(qp 1677 0), (qp 2642 0), (qp 6099 0), (qp 7404 0)]),
  qo 7397 (.chan 0 [] false),
  qo 7398 (cv 361 [(.int .u32 (.ofNat 0)), (.int .i32 (.ofNat 0)), (.int .u32 (.ofNat 0)), (.chan (some 7397))]),
  qo 7399 (cv 282 [qe, qn, (qk 7396 0 4), (qp 7398 0)]),
  qo 7401 (ct 277 [(qp 7407 0), (qp 6964 0), (qp 6535 0), (qp 828 0)]),
  qo 7402 (.chan 0 [] false),
  qo 7403 (cv 361 [(.int .u32 (.ofNat 0)), (.int .i32 (.ofNat 0)), (.int .u32 (.ofNat 0)), (.chan (some 7402))]),
  qo 7404 (cv 282 [(qs 3 0x10003), qn, (qk 7401 0 4), (qp 7403 0)]),
  qo 7405 (.chan 0 [] false),
  qo 7406 (cv 361 [(.int .u32 (.ofNat 0)), (.int .i32 (.ofNat 0)), (.int .u32 (.ofNat 0)), (.chan (some 7405))]),
  qo 7407 (cv 282 [(qs 8 0x100736b63656863), (qp 7394 0), (.slice none 0 (.exact 0)), (qp 7406 0)]),
  qo 7408 (cv 284 [(qp 7399 0), (qi 12)]),
  qo 7415 (ct 142 [(qs 6 0x736b63656863), (qu 0), (.slice none 0 (.exact 0)), qe, (qu 1), (.slice none 0 (.exact 0))])]
def p23 : Piece := ⟨19, [(qp 1393 0), (qs 5 0x736b72616d), (.agg [(ql 6975 0 2 (.exact 2))])], 6976, a23, (.tuple [(.agg [(ql 7415 0 2 (.tip 3))]), qt, (qi 0)]), 7417, d23⟩
theorem pb23 : Bnd p23.n p23.t := ab23
def z23 : T16 := pt a23 d23
theorem zb23 : Bnd 7417 z23 := Bnd.pt (n := 6976) (Nat.le_of_ble_eq_true (by kernel_rfl)) ab23 (by kernel_rfl)
def e24 : List (Nat × Option Obj) := [qo 6115 (.iter (some 1394) 4 [0, 1, 2] (some 1) 4),
  (6116, none),
  (6117, none),
  (6524, none),
  (6525, none),
  (6526, none),
  (6527, none),
  (6529, none),
  (6530, none),
  (6531, none),
  (6532, none),
  (6536, none),
  (6543, none),
  (6545, none),
  (6546, none),
  (6986, none),
  qo 6988 (cv 76 [(ql 6989 0 2 (.exact 2))]),
  qo 6989 (ct 142 [(qs 8 0x7365636976726573), (qu 0), (.slice none 0 (.exact 0)), qe, (qu 2), (.slice none 0 (.exact 0))])]
def a24 : T16 := pt z20 e24
theorem ab24 : Bnd 6990 a24 := Bnd.pt (n := 6988) (Nat.le_of_ble_eq_true (by kernel_rfl)) zb20 (by kernel_rfl)
def d24 : List (Nat × Option Obj) := [qo 1392 (cv 194 [(qp 381 0), (qp 7450 0), (qm 1391), qz]),
  qo 1391 (.bag [((qs 7 0x100316e010000), (qi 1)), ((qs 12 0x1003177010100316e010001), (qi 1)), ((qs 18 0x1003177010100316e010100626577010101), (qi 1)), ((qs 11 0x10063010100316e010002), (qi 1)), ((qs 11 0x10064010100316e010002), (qi 1)), ((qs 21 0x10064010100316e0101003177010100316e010102), (qi 1)), ((qs 20 0x10063010100316e010100000000000000020202), (qi 1)), ((qs 20 0x10064010100316e010200000000000000020202), (qi 1)), ((qs 11 0x100736b63656863010003), (qi 1)), ((qs 10 0x1007365646f6e010003), (qi 1)), ((qs 13 0x1007365636976726573010003), (qi 1))] 11),
  qo 7299 (ct 142 [(qs 8 0x7365636976726573), (qu 0), (.slice none 0 (.exact 0)), qe, (qu 2), (.slice none 0 (.exact 0))]),
  qo 7434 (.chan 0 [] false),
  qo 7435 (cv 361 [(.int .u32 (.ofNat 0)), (.int .i32 (.ofNat 0)), (.int .u32 (.ofNat 0)), (.chan (some 7434))]),
  qo 7436 (cv 301 [(qs 13 0x1007365636976726573010003), (ql 7299 0 2 (.tip 3)), (qp 7435 0)]),
  qo 7438 (ct 277 [(qp 1677 0), (qp 2642 0), (qp 6099 0), (qp 7446 0)]),
  qo 7439 (.chan 0 [] false),
  qo 7440 (cv 361 [(.int .u32 (.ofNat 0)), (.int .i32 (.ofNat 0)), (.int .u32 (.ofNat 0)), (.chan (some 7439))]),
  qo 7441 (cv 282 [qe, qn, (qk 7438 0 4), (qp 7440 0)]),
  qo 7443 (ct 277 [(qp 6978 0), (qp 1264 0), (qp 6535 0), (qp 7449 0)]),
  qo 7444 (.chan 0 [] false),
  qo 7445 (cv 361 [(.int .u32 (.ofNat 0)), (.int .i32 (.ofNat 0)), (.int .u32 (.ofNat 0)), (.chan (some 7444))]),
  qo 7446 (cv 282 [(qs 3 0x10003), qn, (qk 7443 0 4), (qp 7445 0)]),
  qo 7447 (.chan 0 [] false),
  qo 7448 (cv 361 [(.int .u32 (.ofNat 0)), (.int .i32 (.ofNat 0)), (.int .u32 (.ofNat 0)), (.chan (some 7447))]),
  qo 7449 (cv 282 [(qs 10 0x1007365636976726573), (qp 7436 0), (.slice none 0 (.exact 0)), (qp 7448 0)]),
  qo 7450 (cv 284 [(qp 7441 0), (qi 12)]),
  qo 7457 (ct 142 [(qs 8 0x7365636976726573), (qu 0), (.slice none 0 (.exact 0)), qe, (qu 1), (.slice none 0 (.exact 0))])]
def p24 : Piece := ⟨19, [(qp 1393 0), (qs 5 0x736b72616d), (.agg [(ql 6989 0 2 (.exact 2))])], 6990, a24, (.tuple [(.agg [(ql 7457 0 2 (.tip 3))]), qt, (qi 0)]), 7459, d24⟩
theorem pb24 : Bnd p24.n p24.t := ab24
def z24 : T16 := pt a24 d24
theorem zb24 : Bnd 7459 z24 := Bnd.pt (n := 6990) (Nat.le_of_ble_eq_true (by kernel_rfl)) ab24 (by kernel_rfl)
def e25 : List (Nat × Option Obj) := [qo 6115 (.iter (some 1394) 4 [0, 2, 3] (some 3) 4),
  qo 6989 (ct 142 [(qs 5 0x7865646e69), (qu 0), (.slice none 0 (.exact 0)), qe, (qu 2), (.slice none 0 (.exact 0))])]
def a25 : T16 := pt a24 e25
theorem ab25 : Bnd 6990 a25 := Bnd.pt (n := 6990) (Nat.le_of_ble_eq_true (by kernel_rfl)) ab24 (by kernel_rfl)
def d25 : List (Nat × Option Obj) := [qo 1392 (cv 194 [(qp 381 0), (qp 7408 0), (qm 1391), qz]),
  qo 1391 (.bag [((qs 7 0x100316e010000), (qi 1)), ((qs 12 0x1003177010100316e010001), (qi 1)), ((qs 18 0x1003177010100316e010100626577010101), (qi 1)), ((qs 11 0x10063010100316e010002), (qi 1)), ((qs 11 0x10064010100316e010002), (qi 1)), ((qs 21 0x10064010100316e0101003177010100316e010102), (qi 1)), ((qs 20 0x10063010100316e010100000000000000020202), (qi 1)), ((qs 20 0x10064010100316e010200000000000000020202), (qi 1)), ((qs 11 0x100736b63656863010003), (qi 1)), ((qs 10 0x1007865646e69010003), (qi 1)), ((qs 10 0x1007365646f6e010003), (qi 1))] 11),
  qo 7269 (ct 142 [(qs 5 0x7865646e69), (qu 0), (.slice none 0 (.exact 0)), qe, (qu 2), (.slice none 0 (.exact 0))]),
  qo 7392 (.chan 0 [] false),
  qo 7393 (cv 361 [(.int .u32 (.ofNat 0)), (.int .i32 (.ofNat 0)), (.int .u32 (.ofNat 0)), (.chan (some 7392))]),
  qo 7394 (cv 301 [(qs 10 0x1007865646e69010003), (ql 7269 0 2 (.tip 3)), (qp 7393 0)]),
  qo 7396 (ct 277 [(qp 1677 0), (qp 2642 0), (qp 6099 0), (qp 7404 0)]),
  qo 7397 (.chan 0 [] false),
  qo 7398 (cv 361 [(.int .u32 (.ofNat 0)), (.int .i32 (.ofNat 0)), (.int .u32 (.ofNat 0)), (.chan (some 7397))]),
  qo 7399 (cv 282 [qe, qn, (qk 7396 0 4), (qp 7398 0)]),
  qo 7401 (ct 277 [(qp 6978 0), (qp 7407 0), (qp 6535 0), (qp 828 0)]),
  qo 7402 (.chan 0 [] false),
  qo 7403 (cv 361 [(.int .u32 (.ofNat 0)), (.int .i32 (.ofNat 0)), (.int .u32 (.ofNat 0)), (.chan (some 7402))]),
  qo 7404 (cv 282 [(qs 3 0x10003), qn, (qk 7401 0 4), (qp 7403 0)]),
  qo 7405 (.chan 0 [] false),
  qo 7406 (cv 361 [(.int .u32 (.ofNat 0)), (.int .i32 (.ofNat 0)), (.int .u32 (.ofNat 0)), (.chan (some 7405))]),
  qo 7407 (cv 282 [(qs 7 0x1007865646e69), (qp 7394 0), (.slice none 0 (.exact 0)), (qp 7406 0)]),
  qo 7408 (cv 284 [(qp 7399 0), (qi 12)]),
  qo 7415 (ct 142 [(qs 5 0x7865646e69), (qu 0), (.slice none 0 (.exact 0)), qe, (qu 1), (.slice none 0 (.exact 0))])]
def p25 : Piece := ⟨19, [(qp 1393 0), (qs 5 0x736b72616d), (.agg [(ql 6989 0 2 (.exact 2))])], 6990, a25, (.tuple [(.agg [(ql 7415 0 2 (.tip 3))]), qt, (qi 0)]), 7417, d25⟩
theorem pb25 : Bnd p25.n p25.t := ab25
def z25 : T16 := pt a25 d25
theorem zb25 : Bnd 7417 z25 := Bnd.pt (n := 6990) (Nat.le_of_ble_eq_true (by kernel_rfl)) ab25 (by kernel_rfl)
def e26 : List (Nat × Option Obj) := [qo 6115 (.iter (some 1394) 4 [0, 1, 2] (some 2) 4),
  (6116, none),
  (6117, none),
  (6524, none),
  (6525, none),
  (6526, none),
  (6527, none),
  (6529, none),
  (6530, none),
  (6531, none),
  (6532, none),
  (6536, none),
  (6543, none),
  (6545, none),
  (6546, none),
  (7014, none),
  qo 7016 (cv 76 [(ql 7017 0 2 (.exact 2))]),
  qo 7017 (ct 142 [(qs 6 0x736b63656863), (qu 0), (.slice none 0 (.exact 0)), qe, (qu 2), (.slice none 0 (.exact 0))])]
def a26 : T16 := pt z19 e26
theorem ab26 : Bnd 7018 a26 := Bnd.pt (n := 7016) (Nat.le_of_ble_eq_true (by kernel_rfl)) zb19 (by kernel_rfl)
def d26 : List (Nat × Option Obj) := [qo 1392 (cv 194 [(qp 381 0), (qp 7450 0), (qm 1391), qz]),
  qo 1391 (.bag [((qs 7 0x100316e010000), (qi 1)), ((qs 12 0x1003177010100316e010001), (qi 1)), ((qs 18 0x1003177010100316e010100626577010101), (qi 1)), ((qs 11 0x10063010100316e010002), (qi 1)), ((qs 11 0x10064010100316e010002), (qi 1)), ((qs 21 0x10064010100316e0101003177010100316e010102), (qi 1)), ((qs 20 0x10063010100316e010100000000000000020202), (qi 1)), ((qs 20 0x10064010100316e010200000000000000020202), (qi 1)), ((qs 11 0x100736b63656863010003), (qi 1)), ((qs 10 0x1007365646f6e010003), (qi 1)), ((qs 13 0x1007365636976726573010003), (qi 1))] 11),
  qo 7307 (ct 142 [(qs 6 0x736b63656863), (qu 0), (.slice none 0 (.exact 0)), qe, (qu 2), (.slice none 0 (.exact 0))]),
  qo 7434 (.chan 0 [] false),
  qo 7435 (cv 361 [(.int .u32 (.ofNat 0)), (.int .i32 (.ofNat 0)), (.int .u32 (.ofNat 0)), (.chan (some 7434))]),
  qo 7436 (cv 301 [(qs 11 0x100736b63656863010003), (ql 7307 0 2 (.tip 3)), (qp 7435 0)]),
  qo 7438 (ct 277 [(qp 1677 0), (qp 2642 0), (qp 6099 0), (qp 7446 0)]),
  qo 7439 (.chan 0 [] false),
  qo 7440 (cv 361 [(.int .u32 (.ofNat 0)), (.int .i32 (.ofNat 0)), (.int .u32 (.ofNat 0)), (.chan (some 7439))]),
  qo 7441 (cv 282 [qe, qn, (qk 7438 0 4), (qp 7440 0)]),
  qo 7443 (ct 277 [(qp 7449 0), (qp 1264 0), (qp 6535 0), (qp 7006 0)]),
  qo 7444 (.chan 0 [] false),
  qo 7445 (cv 361 [(.int .u32 (.ofNat 0)), (.int .i32 (.ofNat 0)), (.int .u32 (.ofNat 0)), (.chan (some 7444))]),
  qo 7446 (cv 282 [(qs 3 0x10003), qn, (qk 7443 0 4), (qp 7445 0)]),
  qo 7447 (.chan 0 [] false),
  qo 7448 (cv 361 [(.int .u32 (.ofNat 0)), (.int .i32 (.ofNat 0)), (.int .u32 (.ofNat 0)), (.chan (some 7447))]),
  qo 7449 (cv 282 [(qs 8 0x100736b63656863), (qp 7436 0), (.slice none 0 (.exact 0)), (qp 7448 0)]),
  qo 7450 (cv 284 [(qp 7441 0), (qi 12)]),
  qo 7457 (ct 142 [(qs 6 0x736b63656863), (qu 0), (.slice none 0 (.exact 0)), qe, (qu 1), (.slice none 0 (.exact 0))])]
def p26 : Piece := ⟨19, [(qp 1393 0), (qs 5 0x736b72616d), (.agg [(ql 7017 0 2 (.exact 2))])], 7018, a26, (.tuple [(.agg [(ql 7457 0 2 (.tip 3))]), qt, (qi 0)]), 7459, d26⟩
theorem pb26 : Bnd p26.n p26.t := ab26
def z26 : T16 := pt a26 d26
theorem zb26 : Bnd 7459 z26 := Bnd.pt (n := 7018) (Nat.le_of_ble_eq_true (by kernel_rfl)) ab26 (by kernel_rfl)
def e27 : List (Nat × Option Obj) := [qo 6115 (.iter (some 1394) 4 [0, 1, 3] (some 3) 4),
  qo 7017 (ct 142 [(qs 5 0x7865646e69), (qu 0), (.slice none 0 (.exact 0)), qe, (qu 2), (.slice none 0 (.exact 0))])]
def a27 : T16 := pt a26 e27
theorem ab27 : Bnd 7018 a27 := Bnd.pt (n := 7018) (Nat.le_of_ble_eq_true (by kernel_rfl)) ab26 (by kernel_rfl)
def d27 : List (Nat × Option Obj) := [qo 1392 (cv 194 [(qp 381 0), (qp 7436 0), (qm 1391), qz]),
  qo 1391 (.bag [((qs 7 0x100316e010000), (qi 1)), ((qs 12 0x1003177010100316e010001), (qi 1)), ((qs 18 0x1003177010100316e010100626577010101), (qi 1)), ((qs 11 0x10063010100316e010002), (qi 1)), ((qs 11 0x10064010100316e010002), (qi 1)), ((qs 21 0x10064010100316e0101003177010100316e010102), (qi 1)), ((qs 20 0x10063010100316e010100000000000000020202), (qi 1)), ((qs 20 0x10064010100316e010200000000000000020202), (qi 1)), ((qs 10 0x1007865646e69010003), (qi 1)), ((qs 10 0x1007365646f6e010003), (qi 1)), ((qs 13 0x1007365636976726573010003), (qi 1))] 11),
  qo 7297 (ct 142 [(qs 5 0x7865646e69), (qu 0), (.slice none 0 (.exact 0)), qe, (qu 2), (.slice none 0 (.exact 0))]),
  qo 7420 (.chan 0 [] false),
  qo 7421 (cv 361 [(.int .u32 (.ofNat 0)), (.int .i32 (.ofNat 0)), (.int .u32 (.ofNat 0)), (.chan (some 7420))]),
  qo 7422 (cv 301 [(qs 10 0x1007865646e69010003), (ql 7297 0 2 (.tip 3)), (qp 7421 0)]),
  qo 7424 (ct 277 [(qp 1677 0), (qp 2642 0), (qp 6099 0), (qp 7432 0)]),
  qo 7425 (.chan 0 [] false),
  qo 7426 (cv 361 [(.int .u32 (.ofNat 0)), (.int .i32 (.ofNat 0)), (.int .u32 (.ofNat 0)), (.chan (some 7425))]),
  qo 7427 (cv 282 [qe, qn, (qk 7424 0 4), (qp 7426 0)]),
  qo 7429 (ct 277 [(qp 1049 0), (qp 7435 0), (qp 6535 0), (qp 7006 0)]),
  qo 7430 (.chan 0 [] false),
  qo 7431 (cv 361 [(.int .u32 (.ofNat 0)), (.int .i32 (.ofNat 0)), (.int .u32 (.ofNat 0)), (.chan (some 7430))]),
  qo 7432 (cv 282 [(qs 3 0x10003), qn, (qk 7429 0 4), (qp 7431 0)]),
  qo 7433 (.chan 0 [] false),
  qo 7434 (cv 361 [(.int .u32 (.ofNat 0)), (.int .i32 (.ofNat 0)), (.int .u32 (.ofNat 0)), (.chan (some 7433))]),
  qo 7435 (cv 282 [(qs 7 0x1007865646e69), (qp 7422 0), (.slice none 0 (.exact 0)), (qp 7434 0)]),
  qo 7436 (cv 284 [(qp 7427 0), (qi 12)]),
  qo 7443 (ct 142 [(qs 5 0x7865646e69), (qu 0), (.slice none 0 (.exact 0)), qe, (qu 1), (.slice none 0 (.exact 0))])]
def p27 : Piece := ⟨19, [(qp 1393 0), (qs 5 0x736b72616d), (.agg [(ql 7017 0 2 (.exact 2))])], 7018, a27, (.tuple [(.agg [(ql 7443 0 2 (.tip 3))]), qt, (qi 0)]), 7445, d27⟩
theorem pb27 : Bnd p27.n p27.t := ab27
def z27 : T16 := pt a27 d27
theorem zb27 : Bnd 7445 z27 := Bnd.pt (n := 7018) (Nat.le_of_ble_eq_true (by kernel_rfl)) ab27 (by kernel_rfl)
def e28 : List (Nat × Option Obj) := [qo 6115 (.iter (some 1394) 4 [0, 1, 3] (some 0) 4),
  (6116, none),
  (6117, none),
  (6566, none),
  (6567, none),
  (6568, none),
  (6569, none),
  (6571, none),
  (6572, none),
  (6573, none),
  (6574, none),
  (6578, none),
  (6585, none),
  (6587, none),
  (6588, none),
  (7014, none),
  qo 7016 (cv 76 [(ql 7017 0 2 (.exact 2))]),
  qo 7017 (ct 142 [(qs 5 0x7365646f6e), (qu 0), (.slice none 0 (.exact 0)), qe, (qu 2), (.slice none 0 (.exact 0))])]
def a28 : T16 := pt z18 e28
theorem ab28 : Bnd 7018 a28 := Bnd.pt (n := 7016) (Nat.le_of_ble_eq_true (by kernel_rfl)) zb18 (by kernel_rfl)
def d28 : List (Nat × Option Obj) := [qo 1392 (cv 194 [(qp 381 0), (qp 7436 0), (qm 1391), qz]),
  qo 1391 (.bag [((qs 7 0x100316e010000), (qi 1)), ((qs 12 0x1003177010100316e010001), (qi 1)), ((qs 18 0x1003177010100316e010100626577010101), (qi 1)), ((qs 11 0x10063010100316e010002), (qi 1)), ((qs 11 0x10064010100316e010002), (qi 1)), ((qs 21 0x10064010100316e0101003177010100316e010102), (qi 1)), ((qs 20 0x10063010100316e010100000000000000020202), (qi 1)), ((qs 20 0x10064010100316e010200000000000000020202), (qi 1)), ((qs 10 0x1007865646e69010003), (qi 1)), ((qs 10 0x1007365646f6e010003), (qi 1)), ((qs 13 0x1007365636976726573010003), (qi 1))] 11),
  qo 7297 (ct 142 [(qs 5 0x7365646f6e), (qu 0), (.slice none 0 (.exact 0)), qe, (qu 2), (.slice none 0 (.exact 0))]),
  qo 7420 (.chan 0 [] false),
  qo 7421 (cv 361 [(.int .u32 (.ofNat 0)), (.int .i32 (.ofNat 0)), (.int .u32 (.ofNat 0)), (.chan (some 7420))]),
  qo 7422 (cv 301 [(qs 10 0x1007365646f6e010003), (ql 7297 0 2 (.tip 3)), (qp 7421 0)]),
  qo 7424 (ct 277 [(qp 1677 0), (qp 2642 0), (qp 6099 0), (qp 7432 0)]),
  qo 7425 (.chan 0 [] false),
  qo 7426 (cv 361 [(.int .u32 (.ofNat 0)), (.int .i32 (.ofNat 0)), (.int .u32 (.ofNat 0)), (.chan (some 7425))]),
  qo 7427 (cv 282 [qe, qn, (qk 7424 0 4), (qp 7426 0)]),
  qo 7429 (ct 277 [(qp 1049 0), (qp 7006 0), (qp 7435 0), (qp 6577 0)]),
  qo 7430 (.chan 0 [] false),
  qo 7431 (cv 361 [(.int .u32 (.ofNat 0)), (.int .i32 (.ofNat 0)), (.int .u32 (.ofNat 0)), (.chan (some 7430))]),
  qo 7432 (cv 282 [(qs 3 0x10003), qn, (qk 7429 0 4), (qp 7431 0)]),
  qo 7433 (.chan 0 [] false),
  qo 7434 (cv 361 [(.int .u32 (.ofNat 0)), (.int .i32 (.ofNat 0)), (.int .u32 (.ofNat 0)), (.chan (some 7433))]),
  qo 7435 (cv 282 [(qs 7 0x1007365646f6e), (qp 7422 0), (.slice none 0 (.exact 0)), (qp 7434 0)]),
  qo 7436 (cv 284 [(qp 7427 0), (qi 12)]),
  qo 7443 (ct 142 [(qs 5 0x7365646f6e), (qu 0), (.slice none 0 (.exact 0)), qe, (qu 1), (.slice none 0 (.exact 0))])]
def p28 : Piece := ⟨19, [(qp 1393 0), (qs 5 0x736b72616d), (.agg [(ql 7017 0 2 (.exact 2))])], 7018, a28, (.tuple [(.agg [(ql 7443 0 2 (.tip 3))]), qt, (qi 0)]), 7445, d28⟩
theorem pb28 : Bnd p28.n p28.t := ab28
def z28 : T16 := pt a28 d28
theorem zb28 : Bnd 7445 z28 := Bnd.pt (n := 7018) (Nat.le_of_ble_eq_true (by kernel_rfl)) ab28 (by kernel_rfl)
def e29 : List (Nat × Option Obj) := [qo 6115 (.iter (some 1394) 4 [1, 2, 3] (some 2) 4),
  qo 7017 (ct 142 [(qs 6 0x736b63656863), (qu 0), (.slice none 0 (.exact 0)), qe, (qu 2), (.slice none 0 (.exact 0))])]
def a29 : T16 := pt a28 e29
theorem ab29 : Bnd 7018 a29 := Bnd.pt (n := 7018) (Nat.le_of_ble_eq_true (by kernel_rfl)) ab28 (by kernel_rfl)
def d29 : List (Nat × Option Obj) := [qo 1392 (cv 194 [(qp 381 0), (qp 7450 0), (qm 1391), qz]),
  qo 1391 (.bag [((qs 7 0x100316e010000), (qi 1)), ((qs 12 0x1003177010100316e010001), (qi 1)), ((qs 18 0x1003177010100316e010100626577010101), (qi 1)), ((qs 11 0x10063010100316e010002), (qi 1)), ((qs 11 0x10064010100316e010002), (qi 1)), ((qs 21 0x10064010100316e0101003177010100316e010102), (qi 1)), ((qs 20 0x10063010100316e010100000000000000020202), (qi 1)), ((qs 20 0x10064010100316e010200000000000000020202), (qi 1)), ((qs 11 0x100736b63656863010003), (qi 1)), ((qs 10 0x1007865646e69010003), (qi 1)), ((qs 13 0x1007365636976726573010003), (qi 1))] 11),
  qo 7307 (ct 142 [(qs 6 0x736b63656863), (qu 0), (.slice none 0 (.exact 0)), qe, (qu 2), (.slice none 0 (.exact 0))]),
  qo 7434 (.chan 0 [] false),
  qo 7435 (cv 361 [(.int .u32 (.ofNat 0)), (.int .i32 (.ofNat 0)), (.int .u32 (.ofNat 0)), (.chan (some 7434))]),
  qo 7436 (cv 301 [(qs 11 0x100736b63656863010003), (ql 7307 0 2 (.tip 3)), (qp 7435 0)]),
  qo 7438 (ct 277 [(qp 1677 0), (qp 2642 0), (qp 6099 0), (qp 7446 0)]),
  qo 7439 (.chan 0 [] false),
  qo 7440 (cv 361 [(.int .u32 (.ofNat 0)), (.int .i32 (.ofNat 0)), (.int .u32 (.ofNat 0)), (.chan (some 7439))]),
  qo 7441 (cv 282 [qe, qn, (qk 7438 0 4), (qp 7440 0)]),
  qo 7443 (ct 277 [(qp 7449 0), (qp 7006 0), (qp 821 0), (qp 6577 0)]),
  qo 7444 (.chan 0 [] false),
  qo 7445 (cv 361 [(.int .u32 (.ofNat 0)), (.int .i32 (.ofNat 0)), (.int .u32 (.ofNat 0)), (.chan (some 7444))]),
  qo 7446 (cv 282 [(qs 3 0x10003), qn, (qk 7443 0 4), (qp 7445 0)]),
  qo 7447 (.chan 0 [] false),
  qo 7448 (cv 361 [(.int .u32 (.ofNat 0)), (.int .i32 (.ofNat 0)), (.int .u32 (.ofNat 0)), (.chan (some 7447))]),
  qo 7449 (cv 282 [(qs 8 0x100736b63656863), (qp 7436 0), (.slice none 0 (.exact 0)), (qp 7448 0)]),
  qo 7450 (cv 284 [(qp 7441 0), (qi 12)]),
  qo 7457 (ct 142 [(qs 6 0x736b63656863), (qu 0), (.slice none 0 (.exact 0)), qe, (qu 1), (.slice none 0 (.exact 0))])]
def p29 : Piece := ⟨19, [(qp 1393 0), (qs 5 0x736b72616d), (.agg [(ql 7017 0 2 (.exact 2))])], 7018, a29, (.tuple [(.agg [(ql 7457 0 2 (.tip 3))]), qt, (qi 0)]), 7459, d29⟩
theorem pb29 : Bnd p29.n p29.t := ab29
def z29 : T16 := pt a29 d29
theorem zb29 : Bnd 7459 z29 := Bnd.pt (n := 7018) (Nat.le_of_ble_eq_true (by kernel_rfl)) ab29 (by kernel_rfl)
def e30 : List (Nat × Option Obj) := [qo 6115 (.iter (some 1394) 4 [0, 1, 2] (some 0) 4),
  (6116, none),
  (6117, none),
  (6566, none),
  (6567, none),
  (6568, none),
  (6569, none),
  (6571, none),
  (6572, none),
  (6573, none),
  (6574, none),
  (6578, none),
  (6585, none),
  (6587, none),
  (6588, none),
  (7028, none),
  qo 7030 (cv 76 [(ql 7031 0 2 (.exact 2))]),
  qo 7031 (ct 142 [(qs 5 0x7365646f6e), (qu 0), (.slice none 0 (.exact 0)), qe, (qu 2), (.slice none 0 (.exact 0))])]
def a30 : T16 := pt z17 e30
theorem ab30 : Bnd 7032 a30 := Bnd.pt (n := 7030) (Nat.le_of_ble_eq_true (by kernel_rfl)) zb17 (by kernel_rfl)
def d30 : List (Nat × Option Obj) := [qo 1392 (cv 194 [(qp 381 0), (qp 7450 0), (qm 1391), qz]),
  qo 1391 (.bag [((qs 7 0x100316e010000), (qi 1)), ((qs 12 0x1003177010100316e010001), (qi 1)), ((qs 18 0x1003177010100316e010100626577010101), (qi 1)), ((qs 11 0x10063010100316e010002), (qi 1)), ((qs 11 0x10064010100316e010002), (qi 1)), ((qs 21 0x10064010100316e0101003177010100316e010102), (qi 1)), ((qs 20 0x10063010100316e010100000000000000020202), (qi 1)), ((qs 20 0x10064010100316e010200000000000000020202), (qi 1)), ((qs 11 0x100736b63656863010003), (qi 1)), ((qs 10 0x1007365646f6e010003), (qi 1)), ((qs 13 0x1007365636976726573010003), (qi 1))] 11),
  qo 7311 (ct 142 [(qs 5 0x7365646f6e), (qu 0), (.slice none 0 (.exact 0)), qe, (qu 2), (.slice none 0 (.exact 0))]),
  qo 7434 (.chan 0 [] false),
  qo 7435 (cv 361 [(.int .u32 (.ofNat 0)), (.int .i32 (.ofNat 0)), (.int .u32 (.ofNat 0)), (.chan (some 7434))]),
  qo 7436 (cv 301 [(qs 10 0x1007365646f6e010003), (ql 7311 0 2 (.tip 3)), (qp 7435 0)]),
  qo 7438 (ct 277 [(qp 1677 0), (qp 2642 0), (qp 6099 0), (qp 7446 0)]),
  qo 7439 (.chan 0 [] false),
  qo 7440 (cv 361 [(.int .u32 (.ofNat 0)), (.int .i32 (.ofNat 0)), (.int .u32 (.ofNat 0)), (.chan (some 7439))]),
  qo 7441 (cv 282 [qe, qn, (qk 7438 0 4), (qp 7440 0)]),
  qo 7443 (ct 277 [(qp 7020 0), (qp 1264 0), (qp 7449 0), (qp 6577 0)]),
  qo 7444 (.chan 0 [] false),
  qo 7445 (cv 361 [(.int .u32 (.ofNat 0)), (.int .i32 (.ofNat 0)), (.int .u32 (.ofNat 0)), (.chan (some 7444))]),
  qo 7446 (cv 282 [(qs 3 0x10003), qn, (qk 7443 0 4), (qp 7445 0)]),
  qo 7447 (.chan 0 [] false),
  qo 7448 (cv 361 [(.int .u32 (.ofNat 0)), (.int .i32 (.ofNat 0)), (.int .u32 (.ofNat 0)), (.chan (some 7447))]),
  qo 7449 (cv 282 [(qs 7 0x1007365646f6e), (qp 7436 0), (.slice none 0 (.exact 0)), (qp 7448 0)]),
  qo 7450 (cv 284 [(qp 7441 0), (qi 12)]),
  qo 7457 (ct 142 [(qs 5 0x7365646f6e), (qu 0), (.slice none 0 (.exact 0)), qe, (qu 1), (.slice none 0 (.exact 0))])]
def p30 : Piece := ⟨19, [(qp 1393 0), (qs 5 0x736b72616d), (.agg [(ql 7031 0 2 (.exact 2))])], 7032, a30, (.tuple [(.agg [(ql 7457 0 2 (.tip 3))]), qt, (qi 0)]), 7459, d30⟩
theorem pb30 : Bnd p30.n p30.t := ab30
def z30 : T16 := pt a30 d30
theorem zb30 : Bnd 7459 z30 := Bnd.pt (n := 7032) (Nat.le_of_ble_eq_true (by kernel_rfl)) ab30 (by kernel_rfl)
def e31 : List (Nat × Option Obj) := [qo 6115 (.iter (some 1394) 4 [1, 2, 3] (some 3) 4),
  qo 7031 (ct 142 [(qs 5 0x7865646e69), (qu 0), (.slice none 0 (.exact 0)), qe, (qu 2), (.slice none 0 (.exact 0))])]
def a31 : T16 := pt a30 e31
theorem ab31 : Bnd 7032 a31 := Bnd.pt (n := 7032) (Nat.le_of_ble_eq_true (by kernel_rfl)) ab30 (by kernel_rfl)
def d31 : List (Nat × Option Obj) := [qo 1392 (cv 194 [(qp 381 0), (qp 7450 0), (qm 1391), qz]),
  qo 1391 (.bag [((qs 7 0x100316e010000), (qi 1)), ((qs 12 0x1003177010100316e010001), (qi 1)), ((qs 18 0x1003177010100316e010100626577010101), (qi 1)), ((qs 11 0x10063010100316e010002), (qi 1)), ((qs 11 0x10064010100316e010002), (qi 1)), ((qs 21 0x10064010100316e0101003177010100316e010102), (qi 1)), ((qs 20 0x10063010100316e010100000000000000020202), (qi 1)), ((qs 20 0x10064010100316e010200000000000000020202), (qi 1)), ((qs 11 0x100736b63656863010003), (qi 1)), ((qs 10 0x1007865646e69010003), (qi 1)), ((qs 13 0x1007365636976726573010003), (qi 1))] 11),
  qo 7311 (ct 142 [(qs 5 0x7865646e69), (qu 0), (.slice none 0 (.exact 0)), qe, (qu 2), (.slice none 0 (.exact 0))]),
  qo 7434 (.chan 0 [] false),
  qo 7435 (cv 361 [(.int .u32 (.ofNat 0)), (.int .i32 (.ofNat 0)), (.int .u32 (.ofNat 0)), (.chan (some 7434))]),
  qo 7436 (cv 301 [(qs 10 0x1007865646e69010003), (ql 7311 0 2 (.tip 3)), (qp 7435 0)]),
  qo 7438 (ct 277 [(qp 1677 0), (qp 2642 0), (qp 6099 0), (qp 7446 0)]),
  qo 7439 (.chan 0 [] false),
  qo 7440 (cv 361 [(.int .u32 (.ofNat 0)), (.int .i32 (.ofNat 0)), (.int .u32 (.ofNat 0)), (.chan (some 7439))]),
  qo 7441 (cv 282 [qe, qn, (qk 7438 0 4), (qp 7440 0)]),
  qo 7443 (ct 277 [(qp 7020 0), (qp 7449 0), (qp 821 0), (qp 6577 0)]),
  qo 7444 (.chan 0 [] false),
  qo 7445 (cv 361 [(.int .u32 (.ofNat 0)), (.int .i32 (.ofNat 0)), (.int .u32 (.ofNat 0)), (.chan (some 7444))]),
  qo 7446 (cv 282 [(qs 3 0x10003), qn, (qk 7443 0 4), (qp 7445 0)]),
  qo 7447 (.chan 0 [] false),
  qo 7448 (cv 361 [(.int .u32 (.ofNat 0)), (.int .i32 (.ofNat 0)), (.int .u32 (.ofNat 0)), (.chan (some 7447))]),
  qo 7449 (cv 282 [(qs 7 0x1007865646e69), (qp 7436 0), (.slice none 0 (.exact 0)), (qp 7448 0)]),
  qo 7450 (cv 284 [(qp 7441 0), (qi 12)]),
  qo 7457 (ct 142 [(qs 5 0x7865646e69), (qu 0), (.slice none 0 (.exact 0)), qe, (qu 1), (.slice none 0 (.exact 0))])]
def p31 : Piece := ⟨19, [(qp 1393 0), (qs 5 0x736b72616d), (.agg [(ql 7031 0 2 (.exact 2))])], 7032, a31, (.tuple [(.agg [(ql 7457 0 2 (.tip 3))]), qt, (qi 0)]), 7459, d31⟩
theorem pb31 : Bnd p31.n p31.t := ab31
def z31 : T16 := pt a31 d31
theorem zb31 : Bnd 7459 z31 := Bnd.pt (n := 7032) (Nat.le_of_ble_eq_true (by kernel_rfl)) ab31 (by kernel_rfl)
def e32 : List (Nat × Option Obj) := [qo 6115 (.iter (some 1394) 4 [0, 2, 3] (some 0) 4),
  (6116, none),
  (6117, none),
  (6538, none),
  (6539, none),
  (6540, none),
  (6541, none),
  (6543, none),
  (6544, none),
  (6545, none),
  (6546, none),
  (6550, none),
  (6557, none),
  (6559, none),
  (6560, none),
  (6986, none),
  qo 6988 (cv 76 [(ql 6989 0 2 (.exact 2))]),
  qo 6989 (ct 142 [(qs 5 0x7365646f6e), (qu 0), (.slice none 0 (.exact 0)), qe, (qu 2), (.slice none 0 (.exact 0))])]
def a32 : T16 := pt z15 e32
theorem ab32 : Bnd 6990 a32 := Bnd.pt (n := 6988) (Nat.le_of_ble_eq_true (by kernel_rfl)) zb15 (by kernel_rfl)
def d32 : List (Nat × Option Obj) := [qo 1392 (cv 194 [(qp 381 0), (qp 7408 0), (qm 1391), qz]),
  qo 1391 (.bag [((qs 7 0x100316e010000), (qi 1)), ((qs 12 0x1003177010100316e010001), (qi 1)), ((qs 18 0x1003177010100316e010100626577010101), (qi 1)), ((qs 11 0x10063010100316e010002), (qi 1)), ((qs 11 0x10064010100316e010002), (qi 1)), ((qs 21 0x10064010100316e0101003177010100316e010102), (qi 1)), ((qs 20 0x10063010100316e010100000000000000020202), (qi 1)), ((qs 20 0x10064010100316e010200000000000000020202), (qi 1)), ((qs 11 0x100736b63656863010003), (qi 1)), ((qs 10 0x1007865646e69010003), (qi 1)), ((qs 10 0x1007365646f6e010003), (qi 1))] 11),
  qo 7269 (ct 142 [(qs 5 0x7365646f6e), (qu 0), (.slice none 0 (.exact 0)), qe, (qu 2), (.slice none 0 (.exact 0))]),
  qo 7392 (.chan 0 [] false),
  qo 7393 (cv 361 [(.int .u32 (.ofNat 0)), (.int .i32 (.ofNat 0)), (.int .u32 (.ofNat 0)), (.chan (some 7392))]),
  qo 7394 (cv 301 [(qs 10 0x1007365646f6e010003), (ql 7269 0 2 (.tip 3)), (qp 7393 0)]),
  qo 7396 (ct 277 [(qp 1677 0), (qp 2642 0), (qp 6099 0), (qp 7404 0)]),
  qo 7397 (.chan 0 [] false),
  qo 7398 (cv 361 [(.int .u32 (.ofNat 0)), (.int .i32 (.ofNat 0)), (.int .u32 (.ofNat 0)), (.chan (some 7397))]),
  qo 7399 (cv 282 [qe, qn, (qk 7396 0 4), (qp 7398 0)]),
  qo 7401 (ct 277 [(qp 6549 0), (qp 6978 0), (qp 7407 0), (qp 828 0)]),
  qo 7402 (.chan 0 [] false),
  qo 7403 (cv 361 [(.int .u32 (.ofNat 0)), (.int .i32 (.ofNat 0)), (.int .u32 (.ofNat 0)), (.chan (some 7402))]),
  qo 7404 (cv 282 [(qs 3 0x10003), qn, (qk 7401 0 4), (qp 7403 0)]),
  qo 7405 (.chan 0 [] false),
  qo 7406 (cv 361 [(.int .u32 (.ofNat 0)), (.int .i32 (.ofNat 0)), (.int .u32 (.ofNat 0)), (.chan (some 7405))]),
  qo 7407 (cv 282 [(qs 7 0x1007365646f6e), (qp 7394 0), (.slice none 0 (.exact 0)), (qp 7406 0)]),
  qo 7408 (cv 284 [(qp 7399 0), (qi 12)]),
  qo 7415 (ct 142 [(qs 5 0x7365646f6e), (qu 0), (.slice none 0 (.exact 0)), qe, (qu 1), (.slice none 0 (.exact 0))])]
def p32 : Piece := ⟨19, [(qp 1393 0), (qs 5 0x736b72616d), (.agg [(ql 6989 0 2 (.exact 2))])], 6990, a32, (.tuple [(.agg [(ql 7415 0 2 (.tip 3))]), qt, (qi 0)]), 7417, d32⟩
theorem pb32 : Bnd p32.n p32.t := ab32
def z32 : T16 := pt a32 d32
theorem zb32 : Bnd 7417 z32 := Bnd.pt (n := 6990) (Nat.le_of_ble_eq_true (by kernel_rfl)) ab32 (by kernel_rfl)
def e33 : List (Nat × Option Obj) := [qo 6115 (.iter (some 1394) 4 [1, 2, 3] (some 1) 4),
  qo 6989 (ct 142 [(qs 8 0x7365636976726573), (qu 0), (.slice none 0 (.exact 0)), qe, (qu 2), (.slice none 0 (.exact 0))])]
def a33 : T16 := pt a32 e33
theorem ab33 : Bnd 6990 a33 := Bnd.pt (n := 6990) (Nat.le_of_ble_eq_true (by kernel_rfl)) ab32 (by kernel_rfl)
def d33 : List (Nat × Option Obj) := [qo 1392 (cv 194 [(qp 381 0), (qp 7450 0), (qm 1391), qz]),
  qo 1391 (.bag [((qs 7 0x100316e010000), (qi 1)), ((qs 12 0x1003177010100316e010001), (qi 1)), ((qs 18 0x1003177010100316e010100626577010101), (qi 1)), ((qs 11 0x10063010100316e010002), (qi 1)), ((qs 11 0x10064010100316e010002), (qi 1)), ((qs 21 0x10064010100316e0101003177010100316e010102), (qi 1)), ((qs 20 0x10063010100316e010100000000000000020202), (qi 1)), ((qs 20 0x10064010100316e010200000000000000020202), (qi 1)), ((qs 11 0x100736b63656863010003), (qi 1)), ((qs 10 0x1007865646e69010003), (qi 1)), ((qs 13 0x1007365636976726573010003), (qi 1))] 11),
  qo 7299 (ct 142 [(qs 8 0x7365636976726573), (qu 0), (.slice none 0 (.exact 0)), qe, (qu 2), (.slice none 0 (.exact 0))]),
  qo 7434 (.chan 0 [] false),
  qo 7435 (cv 361 [(.int .u32 (.ofNat 0)), (.int .i32 (.ofNat 0)), (.int .u32 (.ofNat 0)), (.chan (some 7434))]),
  qo 7436 (cv 301 [(qs 13 0x1007365636976726573010003), (ql 7299 0 2 (.tip 3)), (qp 7435 0)]),
  qo 7438 (ct 277 [(qp 1677 0), (qp 2642 0), (qp 6099 0), (qp 7446 0)]),
  qo 7439 (.chan 0 [] false),
  qo 7440 (cv 361 [(.int .u32 (.ofNat 0)), (.int .i32 (.ofNat 0)), (.int .u32 (.ofNat 0)), (.chan (some 7439))]),
  qo 7441 (cv 282 [qe, qn, (qk 7438 0 4), (qp 7440 0)]),
  qo 7443 (ct 277 [(qp 6549 0), (qp 6978 0), (qp 821 0), (qp 7449 0)]),
  qo 7444 (.chan 0 [] false),
  qo 7445 (cv 361 [(.int .u32 (.ofNat 0)), (.int .i32 (.ofNat 0)), (.int .u32 (.ofNat 0)), (.chan (some 7444))]),
  qo 7446 (cv 282 [(qs 3 0x10003), qn, (qk 7443 0 4), (qp 7445 0)]),
  qo 7447 (.chan 0 [] false),
  qo 7448 (cv 361 [(.int .u32 (.ofNat 0)), (.int .i32 (.ofNat 0)), (.int .u32 (.ofNat 0)), (.chan (some 7447))]),
  qo 7449 (cv 282 [(qs 10 0x1007365636976726573), (qp 7436 0), (.slice none 0 (.exact 0)), (qp 7448 0)]),
  qo 7450 (cv 284 [(qp 7441 0), (qi 12)]),
  qo 7457 (ct 142 [(qs 8 0x7365636976726573), (qu 0), (.slice none 0 (.exact 0)), qe, (qu 1), (.slice none 0 (.exact 0))])]
def p33 : Piece := ⟨19, [(qp 1393 0), (qs 5 0x736b72616d), (.agg [(ql 6989 0 2 (.exact 2))])], 6990, a33, (.tuple [(.agg [(ql 7457 0 2 (.tip 3))]), qt, (qi 0)]), 7459, d33⟩
theorem pb33 : Bnd p33.n p33.t := ab33
def z33 : T16 := pt a33 d33
theorem zb33 : Bnd 7459 z33 := Bnd.pt (n := 6990) (Nat.le_of_ble_eq_true (by kernel_rfl)) ab33 (by kernel_rfl)
def e34 : List (Nat × Option Obj) := [qo 6115 (.iter (some 1394) 4 [0, 1, 2, 3] (some 0) 4),
  (6967, none),
  (6968, none),
  (6969, none),
  (6970, none),
  (6972, none),
  (6973, none),
  (6974, none),
  (6975, none),
  (6979, none),
  (6988, none),
  (6989, none),
  (7457, none),
  qo 7459 (cv 76 [(ql 7460 0 2 (.exact 2))]),
  qo 7460 (ct 142 [(qs 5 0x7365646f6e), (qu 0), (.slice none 0 (.exact 0)), qe, (qu 2), (.slice none 0 (.exact 0))])]
def a34 : T16 := pt z33 e34
theorem ab34 : Bnd 7461 a34 := Bnd.pt (n := 7459) (Nat.le_of_ble_eq_true (by kernel_rfl)) zb33 (by kernel_rfl)
def d34 : List (Nat × Option Obj) := [qo 1392 (cv 194 [(qp 381 0), (qp 7879 0), (qm 1391), qz]),
  qo 1391 (.bag [((qs 7 0x100316e010000), (qi 1)), ((qs 12 0x1003177010100316e010001), (qi 1)), ((qs 18 0x1003177010100316e010100626577010101), (qi 1)), ((qs 11 0x10063010100316e010002), (qi 1)), ((qs 11 0x10064010100316e010002), (qi 1)), ((qs 21 0x10064010100316e0101003177010100316e010102), (qi 1)), ((qs 20 0x10063010100316e010100000000000000020202), (qi 1)), ((qs 20 0x10064010100316e010200000000000000020202), (qi 1)), ((qs 11 0x100736b63656863010003), (qi 1)), ((qs 10 0x1007865646e69010003), (qi 1)), ((qs 10 0x1007365646f6e010003), (qi 1)), ((qs 13 0x1007365636976726573010003), (qi 1))] 12),
  qo 7740 (ct 142 [(qs 5 0x7365646f6e), (qu 0), (.slice none 0 (.exact 0)), qe, (qu 2), (.slice none 0 (.exact 0))]),
  qo 7863 (.chan 0 [] false),
  qo 7864 (cv 361 [(.int .u32 (.ofNat 0)), (.int .i32 (.ofNat 0)), (.int .u32 (.ofNat 0)), (.chan (some 7863))]),
  qo 7865 (cv 301 [(qs 10 0x1007365646f6e010003), (ql 7740 0 2 (.tip 3)), (qp 7864 0)]),
  qo 7867 (ct 277 [(qp 1677 0), (qp 2642 0), (qp 6099 0), (qp 7875 0)]),
  qo 7868 (.chan 0 [] false),
  qo 7869 (cv 361 [(.int .u32 (.ofNat 0)), (.int .i32 (.ofNat 0)), (.int .u32 (.ofNat 0)), (.chan (some 7868))]),
  qo 7870 (cv 282 [qe, qn, (qk 7867 0 4), (qp 7869 0)]),
  qo 7872 (ct 277 [(qp 6549 0), (qp 6978 0), (qp 7878 0), (qp 7449 0)]),
  qo 7873 (.chan 0 [] false),
  qo 7874 (cv 361 [(.int .u32 (.ofNat 0)), (.int .i32 (.ofNat 0)), (.int .u32 (.ofNat 0)), (.chan (some 7873))]),
  qo 7875 (cv 282 [(qs 3 0x10003), qn, (qk 7872 0 4), (qp 7874 0)]),
  qo 7876 (.chan 0 [] false),
  qo 7877 (cv 361 [(.int .u32 (.ofNat 0)), (.int .i32 (.ofNat 0)), (.int .u32 (.ofNat 0)), (.chan (some 7876))]),
  qo 7878 (cv 282 [(qs 7 0x1007365646f6e), (qp 7865 0), (.slice none 0 (.exact 0)), (qp 7877 0)]),
  qo 7879 (cv 284 [(qp 7870 0), (qi 12)]),
  qo 7886 (ct 142 [(qs 5 0x7365646f6e), (qu 0), (.slice none 0 (.exact 0)), qe, (qu 1), (.slice none 0 (.exact 0))])]
def p34 : Piece := ⟨19, [(qp 1393 0), (qs 5 0x736b72616d), (.agg [(ql 7460 0 2 (.exact 2))])], 7461, a34, (.tuple [(.agg [(ql 7886 0 2 (.tip 3))]), qt, (qi 0)]), 7888, d34⟩
theorem pb34 : Bnd p34.n p34.t := ab34
def z34 : T16 := pt a34 d34
theorem zb34 : Bnd 7888 z34 := Bnd.pt (n := 7461) (Nat.le_of_ble_eq_true (by kernel_rfl)) ab34 (by kernel_rfl)
def e35 : List (Nat × Option Obj) := [qo 6115 (.iter (some 1394) 4 [0, 1, 2, 3] (some 1) 4),
  (6967, none),
  (6968, none),
  (6969, none),
  (6970, none),
  (6972, none),
  (6973, none),
  (6974, none),
  (6975, none),
  (6979, none),
  (6988, none),
  (6989, none),
  (7415, none),
  qo 7417 (cv 76 [(ql 7418 0 2 (.exact 2))]),
  qo 7418 (ct 142 [(qs 8 0x7365636976726573), (qu 0), (.slice none 0 (.exact 0)), qe, (qu 2), (.slice none 0 (.exact 0))])]
def a35 : T16 := pt z32 e35
theorem ab35 : Bnd 7419 a35 := Bnd.pt (n := 7417) (Nat.le_of_ble_eq_true (by kernel_rfl)) zb32 (by kernel_rfl)
def d35 : List (Nat × Option Obj) := [qo 1392 (cv 194 [(qp 381 0), (qp 7879 0), (qm 1391), qz]),
  qo 1391 (.bag [((qs 7 0x100316e010000), (qi 1)), ((qs 12 0x1003177010100316e010001), (qi 1)), ((qs 18 0x1003177010100316e010100626577010101), (qi 1)), ((qs 11 0x10063010100316e010002), (qi 1)), ((qs 11 0x10064010100316e010002), (qi 1)), ((qs 21 0x10064010100316e0101003177010100316e010102), (qi 1)), ((qs 20 0x10063010100316e010100000000000000020202), (qi 1)), ((qs 20 0x10064010100316e010200000000000000020202), (qi 1)), ((qs 11 0x100736b63656863010003), (qi 1)), ((qs 10 0x1007865646e69010003), (qi 1)), ((qs 10 0x1007365646f6e010003), (qi 1)), ((qs 13 0x1007365636976726573010003), (qi 1))] 12),
  qo 7728 (ct 142 [(qs 8 0x7365636976726573), (qu 0), (.slice none 0 (.exact 0)), qe, (qu 2), (.slice none 0 (.exact 0))]),
  qo 7863 (.chan 0 [] false),
  qo 7864 (cv 361 [(.int .u32 (.ofNat 0)), (.int .i32 (.ofNat 0)), (.int .u32 (.ofNat 0)), (.chan (some 7863))]),
  qo 7865 (cv 301 [(qs 13 0x1007365636976726573010003), (ql 7728 0 2 (.tip 3)), (qp 7864 0)]),
  qo 7867 (ct 277 [(qp 1677 0), (qp 2642 0), (qp 6099 0), (qp 7875 0)]),
  qo 7868 (.chan 0 [] false),
  qo 7869 (cv 361 [(.int .u32 (.ofNat 0)), (.int .i32 (.ofNat 0)), (.int .u32 (.ofNat 0)), (.chan (some 7868))]),
  qo 7870 (cv 282 [qe, qn, (qk 7867 0 4), (qp 7869 0)]),
  qo 7872 (ct 277 [(qp 6549 0), (qp 6978 0), (qp 7407 0), (qp 7878 0)]),
  qo 7873 (.chan 0 [] false),
  qo 7874 (cv 361 [(.int .u32 (.ofNat 0)), (.int .i32 (.ofNat 0)), (.int .u32 (.ofNat 0)), (.chan (some 7873))]),
  qo 7875 (cv 282 [(qs 3 0x10003), qn, (qk 7872 0 4), (qp 7874 0)]),
  qo 7876 (.chan 0 [] false),
  qo 7877 (cv 361 [(.int .u32 (.ofNat 0)), (.int .i32 (.ofNat 0)), (.int .u32 (.ofNat 0)), (.chan (some 7876))]),
  qo 7878 (cv 282 [(qs 10 0x1007365636976726573), (qp 7865 0), (.slice none 0 (.exact 0)), (qp 7877 0)]),
  qo 7879 (cv 284 [(qp 7870 0), (qi 12)]),
  qo 7886 (ct 142 [(qs 8 0x7365636976726573), (qu 0), (.slice none 0 (.exact 0)), qe, (qu 1), (.slice none 0 (.exact 0))])]
def p35 : Piece := ⟨19, [(qp 1393 0), (qs 5 0x736b72616d), (.agg [(ql 7418 0 2 (.exact 2))])], 7419, a35, (.tuple [(.agg [(ql 7886 0 2 (.tip 3))]), qt, (qi 0)]), 7888, d35⟩
theorem pb35 : Bnd p35.n p35.t := ab35
def z35 : T16 := pt a35 d35
theorem zb35 : Bnd 7888 z35 := Bnd.pt (n := 7419) (Nat.le_of_ble_eq_true (by kernel_rfl)) ab35 (by kernel_rfl)
def e36 : List (Nat × Option Obj) := [qo 6115 (.iter (some 1394) 4 [0, 1, 2, 3] (some 3) 4),
  (7009, none),
  (7010, none),
  (7011, none),
  (7012, none),
  (7014, none),
  (7015, none),
  (7016, none),
  (7017, none),
  (7021, none),
  (7030, none),
  (7031, none),
  (7457, none),
  qo 7459 (cv 76 [(ql 7460 0 2 (.exact 2))]),
  qo 7460 (ct 142 [(qs 5 0x7865646e69), (qu 0), (.slice none 0 (.exact 0)), qe, (qu 2), (.slice none 0 (.exact 0))])]
def a36 : T16 := pt z30 e36
theorem ab36 : Bnd 7461 a36 := Bnd.pt (n := 7459) (Nat.le_of_ble_eq_true (by kernel_rfl)) zb30 (by kernel_rfl)
def d36 : List (Nat × Option Obj) := [qo 1392 (cv 194 [(qp 381 0), (qp 7879 0), (qm 1391), qz]),
  qo 1391 (.bag [((qs 7 0x100316e010000), (qi 1)), ((qs 12 0x1003177010100316e010001), (qi 1)), ((qs 18 0x1003177010100316e010100626577010101), (qi 1)), ((qs 11 0x10063010100316e010002), (qi 1)), ((qs 11 0x10064010100316e010002), (qi 1)), ((qs 21 0x10064010100316e0101003177010100316e010102), (qi 1)), ((qs 20 0x10063010100316e010100000000000000020202), (qi 1)), ((qs 20 0x10064010100316e010200000000000000020202), (qi 1)), ((qs 11 0x100736b63656863010003), (qi 1)), ((qs 10 0x1007865646e69010003), (qi 1)), ((qs 10 0x1007365646f6e010003), (qi 1)), ((qs 13 0x1007365636976726573010003), (qi 1))] 12),
  qo 7740 (ct 142 [(qs 5 0x7865646e69), (qu 0), (.slice none 0 (.exact 0)), qe, (qu 2), (.slice none 0 (.exact 0))]),
  qo 7863 (.chan 0 [] false),
  qo 7864 (cv 361 [(.int .u32 (.ofNat 0)), (.int .i32 (.ofNat 0)), (.int .u32 (.ofNat 0)), (.chan (some 7863))]),
  qo 7865 (cv 301 [(qs 10 0x1007865646e69010003), (ql 7740 0 2 (.tip 3)), (qp 7864 0)]),
  qo 7867 (ct 277 [(qp 1677 0), (qp 2642 0), (qp 6099 0), (qp 7875 0)]),
  qo 7868 (.chan 0 [] false),
  qo 7869 (cv 361 [(.int .u32 (.ofNat 0)), (.int .i32 (.ofNat 0)), (.int .u32 (.ofNat 0)), (.chan (some 7868))]),
  qo 7870 (cv 282 [qe, qn, (qk 7867 0 4), (qp 7869 0)]),
  qo 7872 (ct 277 [(qp 7020 0), (qp 7878 0), (qp 7449 0), (qp 6577 0)]),
  qo 7873 (.chan 0 [] false),
  qo 7874 (cv 361 [(.int .u32 (.ofNat 0)), (.int .i32 (.ofNat 0)), (.int .u32 (.ofNat 0)), (.chan (some 7873))]),
  qo 7875 (cv 282 [(qs 3 0x10003), qn, (qk 7872 0 4), (qp 7874 0)]),
  qo 7876 (.chan 0 [] false),
  qo 7877 (cv 361 [(.int .u32 (.ofNat 0)), (.int .i32 (.ofNat 0)), (.int .u32 (.ofNat 0)), (.chan (some 7876))]),
  qo 7878 (cv 282 [(qs 7 0x1007865646e69), (qp 7865 0), (.slice none 0 (.exact 0)), (qp 7877 0)]),
  qo 7879 (cv 284 [(qp 7870 0), (qi 12)]),
  qo 7886 (ct 142 [(qs 5 0x7865646e69), (qu 0), (.slice none 0 (.exact 0)), qe, (qu 1), (.slice none 0 (.exact 0))])]
def p36 : Piece := ⟨19, [(qp 1393 0), (qs 5 0x736b72616d), (.agg [(ql 7460 0 2 (.exact 2))])], 7461, a36, (.tuple [(.agg [(ql 7886 0 2 (.tip 3))]), qt, (qi 0)]), 7888, d36⟩
theorem pb36 : Bnd p36.n p36.t := ab36
def z36 : T16 := pt a36 d36
theorem zb36 : Bnd 7888 z36 := Bnd.pt (n := 7461) (Nat.le_of_ble_eq_true (by kernel_rfl)) ab36 (by kernel_rfl)
def e37 : List (Nat × Option Obj) := [qo 6115 (.iter (some 1394) 4 [0, 1, 2, 3] (some 2) 4),
  (6995, none),
  (6996, none),
  (6997, none),
  (6998, none),
  (7000, none),
  (7001, none),
  (7002, none),
  (7003, none),
  (7007, none),
  (7016, none),
  (7017, none),
  (7443, none),
  qo 7445 (cv 76 [(ql 7446 0 2 (.exact 2))]),
  qo 7446 (ct 142 [(qs 6 0x736b63656863), (qu 0), (.slice none 0 (.exact 0)), qe, (qu 2), (.slice none 0 (.exact 0))])]
def a37 : T16 := pt z28 e37
theorem ab37 : Bnd 7447 a37 := Bnd.pt (n := 7445) (Nat.le_of_ble_eq_true (by kernel_rfl)) zb28 (by kernel_rfl)
def d37 : List (Nat × Option Obj) := [qo 1392 (cv 194 [(qp 381 0), (qp 7879 0), (qm 1391), qz]),
  qo 1391 (.bag [((qs 7 0x100316e010000), (qi 1)), ((qs 12 0x1003177010100316e010001), (qi 1)), ((qs 18 0x1003177010100316e010100626577010101), (qi 1)), ((qs 11 0x10063010100316e010002), (qi 1)), ((qs 11 0x10064010100316e010002), (qi 1)), ((qs 21 0x10064010100316e0101003177010100316e010102), (qi 1)), ((qs 20 0x10063010100316e010100000000000000020202), (qi 1)), ((qs 20 0x10064010100316e010200000000000000020202), (qi 1)), ((qs 11 0x100736b63656863010003), (qi 1)), ((qs 10 0x1007865646e69010003), (qi 1)), ((qs 10 0x1007365646f6e010003), (qi 1)), ((qs 13 0x1007365636976726573010003), (qi 1))] 12),
  qo 7736 (ct 142 [(qs 6 0x736b63656863), (qu 0), (.slice none 0 (.exact 0)), qe, (qu 2), (.slice none 0 (.exact 0))]),
  qo 7863 (.chan 0 [] false),
  qo 7864 (cv 361 [(.int .u32 (.ofNat 0)), (.int .i32 (.ofNat 0)), (.int .u32 (.ofNat 0)), (.chan (some 7863))]),
  qo 7865 (cv 301 [(qs 11 0x100736b63656863010003), (ql 7736 0 2 (.tip 3)), (qp 7864 0)]),
  qo 7867 (ct 277 [(qp 1677 0), (qp 2642 0), (qp 6099 0), (qp 7875 0)]),
  qo 7868 (.chan 0 [] false),
  qo 7869 (cv 361 [(.int .u32 (.ofNat 0)), (.int .i32 (.ofNat 0)), (.int .u32 (.ofNat 0)), (.chan (some 7868))]),
  qo 7870 (cv 282 [qe, qn, (qk 7867 0 4), (qp 7869 0)]),
  qo 7872 (ct 277 [(qp 7878 0), (qp 7006 0), (qp 7435 0), (qp 6577 0)]),
  qo 7873 (.chan 0 [] false),
  qo 7874 (cv 361 [(.int .u32 (.ofNat 0)), (.int .i32 (.ofNat 0)), (.int .u32 (.ofNat 0)), (.chan (some 7873))]),
  qo 7875 (cv 282 [(qs 3 0x10003), qn, (qk 7872 0 4), (qp 7874 0)]),
  qo 7876 (.chan 0 [] false),
  qo 7877 (cv 361 [(.int .u32 (.ofNat 0)), (.int .i32 (.ofNat 0)), (.int .u32 (.ofNat 0)), (.chan (some 7876))]),
  qo 7878 (cv 282 [(qs 8 0x100736b63656863), (qp 7865 0), (.slice none 0 (.exact 0)), (qp 7877 0)]),
  qo 7879 (cv 284 [(qp 7870 0), (qi 12)]),
  qo 7886 (ct 142 [(qs 6 0x736b63656863), (qu 0), (.slice none 0 (.exact 0)), qe, (qu 1), (.slice none 0 (.exact 0))])]
def p37 : Piece := ⟨19, [(qp 1393 0), (qs 5 0x736b72616d), (.agg [(ql 7446 0 2 (.exact 2))])], 7447, a37, (.tuple [(.agg [(ql 7886 0 2 (.tip 3))]), qt, (qi 0)]), 7888, d37⟩
theorem pb37 : Bnd p37.n p37.t := ab37
def z37 : T16 := pt a37 d37
theorem zb37 : Bnd 7888 z37 := Bnd.pt (n := 7447) (Nat.le_of_ble_eq_true (by kernel_rfl)) ab37 (by kernel_rfl)
end Go.Am.HSt
