/- The memories at which a run is cut (printed by wip/tools/nm/Gen). -/
import Derived.Test.YteoekjfgihnhaaaGreatDoorHmGRB31
import Derived.Test.YteoekjfgihnhaaaGreatDoorHmCutN
set_option linter.all false
noncomputable section
namespace Go.Am.NSt
open Go.RowKit Go.Proofs

theorem hb0 : Bnd 10 hHeap.tr := fun i hi => by
  show (T16.put .leaf 1 (some kindsO)).get i = none
  rw [T16.get_put_ne _ (by omega)]
  exact T16.get_leaf i
def d1 : List (Nat × Option Obj) := [qo 10 (cv 100 [(.int .i32 (.ofNat 0)), (.int .u32 (.ofNat 0)), (qp 388 0)]),
  qo 54 (ct 262 [(qs 4 0x656d616e), (qi 1), (qs 4 0x72646461), (qi 1), (qs 4 0x6564616d), (qi 2), (qs 7 0x6465676e616863), (qi 2)]),
  qo 73 (ct 3 [(qi 0)]),
  qo 75 (ct 189 [(qs 2 0x6469), (qk 73 0 1), qt, qz, qz]),
  qo 137 (ct 262 [(qs 4 0x65646f6e), (qi 1), (qs 2 0x6469), (qi 1), (qs 4 0x656d616e), (qi 1), (qs 4 0x74726f70), (qi 2), (qs 4 0x73676174), (qi 3), (qs 4 0x6564616d), (qi 2), (qs 7 0x6465676e616863), (qi 2)]),
  qo 164 (ct 3 [(qi 0), (qi 1)]),
  qo 188 (ct 3 [(qi 2)]),
  qo 190 (ct 189 [(qs 2 0x6469), (qk 164 0 2), qt, qz, qz, (qs 4 0x656d616e), (qk 188 0 1), qz, qz, qz]),
  qo 253 (ct 262 [(qs 4 0x65646f6e), (qi 1), (qs 2 0x6469), (qi 1), (qs 7 0x65636976726573), (qi 1), (qs 6 0x737574617473), (qi 2), (qs 4 0x65746f6e), (qi 1), (qs 4 0x6564616d), (qi 2), (qs 7 0x6465676e616863), (qi 2)]),
  qo 280 (ct 3 [(qi 0), (qi 1)]),
  qo 311 (ct 3 [(qi 0), (qi 2)]),
  qo 337 (ct 3 [(qi 3)]),
  qo 339 (ct 189 [(qs 2 0x6469), (qk 280 0 2), qt, qz, qz, (qs 7 0x65636976726573), (qk 311 0 2), qz, qz, qt, (qs 6 0x737574617473), (qk 337 0 1), qz, qz, qz]),
  qo 347 (ct 174 [(qs 5 0x7365646f6e), (ql 54 0 4 (.tip 2)), (ql 75 0 1 (.tip 5)), (qs 8 0x7365636976726573), (ql 137 0 7 (.tip 2)), (ql 190 0 2 (.tip 5)), (qs 6 0x736b63656863), (ql 253 0 7 (.tip 2)), (ql 339 0 3 (.tip 5)), (qs 5 0x736b72616d), (ql 358 0 2 (.tip 2)), (ql 379 0 1 (.tip 5))]),
  qo 358 (ct 262 [(qs 5 0x656c626174), (qi 1), (qs 5 0x65756c6176), (qi 2)]),
  qo 377 (ct 3 [(qi 0)]),
  qo 379 (ct 189 [(qs 2 0x6469), (qk 377 0 1), qt, qz, qz]),
  qo 381 (.map [((qs 5 0x7365646f6e), (qi 0), 0), ((qs 8 0x7365636976726573), (qi 1), 1), ((qs 6 0x736b63656863), (qi 2), 2), ((qs 5 0x736b72616d), (qi 3), 3)] 4),
  qo 382 (cv 248 [(qp 1275 0), (.int .i32 (.ofNat 0)), (.int .u32 (.ofNat 0))]),
  qo 388 (cv 170 [(ql 347 0 4 (.tip 3)), (qm 381), (qp 382 0)]),
  qo 572 (ct 196 [(qs 5 0x7365646f6e), (qu 0), (.slice none 0 (.exact 0)), qe, (qu 1), (.slice none 0 (.exact 0))]),
  qo 588 (.chan 0 [] false),
  qo 589 (cv 341 [(.int .u32 (.ofNat 0)), (.int .i32 (.ofNat 0)), (.int .u32 (.ofNat 0)), (.chan (some 588))]),
  qo 590 (cv 382 [(qs 10 0x1007365646f6e010003), (ql 572 0 2 (.tip 3)), (qp 589 0)]),
  qo 594 (.chan 0 [] false),
  qo 595 (cv 341 [(.int .u32 (.ofNat 0)), (.int .i32 (.ofNat 0)), (.int .u32 (.ofNat 0)), (.chan (some 594))]),
  qo 798 (ct 196 [(qs 8 0x7365636976726573), (qu 0), (.slice none 0 (.exact 0)), qe, (qu 1), (.slice none 0 (.exact 0))]),
  qo 814 (.chan 0 [] false),
  qo 815 (cv 341 [(.int .u32 (.ofNat 0)), (.int .i32 (.ofNat 0)), (.int .u32 (.ofNat 0)), (.chan (some 814))]),
  qo 816 (cv 382 [(qs 13 0x1007365636976726573010003), (ql 798 0 2 (.tip 3)), (qp 815 0)]),
  qo 822 (cv 364 [(qs 7 0x1007365646f6e), (qp 590 0), (.slice none 0 (.exact 0)), (qp 595 0)]),
  qo 827 (.chan 0 [] false),
  qo 828 (cv 341 [(.int .u32 (.ofNat 0)), (.int .i32 (.ofNat 0)), (.int .u32 (.ofNat 0)), (.chan (some 827))]),
  qo 829 (cv 364 [(qs 10 0x1007365636976726573), (qp 816 0), (.slice none 0 (.exact 0)), (qp 828 0)]),
  qo 1019 (ct 196 [(qs 6 0x736b63656863), (qu 0), (.slice none 0 (.exact 0)), qe, (qu 1), (.slice none 0 (.exact 0))]),
  qo 1035 (.chan 0 [] false),
  qo 1036 (cv 341 [(.int .u32 (.ofNat 0)), (.int .i32 (.ofNat 0)), (.int .u32 (.ofNat 0)), (.chan (some 1035))]),
  qo 1037 (cv 382 [(qs 11 0x100736b63656863010003), (ql 1019 0 2 (.tip 3)), (qp 1036 0)]),
  qo 1048 (.chan 0 [] false),
  qo 1049 (cv 341 [(.int .u32 (.ofNat 0)), (.int .i32 (.ofNat 0)), (.int .u32 (.ofNat 0)), (.chan (some 1048))]),
  qo 1050 (cv 364 [(qs 8 0x100736b63656863), (qp 1037 0), (.slice none 0 (.exact 0)), (qp 1049 0)]),
  qo 1234 (ct 196 [(qs 5 0x7865646e69), (qu 0), (.slice none 0 (.exact 0)), qe, (qu 1), (.slice none 0 (.exact 0))]),
  qo 1250 (.chan 0 [] false),
  qo 1251 (cv 341 [(.int .u32 (.ofNat 0)), (.int .i32 (.ofNat 0)), (.int .u32 (.ofNat 0)), (.chan (some 1250))]),
  qo 1252 (cv 382 [(qs 10 0x1007865646e69010003), (ql 1234 0 2 (.tip 3)), (qp 1251 0)]),
  qo 1254 (ct 359 [(qp 1262 0)]),
  qo 1255 (.chan 0 [] false),
  qo 1256 (cv 341 [(.int .u32 (.ofNat 0)), (.int .i32 (.ofNat 0)), (.int .u32 (.ofNat 0)), (.chan (some 1255))]),
  qo 1257 (cv 364 [qe, qn, (qk 1254 0 1), (qp 1256 0)]),
  qo 1260 (.chan 0 [] false),
  qo 1261 (cv 341 [(.int .u32 (.ofNat 0)), (.int .i32 (.ofNat 0)), (.int .u32 (.ofNat 0)), (.chan (some 1260))]),
  qo 1262 (cv 364 [(qs 3 0x10003), qn, (qk 1267 0 4), (qp 1261 0)]),
  qo 1263 (.chan 0 [] false),
  qo 1264 (cv 341 [(.int .u32 (.ofNat 0)), (.int .i32 (.ofNat 0)), (.int .u32 (.ofNat 0)), (.chan (some 1263))]),
  qo 1265 (cv 364 [(qs 7 0x1007865646e69), (qp 1252 0), (.slice none 0 (.exact 0)), (qp 1264 0)]),
  qo 1267 (co [(qp 1050 0), (qp 1265 0), (qp 822 0), (qp 829 0)]),
  qo 1268 (cv 366 [(qp 1257 0), (qi 4)]),
  qo 1275 (cv 251 [(qp 1268 0), (qu 1)])]
def p1 : Piece := ⟨15, [(qu 1)], 10, hHeap.tr, (qp 10 0), 1290, d1⟩
theorem pb1 : Bnd p1.n p1.t := hb0
def z1 : T16 := pt hHeap.tr d1
theorem zb1 : Bnd 1290 z1 := Bnd.pt (n := 10) (Nat.le_of_ble_eq_true (by kernel_rfl)) hb0 (by kernel_rfl)
def e2 : List (Nat × Option Obj) := [qo 10 (cv 100 [(.int .i32 (.ofNat 1)), (.int .u32 (.ofNat 0)), (qp 388 0)]),
  qo 382 (cv 248 [(qp 1275 0), (.int .i32 (.ofNat 1)), (.int .u32 (.ofNat 0))]),
  qo 1290 (ct 9 [(qs 1 0x78)]),
  qo 1291 (ct 127 [(qi 1), (qs 2 0x316e), (qs 8 0x312e302e302e3031), (qu 0), (qu 0), qe, qe, qe, (qi 0), (.slice none 0 (.exact 0)), (qu 0), (qu 0), qe, qe, qe, (qi 0), qe, (qu 0), (qu 0), qz, (qu 0), (qi 2), qe, qe, (qu 0), (qu 0), (qs 2 0x316e), (qs 1 0x77), (qs 3 0x626577), (qi 80), (ql 1290 0 1 (.exact 1)), (qu 0), (qu 0), qe, qe, qe, (qi 0), qe, (qu 0), (qu 0), qz, (qu 0)]),
  qo 1292 (cv 46 [(qu 0), qz, (qi 0), (qi 0)]),
  qo 1293 (cv 201 [(ql 347 0 4 (.tip 3)), (qm 381), (qp 1268 0), (qu 1), qz]),
  qo 1294 (cv 133 [(qp 1293 0)]),
  qo 1296 (ct 292 [(qi 1), (qs 5 0x7865646e69), (qu 0)]),
  qo 1389 (ct 196 [(qs 5 0x7865646e69), (qu 0), (.slice none 0 (.exact 0)), qe, (qu 1), (.slice none 0 (.exact 0))]),
  qo 1391 (cv 110 [(ql 1389 0 2 (.tip 3))]),
  qo 1392 (.map [] 0),
  qo 1393 (cv 258 [(qp 382 0), (qp 1268 0), (qm 1392), qz]),
  qo 1394 (cv 180 [(ql 347 0 4 (.tip 3)), (qm 381), (qp 1393 0), (qu 1)]),
  qo 1395 (.map [] 0),
  qo 1396 (cv 119 [(qp 1394 0), (qu 2), (qm 1395)]),
  qo 1397 (cv 127 [(qi 1), (qs 2 0x316e), (qs 8 0x312e302e302e3031), (qu 0), (qu 0), qe, qe, qe, (qi 0), (.slice none 0 (.exact 0)), (qu 0), (qu 0), qe, qe, qe, (qi 0), qe, (qu 0), (qu 0), qz, (qu 0)])]
def a2 : T16 := pt z1 e2
theorem ab2 : Bnd 1398 a2 := Bnd.pt (n := 1290) (Nat.le_of_ble_eq_true (by kernel_rfl)) zb1 (by kernel_rfl)
def d2 : List (Nat × Option Obj) := [qo 1395 (.map [((qs 5 0x7365646f6e), (qu 2), 0)] 1),
  qo 1393 (cv 258 [(qp 382 0), (qp 1681 0), (qm 1392), qz]),
  qo 1392 (.map [((qs 7 0x100316e010000), (qi 1), 0)] 1),
  qo 1652 (ct 196 [(qs 2 0x316e), (qu 0), (.slice none 0 (.exact 0)), (qs 8 0x312e302e302e3031), (qu 0), (.slice none 0 (.exact 0)), qe, (qu 2), (.slice none 0 (.exact 0)), qe, (qu 2), (.slice none 0 (.exact 0))]),
  qo 1668 (.chan 0 [] false),
  qo 1669 (cv 341 [(.int .u32 (.ofNat 0)), (.int .i32 (.ofNat 0)), (.int .u32 (.ofNat 0)), (.chan (some 1668))]),
  qo 1670 (cv 382 [(qs 7 0x100316e010000), (ql 1652 0 4 (.tip 3)), (qp 1669 0)]),
  qo 1673 (.chan 0 [] false),
  qo 1674 (cv 341 [(.int .u32 (.ofNat 0)), (.int .i32 (.ofNat 0)), (.int .u32 (.ofNat 0)), (.chan (some 1673))]),
  qo 1675 (cv 364 [qe, qn, (qk 1680 0 2), (qp 1674 0)]),
  qo 1676 (.chan 0 [] false),
  qo 1677 (cv 341 [(.int .u32 (.ofNat 0)), (.int .i32 (.ofNat 0)), (.int .u32 (.ofNat 0)), (.chan (some 1676))]),
  qo 1678 (cv 364 [(qs 7 0x100316e010000), (qp 1670 0), (.slice none 0 (.exact 0)), (qp 1677 0)]),
  qo 1680 (co [(qp 1678 0), (qp 1262 0)]),
  qo 1681 (cv 366 [(qp 1675 0), (qi 5)])]
def p2 : Piece := ⟨45, [(qp 1396 0), (.agg [(qi 1), (qs 2 0x316e), (qs 8 0x312e302e302e3031), (qu 0), (qu 0), qe, qe, qe, (qi 0), (.slice none 0 (.exact 0)), (qu 0), (qu 0), qe, qe, qe, (qi 0), qe, (qu 0), (qu 0), qz, (qu 0)])], 1398, a2, (qi 0), 1686, d2⟩
theorem pb2 : Bnd p2.n p2.t := ab2
def z2 : T16 := pt a2 d2
theorem zb2 : Bnd 1686 z2 := Bnd.pt (n := 1398) (Nat.le_of_ble_eq_true (by kernel_rfl)) ab2 (by kernel_rfl)
def e3 : List (Nat × Option Obj) := [qo 1686 (cv 127 [(qi 2), qe, qe, (qu 0), (qu 0), (qs 2 0x316e), (qs 1 0x77), (qs 3 0x626577), (qi 80), (ql 1290 0 1 (.exact 1)), (qu 0), (qu 0), qe, qe, qe, (qi 0), qe, (qu 0), (qu 0), qz, (qu 0)])]
def a3 : T16 := pt z2 e3
theorem ab3 : Bnd 1687 a3 := Bnd.pt (n := 1686) (Nat.le_of_ble_eq_true (by kernel_rfl)) zb2 (by kernel_rfl)
def d3 : List (Nat × Option Obj) := [qo 1395 (.map [((qs 5 0x7365646f6e), (qu 2), 0), ((qs 8 0x7365636976726573), (qu 2), 1)] 2),
  qo 1393 (cv 258 [(qp 382 0), (qp 2631 0), (qm 1392), qz]),
  qo 1392 (.map [((qs 7 0x100316e010000), (qi 1), 0), ((qs 11 0x10077010100316e010001), (qi 1), 1), ((qs 17 0x10077010100316e010100626577010101), (qi 1), 2)] 3),
  qo 2572 (ct 196 [(qs 2 0x316e), (qu 0), (.slice none 0 (.exact 0)), (qs 1 0x77), (qu 0), (.slice none 0 (.exact 0)), (qs 3 0x626577), (qu 0), (.slice none 0 (.exact 0)), qe, (qu 80), (.slice none 0 (.exact 0)), qe, (qu 0), (qk 2575 0 1), qe, (qu 2), (.slice none 0 (.exact 0)), qe, (qu 2), (.slice none 0 (.exact 0))]),
  qo 2575 (ct 9 [(qs 1 0x78)]),
  qo 2590 (.chan 0 [] false),
  qo 2591 (cv 341 [(.int .u32 (.ofNat 0)), (.int .i32 (.ofNat 0)), (.int .u32 (.ofNat 0)), (.chan (some 2590))]),
  qo 2592 (cv 382 [(qs 11 0x10077010100316e010001), (ql 2572 0 7 (.tip 3)), (qp 2591 0)]),
  qo 2598 (.chan 0 [] false),
  qo 2599 (cv 341 [(.int .u32 (.ofNat 0)), (.int .i32 (.ofNat 0)), (.int .u32 (.ofNat 0)), (.chan (some 2598))]),
  qo 2613 (.chan 0 [] false),
  qo 2614 (cv 341 [(.int .u32 (.ofNat 0)), (.int .i32 (.ofNat 0)), (.int .u32 (.ofNat 0)), (.chan (some 2613))]),
  qo 2615 (cv 382 [(qs 17 0x10077010100316e010100626577010101), (ql 2572 0 7 (.tip 3)), (qp 2614 0)]),
  qo 2617 (ct 359 [(qp 1678 0), (qp 2625 0), (qp 1262 0)]),
  qo 2618 (.chan 0 [] false),
  qo 2619 (cv 341 [(.int .u32 (.ofNat 0)), (.int .i32 (.ofNat 0)), (.int .u32 (.ofNat 0)), (.chan (some 2618))]),
  qo 2620 (cv 364 [qe, qn, (qk 2617 0 3), (qp 2619 0)]),
  qo 2621 (cv 364 [(qs 10 0x10077010100316e0100), (qp 2592 0), (.slice none 0 (.exact 0)), (qp 2599 0)]),
  qo 2623 (.chan 0 [] false),
  qo 2624 (cv 341 [(.int .u32 (.ofNat 0)), (.int .i32 (.ofNat 0)), (.int .u32 (.ofNat 0)), (.chan (some 2623))]),
  qo 2625 (cv 364 [(qs 1 0x1), qn, (qk 2630 0 2), (qp 2624 0)]),
  qo 2626 (.chan 0 [] false),
  qo 2627 (cv 341 [(.int .u32 (.ofNat 0)), (.int .i32 (.ofNat 0)), (.int .u32 (.ofNat 0)), (.chan (some 2626))]),
  qo 2628 (cv 364 [(qs 16 0x10077010100316e0101006265770101), (qp 2615 0), (.slice none 0 (.exact 0)), (qp 2627 0)]),
  qo 2630 (ct 359 [(qp 2621 0), (qp 2628 0)]),
  qo 2631 (cv 366 [(qp 2620 0), (qi 7)])]
def p3 : Piece := ⟨45, [(qp 1396 0), (.agg [(qi 2), qe, qe, (qu 0), (qu 0), (qs 2 0x316e), (qs 1 0x77), (qs 3 0x626577), (qi 80), (ql 1290 0 1 (.exact 1)), (qu 0), (qu 0), qe, qe, qe, (qi 0), qe, (qu 0), (qu 0), qz, (qu 0)])], 1687, a3, (qi 0), 2636, d3⟩
theorem pb3 : Bnd p3.n p3.t := ab3
def z3 : T16 := pt a3 d3
theorem zb3 : Bnd 2636 z3 := Bnd.pt (n := 1687) (Nat.le_of_ble_eq_true (by kernel_rfl)) ab3 (by kernel_rfl)
def e4 : List (Nat × Option Obj) := [qo 1395 (.map [((qs 5 0x7365646f6e), (qu 2), 0), ((qs 8 0x7365636976726573), (qu 2), 1), ((qs 5 0x7865646e69), (qu 2), 2)] 3),
  qo 2636 (.iter (some 1395) 3 [0] (some 0) 3),
  qo 2637 (cv 110 [(ql 2638 0 2 (.exact 2))]),
  qo 2638 (ct 196 [(qs 5 0x7365646f6e), (qu 0), (.slice none 0 (.exact 0)), qe, (qu 2), (.slice none 0 (.exact 0))])]
def a4 : T16 := pt z3 e4
theorem ab4 : Bnd 2639 a4 := Bnd.pt (n := 2636) (Nat.le_of_ble_eq_true (by kernel_rfl)) zb3 (by kernel_rfl)
def d4 : List (Nat × Option Obj) := [qo 1393 (cv 258 [(qp 382 0), (qp 3057 0), (qm 1392), qz]),
  qo 1392 (.map [((qs 7 0x100316e010000), (qi 1), 0), ((qs 11 0x10077010100316e010001), (qi 1), 1), ((qs 17 0x10077010100316e010100626577010101), (qi 1), 2), ((qs 10 0x1007365646f6e010003), (qi 1), 3)] 4),
  qo 2918 (ct 196 [(qs 5 0x7365646f6e), (qu 0), (.slice none 0 (.exact 0)), qe, (qu 2), (.slice none 0 (.exact 0))]),
  qo 3041 (.chan 0 [] false),
  qo 3042 (cv 341 [(.int .u32 (.ofNat 0)), (.int .i32 (.ofNat 0)), (.int .u32 (.ofNat 0)), (.chan (some 3041))]),
  qo 3043 (cv 382 [(qs 10 0x1007365646f6e010003), (ql 2918 0 2 (.tip 3)), (qp 3042 0)]),
  qo 3045 (ct 359 [(qp 1678 0), (qp 2625 0), (qp 3053 0)]),
  qo 3046 (.chan 0 [] false),
  qo 3047 (cv 341 [(.int .u32 (.ofNat 0)), (.int .i32 (.ofNat 0)), (.int .u32 (.ofNat 0)), (.chan (some 3046))]),
  qo 3048 (cv 364 [qe, qn, (qk 3045 0 3), (qp 3047 0)]),
  qo 3050 (ct 359 [(qp 1050 0), (qp 1265 0), (qp 3056 0), (qp 829 0)]),
  qo 3051 (.chan 0 [] false),
  qo 3052 (cv 341 [(.int .u32 (.ofNat 0)), (.int .i32 (.ofNat 0)), (.int .u32 (.ofNat 0)), (.chan (some 3051))]),
  qo 3053 (cv 364 [(qs 3 0x10003), qn, (qk 3050 0 4), (qp 3052 0)]),
  qo 3054 (.chan 0 [] false),
  qo 3055 (cv 341 [(.int .u32 (.ofNat 0)), (.int .i32 (.ofNat 0)), (.int .u32 (.ofNat 0)), (.chan (some 3054))]),
  qo 3056 (cv 364 [(qs 7 0x1007365646f6e), (qp 3043 0), (.slice none 0 (.exact 0)), (qp 3055 0)]),
  qo 3057 (cv 366 [(qp 3048 0), (qi 7)]),
  qo 3064 (ct 196 [(qs 5 0x7365646f6e), (qu 0), (.slice none 0 (.exact 0)), qe, (qu 1), (.slice none 0 (.exact 0))])]
def p4 : Piece := ⟨39, [(qp 1394 0), (qs 5 0x736b72616d), (.agg [(ql 2638 0 2 (.exact 2))])], 2639, a4, (.tuple [(.agg [(ql 3064 0 2 (.tip 3))]), qt, (qi 0)]), 3066, d4⟩
theorem pb4 : Bnd p4.n p4.t := ab4
def z4 : T16 := pt a4 d4
theorem zb4 : Bnd 3066 z4 := Bnd.pt (n := 2639) (Nat.le_of_ble_eq_true (by kernel_rfl)) ab4 (by kernel_rfl)
def e5 : List (Nat × Option Obj) := [qo 2636 (.iter (some 1395) 3 [1] (some 1) 3),
  qo 2638 (ct 196 [(qs 8 0x7365636976726573), (qu 0), (.slice none 0 (.exact 0)), qe, (qu 2), (.slice none 0 (.exact 0))])]
def a5 : T16 := pt a4 e5
theorem ab5 : Bnd 2639 a5 := Bnd.pt (n := 2639) (Nat.le_of_ble_eq_true (by kernel_rfl)) ab4 (by kernel_rfl)
def d5 : List (Nat × Option Obj) := [qo 1393 (cv 258 [(qp 382 0), (qp 3099 0), (qm 1392), qz]),
  qo 1392 (.map [((qs 7 0x100316e010000), (qi 1), 0), ((qs 11 0x10077010100316e010001), (qi 1), 1), ((qs 17 0x10077010100316e010100626577010101), (qi 1), 2), ((qs 13 0x1007365636976726573010003), (qi 1), 3)] 4),
  qo 2948 (ct 196 [(qs 8 0x7365636976726573), (qu 0), (.slice none 0 (.exact 0)), qe, (qu 2), (.slice none 0 (.exact 0))]),
  qo 3083 (.chan 0 [] false),
  qo 3084 (cv 341 [(.int .u32 (.ofNat 0)), (.int .i32 (.ofNat 0)), (.int .u32 (.ofNat 0)), (.chan (some 3083))]),
  qo 3085 (cv 382 [(qs 13 0x1007365636976726573010003), (ql 2948 0 2 (.tip 3)), (qp 3084 0)]),
  qo 3087 (ct 359 [(qp 1678 0), (qp 2625 0), (qp 3095 0)]),
  qo 3088 (.chan 0 [] false),
  qo 3089 (cv 341 [(.int .u32 (.ofNat 0)), (.int .i32 (.ofNat 0)), (.int .u32 (.ofNat 0)), (.chan (some 3088))]),
  qo 3090 (cv 364 [qe, qn, (qk 3087 0 3), (qp 3089 0)]),
  qo 3092 (ct 359 [(qp 1050 0), (qp 1265 0), (qp 822 0), (qp 3098 0)]),
  qo 3093 (.chan 0 [] false),
  qo 3094 (cv 341 [(.int .u32 (.ofNat 0)), (.int .i32 (.ofNat 0)), (.int .u32 (.ofNat 0)), (.chan (some 3093))]),
  qo 3095 (cv 364 [(qs 3 0x10003), qn, (qk 3092 0 4), (qp 3094 0)]),
  qo 3096 (.chan 0 [] false),
  qo 3097 (cv 341 [(.int .u32 (.ofNat 0)), (.int .i32 (.ofNat 0)), (.int .u32 (.ofNat 0)), (.chan (some 3096))]),
  qo 3098 (cv 364 [(qs 10 0x1007365636976726573), (qp 3085 0), (.slice none 0 (.exact 0)), (qp 3097 0)]),
  qo 3099 (cv 366 [(qp 3090 0), (qi 7)]),
  qo 3106 (ct 196 [(qs 8 0x7365636976726573), (qu 0), (.slice none 0 (.exact 0)), qe, (qu 1), (.slice none 0 (.exact 0))])]
def p5 : Piece := ⟨39, [(qp 1394 0), (qs 5 0x736b72616d), (.agg [(ql 2638 0 2 (.exact 2))])], 2639, a5, (.tuple [(.agg [(ql 3106 0 2 (.tip 3))]), qt, (qi 0)]), 3108, d5⟩
theorem pb5 : Bnd p5.n p5.t := ab5
def z5 : T16 := pt a5 d5
theorem zb5 : Bnd 3108 z5 := Bnd.pt (n := 2639) (Nat.le_of_ble_eq_true (by kernel_rfl)) ab5 (by kernel_rfl)
def e6 : List (Nat × Option Obj) := [qo 2636 (.iter (some 1395) 3 [2] (some 2) 3),
  qo 2638 (ct 196 [(qs 5 0x7865646e69), (qu 0), (.slice none 0 (.exact 0)), qe, (qu 2), (.slice none 0 (.exact 0))])]
def a6 : T16 := pt a4 e6
theorem ab6 : Bnd 2639 a6 := Bnd.pt (n := 2639) (Nat.le_of_ble_eq_true (by kernel_rfl)) ab4 (by kernel_rfl)
def d6 : List (Nat × Option Obj) := [qo 1393 (cv 258 [(qp 382 0), (qp 3057 0), (qm 1392), qz]),
  qo 1392 (.map [((qs 7 0x100316e010000), (qi 1), 0), ((qs 11 0x10077010100316e010001), (qi 1), 1), ((qs 17 0x10077010100316e010100626577010101), (qi 1), 2), ((qs 10 0x1007865646e69010003), (qi 1), 3)] 4),
  qo 2918 (ct 196 [(qs 5 0x7865646e69), (qu 0), (.slice none 0 (.exact 0)), qe, (qu 2), (.slice none 0 (.exact 0))]),
  qo 3041 (.chan 0 [] false),
  qo 3042 (cv 341 [(.int .u32 (.ofNat 0)), (.int .i32 (.ofNat 0)), (.int .u32 (.ofNat 0)), (.chan (some 3041))]),
  qo 3043 (cv 382 [(qs 10 0x1007865646e69010003), (ql 2918 0 2 (.tip 3)), (qp 3042 0)]),
  qo 3045 (ct 359 [(qp 1678 0), (qp 2625 0), (qp 3053 0)]),
  qo 3046 (.chan 0 [] false),
  qo 3047 (cv 341 [(.int .u32 (.ofNat 0)), (.int .i32 (.ofNat 0)), (.int .u32 (.ofNat 0)), (.chan (some 3046))]),
  qo 3048 (cv 364 [qe, qn, (qk 3045 0 3), (qp 3047 0)]),
  qo 3050 (ct 359 [(qp 1050 0), (qp 3056 0), (qp 822 0), (qp 829 0)]),
  qo 3051 (.chan 0 [] false),
  qo 3052 (cv 341 [(.int .u32 (.ofNat 0)), (.int .i32 (.ofNat 0)), (.int .u32 (.ofNat 0)), (.chan (some 3051))]),
  qo 3053 (cv 364 [(qs 3 0x10003), qn, (qk 3050 0 4), (qp 3052 0)]),
  qo 3054 (.chan 0 [] false),
  qo 3055 (cv 341 [(.int .u32 (.ofNat 0)), (.int .i32 (.ofNat 0)), (.int .u32 (.ofNat 0)), (.chan (some 3054))]),
  qo 3056 (cv 364 [(qs 7 0x1007865646e69), (qp 3043 0), (.slice none 0 (.exact 0)), (qp 3055 0)]),
  qo 3057 (cv 366 [(qp 3048 0), (qi 7)]),
  qo 3064 (ct 196 [(qs 5 0x7865646e69), (qu 0), (.slice none 0 (.exact 0)), qe, (qu 1), (.slice none 0 (.exact 0))])]
def p6 : Piece := ⟨39, [(qp 1394 0), (qs 5 0x736b72616d), (.agg [(ql 2638 0 2 (.exact 2))])], 2639, a6, (.tuple [(.agg [(ql 3064 0 2 (.tip 3))]), qt, (qi 0)]), 3066, d6⟩
theorem pb6 : Bnd p6.n p6.t := ab6
def z6 : T16 := pt a6 d6
theorem zb6 : Bnd 3066 z6 := Bnd.pt (n := 2639) (Nat.le_of_ble_eq_true (by kernel_rfl)) ab6 (by kernel_rfl)
def e7 : List (Nat × Option Obj) := [qo 1392 (.bag [((qs 7 0x100316e010000), (qi 1)), ((qs 11 0x10077010100316e010001), (qi 1)), ((qs 17 0x10077010100316e010100626577010101), (qi 1)), ((qs 10 0x1007865646e69010003), (qi 1))] 4),
  qo 2636 (.iter (some 1395) 3 [0, 2] (some 0) 3),
  qo 3066 (cv 110 [(ql 3067 0 2 (.exact 2))]),
  qo 3067 (ct 196 [(qs 5 0x7365646f6e), (qu 0), (.slice none 0 (.exact 0)), qe, (qu 2), (.slice none 0 (.exact 0))])]
def a7 : T16 := pt z6 e7
theorem ab7 : Bnd 3068 a7 := Bnd.pt (n := 3066) (Nat.le_of_ble_eq_true (by kernel_rfl)) zb6 (by kernel_rfl)
def d7 : List (Nat × Option Obj) := [qo 1393 (cv 258 [(qp 382 0), (qp 3486 0), (qm 1392), qz]),
  qo 1392 (.bag [((qs 7 0x100316e010000), (qi 1)), ((qs 11 0x10077010100316e010001), (qi 1)), ((qs 17 0x10077010100316e010100626577010101), (qi 1)), ((qs 10 0x1007865646e69010003), (qi 1)), ((qs 10 0x1007365646f6e010003), (qi 1))] 5),
  qo 3347 (ct 196 [(qs 5 0x7365646f6e), (qu 0), (.slice none 0 (.exact 0)), qe, (qu 2), (.slice none 0 (.exact 0))]),
  qo 3470 (.chan 0 [] false),
  qo 3471 (cv 341 [(.int .u32 (.ofNat 0)), (.int .i32 (.ofNat 0)), (.int .u32 (.ofNat 0)), (.chan (some 3470))]),
  qo 3472 (cv 382 [(qs 10 0x1007365646f6e010003), (ql 3347 0 2 (.tip 3)), (qp 3471 0)]),
  qo 3474 (ct 359 [(qp 1678 0), (qp 2625 0), (qp 3482 0)]),
  qo 3475 (.chan 0 [] false),
  qo 3476 (cv 341 [(.int .u32 (.ofNat 0)), (.int .i32 (.ofNat 0)), (.int .u32 (.ofNat 0)), (.chan (some 3475))]),
  qo 3477 (cv 364 [qe, qn, (qk 3474 0 3), (qp 3476 0)]),
  qo 3479 (ct 359 [(qp 1050 0), (qp 3056 0), (qp 3485 0), (qp 829 0)]),
  qo 3480 (.chan 0 [] false),
  qo 3481 (cv 341 [(.int .u32 (.ofNat 0)), (.int .i32 (.ofNat 0)), (.int .u32 (.ofNat 0)), (.chan (some 3480))]),
  qo 3482 (cv 364 [(qs 3 0x10003), qn, (qk 3479 0 4), (qp 3481 0)]),
  qo 3483 (.chan 0 [] false),
  qo 3484 (cv 341 [(.int .u32 (.ofNat 0)), (.int .i32 (.ofNat 0)), (.int .u32 (.ofNat 0)), (.chan (some 3483))]),
  qo 3485 (cv 364 [(qs 7 0x1007365646f6e), (qp 3472 0), (.slice none 0 (.exact 0)), (qp 3484 0)]),
  qo 3486 (cv 366 [(qp 3477 0), (qi 7)]),
  qo 3493 (ct 196 [(qs 5 0x7365646f6e), (qu 0), (.slice none 0 (.exact 0)), qe, (qu 1), (.slice none 0 (.exact 0))])]
def p7 : Piece := ⟨39, [(qp 1394 0), (qs 5 0x736b72616d), (.agg [(ql 3067 0 2 (.exact 2))])], 3068, a7, (.tuple [(.agg [(ql 3493 0 2 (.tip 3))]), qt, (qi 0)]), 3495, d7⟩
theorem pb7 : Bnd p7.n p7.t := ab7
def z7 : T16 := pt a7 d7
theorem zb7 : Bnd 3495 z7 := Bnd.pt (n := 3068) (Nat.le_of_ble_eq_true (by kernel_rfl)) ab7 (by kernel_rfl)
def e8 : List (Nat × Option Obj) := [qo 2636 (.iter (some 1395) 3 [1, 2] (some 1) 3),
  qo 3067 (ct 196 [(qs 8 0x7365636976726573), (qu 0), (.slice none 0 (.exact 0)), qe, (qu 2), (.slice none 0 (.exact 0))])]
def a8 : T16 := pt a7 e8
theorem ab8 : Bnd 3068 a8 := Bnd.pt (n := 3068) (Nat.le_of_ble_eq_true (by kernel_rfl)) ab7 (by kernel_rfl)
def d8 : List (Nat × Option Obj) := [qo 1393 (cv 258 [(qp 382 0), (qp 3528 0), (qm 1392), qz]),
  qo 1392 (.bag [((qs 7 0x100316e010000), (qi 1)), ((qs 11 0x10077010100316e010001), (qi 1)), ((qs 17 0x10077010100316e010100626577010101), (qi 1)), ((qs 10 0x1007865646e69010003), (qi 1)), ((qs 13 0x1007365636976726573010003), (qi 1))] 5),
  qo 3377 (ct 196 [(qs 8 0x7365636976726573), (qu 0), (.slice none 0 (.exact 0)), qe, (qu 2), (.slice none 0 (.exact 0))]),
  qo 3512 (.chan 0 [] false),
  qo 3513 (cv 341 [(.int .u32 (.ofNat 0)), (.int .i32 (.ofNat 0)), (.int .u32 (.ofNat 0)), (.chan (some 3512))]),
  qo 3514 (cv 382 [(qs 13 0x1007365636976726573010003), (ql 3377 0 2 (.tip 3)), (qp 3513 0)]),
  qo 3516 (ct 359 [(qp 1678 0), (qp 2625 0), (qp 3524 0)]),
  qo 3517 (.chan 0 [] false),
  qo 3518 (cv 341 [(.int .u32 (.ofNat 0)), (.int .i32 (.ofNat 0)), (.int .u32 (.ofNat 0)), (.chan (some 3517))]),
  qo 3519 (cv 364 [qe, qn, (qk 3516 0 3), (qp 3518 0)]),
  qo 3521 (ct 359 [(qp 1050 0), (qp 3056 0), (qp 822 0), (qp 3527 0)]),
  qo 3522 (.chan 0 [] false),
  qo 3523 (cv 341 [(.int .u32 (.ofNat 0)), (.int .i32 (.ofNat 0)), (.int .u32 (.ofNat 0)), (.chan (some 3522))]),
  qo 3524 (cv 364 [(qs 3 0x10003), qn, (qk 3521 0 4), (qp 3523 0)]),
  qo 3525 (.chan 0 [] false),
  qo 3526 (cv 341 [(.int .u32 (.ofNat 0)), (.int .i32 (.ofNat 0)), (.int .u32 (.ofNat 0)), (.chan (some 3525))]),
  qo 3527 (cv 364 [(qs 10 0x1007365636976726573), (qp 3514 0), (.slice none 0 (.exact 0)), (qp 3526 0)]),
  qo 3528 (cv 366 [(qp 3519 0), (qi 7)]),
  qo 3535 (ct 196 [(qs 8 0x7365636976726573), (qu 0), (.slice none 0 (.exact 0)), qe, (qu 1), (.slice none 0 (.exact 0))])]
def p8 : Piece := ⟨39, [(qp 1394 0), (qs 5 0x736b72616d), (.agg [(ql 3067 0 2 (.exact 2))])], 3068, a8, (.tuple [(.agg [(ql 3535 0 2 (.tip 3))]), qt, (qi 0)]), 3537, d8⟩
theorem pb8 : Bnd p8.n p8.t := ab8
def z8 : T16 := pt a8 d8
theorem zb8 : Bnd 3537 z8 := Bnd.pt (n := 3068) (Nat.le_of_ble_eq_true (by kernel_rfl)) ab8 (by kernel_rfl)
def e9 : List (Nat × Option Obj) := [qo 1392 (.bag [((qs 7 0x100316e010000), (qi 1)), ((qs 11 0x10077010100316e010001), (qi 1)), ((qs 17 0x10077010100316e010100626577010101), (qi 1)), ((qs 13 0x1007365636976726573010003), (qi 1))] 4),
  qo 2636 (.iter (some 1395) 3 [0, 1] (some 0) 3),
  qo 3108 (cv 110 [(ql 3109 0 2 (.exact 2))]),
  qo 3109 (ct 196 [(qs 5 0x7365646f6e), (qu 0), (.slice none 0 (.exact 0)), qe, (qu 2), (.slice none 0 (.exact 0))])]
def a9 : T16 := pt z5 e9
theorem ab9 : Bnd 3110 a9 := Bnd.pt (n := 3108) (Nat.le_of_ble_eq_true (by kernel_rfl)) zb5 (by kernel_rfl)
def d9 : List (Nat × Option Obj) := [qo 1393 (cv 258 [(qp 382 0), (qp 3528 0), (qm 1392), qz]),
  qo 1392 (.bag [((qs 7 0x100316e010000), (qi 1)), ((qs 11 0x10077010100316e010001), (qi 1)), ((qs 17 0x10077010100316e010100626577010101), (qi 1)), ((qs 10 0x1007365646f6e010003), (qi 1)), ((qs 13 0x1007365636976726573010003), (qi 1))] 5),
  qo 3389 (ct 196 [(qs 5 0x7365646f6e), (qu 0), (.slice none 0 (.exact 0)), qe, (qu 2), (.slice none 0 (.exact 0))]),
  qo 3512 (.chan 0 [] false),
  qo 3513 (cv 341 [(.int .u32 (.ofNat 0)), (.int .i32 (.ofNat 0)), (.int .u32 (.ofNat 0)), (.chan (some 3512))]),
  qo 3514 (cv 382 [(qs 10 0x1007365646f6e010003), (ql 3389 0 2 (.tip 3)), (qp 3513 0)]),
  qo 3516 (ct 359 [(qp 1678 0), (qp 2625 0), (qp 3524 0)]),
  qo 3517 (.chan 0 [] false),
  qo 3518 (cv 341 [(.int .u32 (.ofNat 0)), (.int .i32 (.ofNat 0)), (.int .u32 (.ofNat 0)), (.chan (some 3517))]),
  qo 3519 (cv 364 [qe, qn, (qk 3516 0 3), (qp 3518 0)]),
  qo 3521 (ct 359 [(qp 1050 0), (qp 1265 0), (qp 3527 0), (qp 3098 0)]),
  qo 3522 (.chan 0 [] false),
  qo 3523 (cv 341 [(.int .u32 (.ofNat 0)), (.int .i32 (.ofNat 0)), (.int .u32 (.ofNat 0)), (.chan (some 3522))]),
  qo 3524 (cv 364 [(qs 3 0x10003), qn, (qk 3521 0 4), (qp 3523 0)]),
  qo 3525 (.chan 0 [] false),
  qo 3526 (cv 341 [(.int .u32 (.ofNat 0)), (.int .i32 (.ofNat 0)), (.int .u32 (.ofNat 0)), (.chan (some 3525))]),
  qo 3527 (cv 364 [(qs 7 0x1007365646f6e), (qp 3514 0), (.slice none 0 (.exact 0)), (qp 3526 0)]),
  qo 3528 (cv 366 [(qp 3519 0), (qi 7)]),
  qo 3535 (ct 196 [(qs 5 0x7365646f6e), (qu 0), (.slice none 0 (.exact 0)), qe, (qu 1), (.slice none 0 (.exact 0))])]
def p9 : Piece := ⟨39, [(qp 1394 0), (qs 5 0x736b72616d), (.agg [(ql 3109 0 2 (.exact 2))])], 3110, a9, (.tuple [(.agg [(ql 3535 0 2 (.tip 3))]), qt, (qi 0)]), 3537, d9⟩
theorem pb9 : Bnd p9.n p9.t := ab9
def z9 : T16 := pt a9 d9
theorem zb9 : Bnd 3537 z9 := Bnd.pt (n := 3110) (Nat.le_of_ble_eq_true (by kernel_rfl)) ab9 (by kernel_rfl)
def e10 : List (Nat × Option Obj) := [qo 2636 (.iter (some 1395) 3 [1, 2] (some 2) 3),
  qo 3109 (ct 196 [(qs 5 0x7865646e69), (qu 0), (.slice none 0 (.exact 0)), qe, (qu 2), (.slice none 0 (.exact 0))])]
def a10 : T16 := pt a9 e10
theorem ab10 : Bnd 3110 a10 := Bnd.pt (n := 3110) (Nat.le_of_ble_eq_true (by kernel_rfl)) ab9 (by kernel_rfl)
def d10 : List (Nat × Option Obj) := [qo 1393 (cv 258 [(qp 382 0), (qp 3528 0), (qm 1392), qz]),
  qo 1392 (.bag [((qs 7 0x100316e010000), (qi 1)), ((qs 11 0x10077010100316e010001), (qi 1)), ((qs 17 0x10077010100316e010100626577010101), (qi 1)), ((qs 10 0x1007865646e69010003), (qi 1)), ((qs 13 0x1007365636976726573010003), (qi 1))] 5),
  qo 3389 (ct 196 [(qs 5 0x7865646e69), (qu 0), (.slice none 0 (.exact 0)), qe, (qu 2), (.slice none 0 (.exact 0))]),
  qo 3512 (.chan 0 [] false),
  qo 3513 (cv 341 [(.int .u32 (.ofNat 0)), (.int .i32 (.ofNat 0)), (.int .u32 (.ofNat 0)), (.chan (some 3512))]),
  qo 3514 (cv 382 [(qs 10 0x1007865646e69010003), (ql 3389 0 2 (.tip 3)), (qp 3513 0)]),
  qo 3516 (ct 359 [(qp 1678 0), (qp 2625 0), (qp 3524 0)]),
  qo 3517 (.chan 0 [] false),
  qo 3518 (cv 341 [(.int .u32 (.ofNat 0)), (.int .i32 (.ofNat 0)), (.int .u32 (.ofNat 0)), (.chan (some 3517))]),
  qo 3519 (cv 364 [qe, qn, (qk 3516 0 3), (qp 3518 0)]),
  qo 3521 (ct 359 [(qp 1050 0), (qp 3527 0), (qp 822 0), (qp 3098 0)]),
  qo 3522 (.chan 0 [] false),
  qo 3523 (cv 341 [(.int .u32 (.ofNat 0)), (.int .i32 (.ofNat 0)), (.int .u32 (.ofNat 0)), (.chan (some 3522))]),
  qo 3524 (cv 364 [(qs 3 0x10003), qn, (qk 3521 0 4), (qp 3523 0)]),
  qo 3525 (.chan 0 [] false),
  qo 3526 (cv 341 [(.int .u32 (.ofNat 0)), (.int .i32 (.ofNat 0)), (.int .u32 (.ofNat 0)), (.chan (some 3525))]),
  qo 3527 (cv 364 [(qs 7 0x1007865646e69), (qp 3514 0), (.slice none 0 (.exact 0)), (qp 3526 0)]),
  qo 3528 (cv 366 [(qp 3519 0), (qi 7)]),
  qo 3535 (ct 196 [(qs 5 0x7865646e69), (qu 0), (.slice none 0 (.exact 0)), qe, (qu 1), (.slice none 0 (.exact 0))])]
def p10 : Piece := ⟨39, [(qp 1394 0), (qs 5 0x736b72616d), (.agg [(ql 3109 0 2 (.exact 2))])], 3110, a10, (.tuple [(.agg [(ql 3535 0 2 (.tip 3))]), qt, (qi 0)]), 3537, d10⟩
theorem pb10 : Bnd p10.n p10.t := ab10
def z10 : T16 := pt a10 d10
theorem zb10 : Bnd 3537 z10 := Bnd.pt (n := 3110) (Nat.le_of_ble_eq_true (by kernel_rfl)) ab10 (by kernel_rfl)
def e11 : List (Nat × Option Obj) := [qo 1392 (.bag [((qs 7 0x100316e010000), (qi 1)), ((qs 11 0x10077010100316e010001), (qi 1)), ((qs 17 0x10077010100316e010100626577010101), (qi 1)), ((qs 10 0x1007365646f6e010003), (qi 1))] 4),
  qo 2636 (.iter (some 1395) 3 [0, 1] (some 1) 3),
  qo 3066 (cv 110 [(ql 3067 0 2 (.exact 2))]),
  qo 3067 (ct 196 [(qs 8 0x7365636976726573), (qu 0), (.slice none 0 (.exact 0)), qe, (qu 2), (.slice none 0 (.exact 0))])]
def a11 : T16 := pt z4 e11
theorem ab11 : Bnd 3068 a11 := Bnd.pt (n := 3066) (Nat.le_of_ble_eq_true (by kernel_rfl)) zb4 (by kernel_rfl)
def d11 : List (Nat × Option Obj) := [qo 1393 (cv 258 [(qp 382 0), (qp 3528 0), (qm 1392), qz]),
  qo 1392 (.bag [((qs 7 0x100316e010000), (qi 1)), ((qs 11 0x10077010100316e010001), (qi 1)), ((qs 17 0x10077010100316e010100626577010101), (qi 1)), ((qs 10 0x1007365646f6e010003), (qi 1)), ((qs 13 0x1007365636976726573010003), (qi 1))] 5),
  qo 3377 (ct 196 [(qs 8 0x7365636976726573), (qu 0), (.slice none 0 (.exact 0)), qe, (qu 2), (.slice none 0 (.exact 0))]),
  qo 3512 (.chan 0 [] false),
  qo 3513 (cv 341 [(.int .u32 (.ofNat 0)), (.int .i32 (.ofNat 0)), (.int .u32 (.ofNat 0)), (.chan (some 3512))]),
  qo 3514 (cv 382 [(qs 13 0x1007365636976726573010003), (ql 3377 0 2 (.tip 3)), (qp 3513 0)]),
  qo 3516 (ct 359 [(qp 1678 0), (qp 2625 0), (qp 3524 0)]),
  qo 3517 (.chan 0 [] false),
  qo 3518 (cv 341 [(.int .u32 (.ofNat 0)), (.int .i32 (.ofNat 0)), (.int .u32 (.ofNat 0)), (.chan (some 3517))]),
  qo 3519 (cv 364 [qe, qn, (qk 3516 0 3), (qp 3518 0)]),
  qo 3521 (ct 359 [(qp 1050 0), (qp 1265 0), (qp 3056 0), (qp 3527 0)]),
  qo 3522 (.chan 0 [] false),
  qo 3523 (cv 341 [(.int .u32 (.ofNat 0)), (.int .i32 (.ofNat 0)), (.int .u32 (.ofNat 0)), (.chan (some 3522))]),
  qo 3524 (cv 364 [(qs 3 0x10003), qn, (qk 3521 0 4), (qp 3523 0)]),
  qo 3525 (.chan 0 [] false),
  qo 3526 (cv 341 [(.int .u32 (.ofNat 0)), (.int .i32 (.ofNat 0)), (.int .u32 (.ofNat 0)), (.chan (some 3525))]),
  qo 3527 (cv 364 [(qs 10 0x1007365636976726573), (qp 3514 0), (.slice none 0 (.exact 0)), (qp 3526 0)]),
  qo 3528 (cv 366 [(qp 3519 0), (qi 7)]),
  qo 3535 (ct 196 [(qs 8 0x7365636976726573), (qu 0), (.slice none 0 (.exact 0)), qe, (qu 1), (.slice none 0 (.exact 0))])]
def p11 : Piece := ⟨39, [(qp 1394 0), (qs 5 0x736b72616d), (.agg [(ql 3067 0 2 (.exact 2))])], 3068, a11, (.tuple [(.agg [(ql 3535 0 2 (.tip 3))]), qt, (qi 0)]), 3537, d11⟩
theorem pb11 : Bnd p11.n p11.t := ab11
def z11 : T16 := pt a11 d11
theorem zb11 : Bnd 3537 z11 := Bnd.pt (n := 3068) (Nat.le_of_ble_eq_true (by kernel_rfl)) ab11 (by kernel_rfl)
def e12 : List (Nat × Option Obj) := [qo 2636 (.iter (some 1395) 3 [0, 2] (some 2) 3),
  qo 3067 (ct 196 [(qs 5 0x7865646e69), (qu 0), (.slice none 0 (.exact 0)), qe, (qu 2), (.slice none 0 (.exact 0))])]
def a12 : T16 := pt a11 e12
theorem ab12 : Bnd 3068 a12 := Bnd.pt (n := 3068) (Nat.le_of_ble_eq_true (by kernel_rfl)) ab11 (by kernel_rfl)
def d12 : List (Nat × Option Obj) := [qo 1393 (cv 258 [(qp 382 0), (qp 3486 0), (qm 1392), qz]),
  qo 1392 (.bag [((qs 7 0x100316e010000), (qi 1)), ((qs 11 0x10077010100316e010001), (qi 1)), ((qs 17 0x10077010100316e010100626577010101), (qi 1)), ((qs 10 0x1007865646e69010003), (qi 1)), ((qs 10 0x1007365646f6e010003), (qi 1))] 5),
  qo 3347 (ct 196 [(qs 5 0x7865646e69), (qu 0), (.slice none 0 (.exact 0)), qe, (qu 2), (.slice none 0 (.exact 0))]),
  qo 3470 (.chan 0 [] false),
  qo 3471 (cv 341 [(.int .u32 (.ofNat 0)), (.int .i32 (.ofNat 0)), (.int .u32 (.ofNat 0)), (.chan (some 3470))]),
  qo 3472 (cv 382 [(qs 10 0x1007865646e69010003), (ql 3347 0 2 (.tip 3)), (qp 3471 0)]),
  qo 3474 (ct 359 [(qp 1678 0), (qp 2625 0), (qp 3482 0)]),
  qo 3475 (.chan 0 [] false),
  qo 3476 (cv 341 [(.int .u32 (.ofNat 0)), (.int .i32 (.ofNat 0)), (.int .u32 (.ofNat 0)), (.chan (some 3475))]),
  qo 3477 (cv 364 [qe, qn, (qk 3474 0 3), (qp 3476 0)]),
  qo 3479 (ct 359 [(qp 1050 0), (qp 3485 0), (qp 3056 0), (qp 829 0)]),
  qo 3480 (.chan 0 [] false),
  qo 3481 (cv 341 [(.int .u32 (.ofNat 0)), (.int .i32 (.ofNat 0)), (.int .u32 (.ofNat 0)), (.chan (some 3480))]),
  qo 3482 (cv 364 [(qs 3 0x10003), qn, (qk 3479 0 4), (qp 3481 0)]),
  qo 3483 (.chan 0 [] false),
  qo 3484 (cv 341 [(.int .u32 (.ofNat 0)), (.int .i32 (.ofNat 0)), (.int .u32 (.ofNat 0)), (.chan (some 3483))]),
  qo 3485 (cv 364 [(qs 7 0x1007865646e69), (qp 3472 0), (.slice none 0 (.exact 0)), (qp 3484 0)]),
  qo 3486 (cv 366 [(qp 3477 0), (qi 7)]),
  qo 3493 (ct 196 [(qs 5 0x7865646e69), (qu 0), (.slice none 0 (.exact 0)), qe, (qu 1), (.slice none 0 (.exact 0))])]
def p12 : Piece := ⟨39, [(qp 1394 0), (qs 5 0x736b72616d), (.agg [(ql 3067 0 2 (.exact 2))])], 3068, a12, (.tuple [(.agg [(ql 3493 0 2 (.tip 3))]), qt, (qi 0)]), 3495, d12⟩
theorem pb12 : Bnd p12.n p12.t := ab12
def z12 : T16 := pt a12 d12
theorem zb12 : Bnd 3495 z12 := Bnd.pt (n := 3068) (Nat.le_of_ble_eq_true (by kernel_rfl)) ab12 (by kernel_rfl)
def e13 : List (Nat × Option Obj) := [qo 2636 (.iter (some 1395) 3 [0, 1, 2] (some 1) 3),
  (2637, none),
  (2638, none),
  (3045, none),
  (3046, none),
  (3047, none),
  (3048, none),
  (3050, none),
  (3051, none),
  (3052, none),
  (3053, none),
  (3057, none),
  (3064, none),
  (3066, none),
  (3067, none),
  (3493, none),
  qo 3495 (cv 110 [(ql 3496 0 2 (.exact 2))]),
  qo 3496 (ct 196 [(qs 8 0x7365636976726573), (qu 0), (.slice none 0 (.exact 0)), qe, (qu 2), (.slice none 0 (.exact 0))])]
def a13 : T16 := pt z12 e13
theorem ab13 : Bnd 3497 a13 := Bnd.pt (n := 3495) (Nat.le_of_ble_eq_true (by kernel_rfl)) zb12 (by kernel_rfl)
def d13 : List (Nat × Option Obj) := [qo 1393 (cv 258 [(qp 382 0), (qp 3957 0), (qm 1392), qz]),
  qo 1392 (.bag [((qs 7 0x100316e010000), (qi 1)), ((qs 11 0x10077010100316e010001), (qi 1)), ((qs 17 0x10077010100316e010100626577010101), (qi 1)), ((qs 10 0x1007865646e69010003), (qi 1)), ((qs 10 0x1007365646f6e010003), (qi 1)), ((qs 13 0x1007365636976726573010003), (qi 1))] 6),
  qo 3806 (ct 196 [(qs 8 0x7365636976726573), (qu 0), (.slice none 0 (.exact 0)), qe, (qu 2), (.slice none 0 (.exact 0))]),
  qo 3941 (.chan 0 [] false),
  qo 3942 (cv 341 [(.int .u32 (.ofNat 0)), (.int .i32 (.ofNat 0)), (.int .u32 (.ofNat 0)), (.chan (some 3941))]),
  qo 3943 (cv 382 [(qs 13 0x1007365636976726573010003), (ql 3806 0 2 (.tip 3)), (qp 3942 0)]),
  qo 3945 (ct 359 [(qp 1678 0), (qp 2625 0), (qp 3953 0)]),
  qo 3946 (.chan 0 [] false),
  qo 3947 (cv 341 [(.int .u32 (.ofNat 0)), (.int .i32 (.ofNat 0)), (.int .u32 (.ofNat 0)), (.chan (some 3946))]),
  qo 3948 (cv 364 [qe, qn, (qk 3945 0 3), (qp 3947 0)]),
  qo 3950 (ct 359 [(qp 1050 0), (qp 3485 0), (qp 3056 0), (qp 3956 0)]),
  qo 3951 (.chan 0 [] false),
  qo 3952 (cv 341 [(.int .u32 (.ofNat 0)), (.int .i32 (.ofNat 0)), (.int .u32 (.ofNat 0)), (.chan (some 3951))]),
  qo 3953 (cv 364 [(qs 3 0x10003), qn, (qk 3950 0 4), (qp 3952 0)]),
  qo 3954 (.chan 0 [] false),
  qo 3955 (cv 341 [(.int .u32 (.ofNat 0)), (.int .i32 (.ofNat 0)), (.int .u32 (.ofNat 0)), (.chan (some 3954))]),
  qo 3956 (cv 364 [(qs 10 0x1007365636976726573), (qp 3943 0), (.slice none 0 (.exact 0)), (qp 3955 0)]),
  qo 3957 (cv 366 [(qp 3948 0), (qi 7)]),
  qo 3964 (ct 196 [(qs 8 0x7365636976726573), (qu 0), (.slice none 0 (.exact 0)), qe, (qu 1), (.slice none 0 (.exact 0))])]
def p13 : Piece := ⟨39, [(qp 1394 0), (qs 5 0x736b72616d), (.agg [(ql 3496 0 2 (.exact 2))])], 3497, a13, (.tuple [(.agg [(ql 3964 0 2 (.tip 3))]), qt, (qi 0)]), 3966, d13⟩
theorem pb13 : Bnd p13.n p13.t := ab13
def z13 : T16 := pt a13 d13
theorem zb13 : Bnd 3966 z13 := Bnd.pt (n := 3497) (Nat.le_of_ble_eq_true (by kernel_rfl)) ab13 (by kernel_rfl)
def e14 : List (Nat × Option Obj) := [qo 2636 (.iter (some 1395) 3 [0, 1, 2] (some 2) 3),
  (2637, none),
  (2638, none),
  (3045, none),
  (3046, none),
  (3047, none),
  (3048, none),
  (3050, none),
  (3051, none),
  (3052, none),
  (3053, none),
  (3057, none),
  (3064, none),
  (3066, none),
  (3067, none),
  (3535, none),
  qo 3537 (cv 110 [(ql 3538 0 2 (.exact 2))]),
  qo 3538 (ct 196 [(qs 5 0x7865646e69), (qu 0), (.slice none 0 (.exact 0)), qe, (qu 2), (.slice none 0 (.exact 0))])]
def a14 : T16 := pt z11 e14
theorem ab14 : Bnd 3539 a14 := Bnd.pt (n := 3537) (Nat.le_of_ble_eq_true (by kernel_rfl)) zb11 (by kernel_rfl)
def d14 : List (Nat × Option Obj) := [qo 1393 (cv 258 [(qp 382 0), (qp 3957 0), (qm 1392), qz]),
  qo 1392 (.bag [((qs 7 0x100316e010000), (qi 1)), ((qs 11 0x10077010100316e010001), (qi 1)), ((qs 17 0x10077010100316e010100626577010101), (qi 1)), ((qs 10 0x1007865646e69010003), (qi 1)), ((qs 10 0x1007365646f6e010003), (qi 1)), ((qs 13 0x1007365636976726573010003), (qi 1))] 6),
  qo 3818 (ct 196 [(qs 5 0x7865646e69), (qu 0), (.slice none 0 (.exact 0)), qe, (qu 2), (.slice none 0 (.exact 0))]),
  qo 3941 (.chan 0 [] false),
  qo 3942 (cv 341 [(.int .u32 (.ofNat 0)), (.int .i32 (.ofNat 0)), (.int .u32 (.ofNat 0)), (.chan (some 3941))]),
  qo 3943 (cv 382 [(qs 10 0x1007865646e69010003), (ql 3818 0 2 (.tip 3)), (qp 3942 0)]),
  qo 3945 (ct 359 [(qp 1678 0), (qp 2625 0), (qp 3953 0)]),
  qo 3946 (.chan 0 [] false),
  qo 3947 (cv 341 [(.int .u32 (.ofNat 0)), (.int .i32 (.ofNat 0)), (.int .u32 (.ofNat 0)), (.chan (some 3946))]),
  qo 3948 (cv 364 [qe, qn, (qk 3945 0 3), (qp 3947 0)]),
  qo 3950 (ct 359 [(qp 1050 0), (qp 3956 0), (qp 3056 0), (qp 3527 0)]),
  qo 3951 (.chan 0 [] false),
  qo 3952 (cv 341 [(.int .u32 (.ofNat 0)), (.int .i32 (.ofNat 0)), (.int .u32 (.ofNat 0)), (.chan (some 3951))]),
  qo 3953 (cv 364 [(qs 3 0x10003), qn, (qk 3950 0 4), (qp 3952 0)]),
  qo 3954 (.chan 0 [] false),
  qo 3955 (cv 341 [(.int .u32 (.ofNat 0)), (.int .i32 (.ofNat 0)), (.int .u32 (.ofNat 0)), (.chan (some 3954))]),
  qo 3956 (cv 364 [(qs 7 0x1007865646e69), (qp 3943 0), (.slice none 0 (.exact 0)), (qp 3955 0)]),
  qo 3957 (cv 366 [(qp 3948 0), (qi 7)]),
  qo 3964 (ct 196 [(qs 5 0x7865646e69), (qu 0), (.slice none 0 (.exact 0)), qe, (qu 1), (.slice none 0 (.exact 0))])]
def p14 : Piece := ⟨39, [(qp 1394 0), (qs 5 0x736b72616d), (.agg [(ql 3538 0 2 (.exact 2))])], 3539, a14, (.tuple [(.agg [(ql 3964 0 2 (.tip 3))]), qt, (qi 0)]), 3966, d14⟩
theorem pb14 : Bnd p14.n p14.t := ab14
def z14 : T16 := pt a14 d14
theorem zb14 : Bnd 3966 z14 := Bnd.pt (n := 3539) (Nat.le_of_ble_eq_true (by kernel_rfl)) ab14 (by kernel_rfl)
def e15 : List (Nat × Option Obj) := [qo 2636 (.iter (some 1395) 3 [0, 1, 2] (some 0) 3),
  (2637, none),
  (2638, none),
  (3087, none),
  (3088, none),
  (3089, none),
  (3090, none),
  (3092, none),
  (3093, none),
  (3094, none),
  (3095, none),
  (3099, none),
  (3106, none),
  (3108, none),
  (3109, none),
  (3535, none),
  qo 3537 (cv 110 [(ql 3538 0 2 (.exact 2))]),
  qo 3538 (ct 196 [(qs 5 0x7365646f6e), (qu 0), (.slice none 0 (.exact 0)), qe, (qu 2), (.slice none 0 (.exact 0))])]
def a15 : T16 := pt z10 e15
theorem ab15 : Bnd 3539 a15 := Bnd.pt (n := 3537) (Nat.le_of_ble_eq_true (by kernel_rfl)) zb10 (by kernel_rfl)
def d15 : List (Nat × Option Obj) := [qo 1393 (cv 258 [(qp 382 0), (qp 3957 0), (qm 1392), qz]),
  qo 1392 (.bag [((qs 7 0x100316e010000), (qi 1)), ((qs 11 0x10077010100316e010001), (qi 1)), ((qs 17 0x10077010100316e010100626577010101), (qi 1)), ((qs 10 0x1007865646e69010003), (qi 1)), ((qs 10 0x1007365646f6e010003), (qi 1)), ((qs 13 0x1007365636976726573010003), (qi 1))] 6),
  qo 3818 (ct 196 [(qs 5 0x7365646f6e), (qu 0), (.slice none 0 (.exact 0)), qe, (qu 2), (.slice none 0 (.exact 0))]),
  qo 3941 (.chan 0 [] false),
  qo 3942 (cv 341 [(.int .u32 (.ofNat 0)), (.int .i32 (.ofNat 0)), (.int .u32 (.ofNat 0)), (.chan (some 3941))]),
  qo 3943 (cv 382 [(qs 10 0x1007365646f6e010003), (ql 3818 0 2 (.tip 3)), (qp 3942 0)]),
  qo 3945 (ct 359 [(qp 1678 0), (qp 2625 0), (qp 3953 0)]),
  qo 3946 (.chan 0 [] false),
  qo 3947 (cv 341 [(.int .u32 (.ofNat 0)), (.int .i32 (.ofNat 0)), (.int .u32 (.ofNat 0)), (.chan (some 3946))]),
  qo 3948 (cv 364 [qe, qn, (qk 3945 0 3), (qp 3947 0)]),
  qo 3950 (ct 359 [(qp 1050 0), (qp 3527 0), (qp 3956 0), (qp 3098 0)]),
  qo 3951 (.chan 0 [] false),
  qo 3952 (cv 341 [(.int .u32 (.ofNat 0)), (.int .i32 (.ofNat 0)), (.int .u32 (.ofNat 0)), (.chan (some 3951))]),
  qo 3953 (cv 364 [(qs 3 0x10003), qn, (qk 3950 0 4), (qp 3952 0)]),
  qo 3954 (.chan 0 [] false),
  qo 3955 (cv 341 [(.int .u32 (.ofNat 0)), (.int .i32 (.ofNat 0)), (.int .u32 (.ofNat 0)), (.chan (some 3954))]),
  qo 3956 (cv 364 [(qs 7 0x1007365646f6e), (qp 3943 0), (.slice none 0 (.exact 0)), (qp 3955 0)]),
  qo 3957 (cv 366 [(qp 3948 0), (qi 7)]),
  qo 3964 (ct 196 [(qs 5 0x7365646f6e), (qu 0), (.slice none 0 (.exact 0)), qe, (qu 1), (.slice none 0 (.exact 0))])]
def p15 : Piece := ⟨39, [(qp 1394 0), (qs 5 0x736b72616d), (.agg [(ql 3538 0 2 (.exact 2))])], 3539, a15, (.tuple [(.agg [(ql 3964 0 2 (.tip 3))]), qt, (qi 0)]), 3966, d15⟩
theorem pb15 : Bnd p15.n p15.t := ab15
def z15 : T16 := pt a15 d15
theorem zb15 : Bnd 3966 z15 := Bnd.pt (n := 3539) (Nat.le_of_ble_eq_true (by kernel_rfl)) ab15 (by kernel_rfl)
end Go.Am.NSt
