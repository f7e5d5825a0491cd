/- The memories at which a run is cut (printed by wip/tools/nm/Gen). -/
import Derived.Test.YteoekjfgihnhaaaGreatDoorHmGRB31
import Derived.Test.YteoekjfgihnhaaaGreatDoorHmCutN
set_option linter.all false
noncomputable section
namespace Go.Am.BSt
open Go.RowKit Go.Proofs

theorem hb0 : Bnd 10 hHeap.tr := fun i hi => by
  show (T16.put .leaf 1 (some kindsO)).get i = none
  rw [T16.get_put_ne _ (by omega)]
  exact T16.get_leaf i
def d1 : List (Nat × Option Obj) := [qo 10 (cv 100 [(.int .i32 (.ofNat 0)), (.int .u32 (.ofNat 0)), (qp 388 0)]),
  qo 54 (ct 262 [(qs 4 0x656d616e), (qi 1), (qs 4 0x72646461), (qi 1), (qs 4 0x6564616d), (qi 2), (qs 7 0x6465676e616863), (qi 2)]),
  qo 73 (ct 3 [(qi 0)]),
  qo 75 (ct 189 [(qs 2 0x6469), (qk 73 0 1), qt, qz, qz]),
  qo 137 (ct 262 [(qs 4 0x65646f6e), (qi 1), (qs 2 0x6469), (qi 1), (qs 4 0x656d616e), (qi 1), (qs 4 0x74726f70), (qi 2), (qs 4 0x73676174), (qi 3), (qs 4 0x6564616d), (qi 2), (qs 7 0x6465676e616863), (qi 2)]),
  qo 164 (ct 3 [(qi 0), (qi 1)]),
  qo 188 (ct 3 [(qi 2)]),
  qo 190 (ct 189 [(qs 2 0x6469), (qk 164 0 2), qt, qz, qz, (qs 4 0x656d616e), (qk 188 0 1), qz, qz, qz]),
  qo 253 (ct 262 [(qs 4 0x65646f6e), (qi 1), (qs 2 0x6469), (qi 1), (qs 7 0x65636976726573), (qi 1), (qs 6 0x737574617473), (qi 2), (qs 4 0x65746f6e), (qi 1), (qs 4 0x6564616d), (qi 2), (qs 7 0x6465676e616863), (qi 2)]),
  qo 280 (ct 3 [(qi 0), (qi 1)]),
  qo 311 (ct 3 [(qi 0), (qi 2)]),
  qo 337 (ct 3 [(qi 3)]),
  qo 339 (ct 189 [(qs 2 0x6469), (qk 280 0 2), qt, qz, qz, (qs 7 0x65636976726573), (qk 311 0 2), qz, qz, qt, (qs 6 0x737574617473), (qk 337 0 1), qz, qz, qz]),
  qo 347 (ct 174 [(qs 5 0x7365646f6e), (ql 54 0 4 (.tip 2)), (ql 75 0 1 (.tip 5)), (qs 8 0x7365636976726573), (ql 137 0 7 (.tip 2)), (ql 190 0 2 (.tip 5)), (qs 6 0x736b63656863), (ql 253 0 7 (.tip 2)), (ql 339 0 3 (.tip 5)), (qs 5 0x736b72616d), (ql 358 0 2 (.tip 2)), (ql 379 0 1 (.tip 5))]),
  qo 358 (ct 262 [(qs 5 0x656c626174), (qi 1), (qs 5 0x65756c6176), (qi 2)]),
  qo 377 (ct 3 [(qi 0)]),
  qo 379 (ct 189 [(qs 2 0x6469), (qk 377 0 1), qt, qz, qz]),
  qo 381 (.map [((qs 5 0x7365646f6e), (qi 0), 0), ((qs 8 0x7365636976726573), (qi 1), 1), ((qs 6 0x736b63656863), (qi 2), 2), ((qs 5 0x736b72616d), (qi 3), 3)] 4),
  qo 382 (cv 248 [(qp 1275 0), (.int .i32 (.ofNat 0)), (.int .u32 (.ofNat 0))]),
  qo 388 (cv 170 [(ql 347 0 4 (.tip 3)), (qm 381), (qp 382 0)]),
  qo 572 (ct 196 [(qs 5 0x7365646f6e), (qu 0), (.slice none 0 (.exact 0)), qe, (qu 1), (.slice none 0 (.exact 0))]),
  qo 588 (.chan 0 [] false),
  qo 589 (cv 341 [(.int .u32 (.ofNat 0)), (.int .i32 (.ofNat 0)), (.int .u32 (.ofNat 0)), (.chan (some 588))]),
  qo 590 (cv 382 [(qs 10 0x1007365646f6e010003), (ql 572 0 2 (.tip 3)), (qp 589 0)]),
  qo 594 (.chan 0 [] false),
  qo 595 (cv 341 [(.int .u32 (.ofNat 0)), (.int .i32 (.ofNat 0)), (.int .u32 (.ofNat 0)), (.chan (some 594))]),
  qo 798 (ct 196 [(qs 8 0x7365636976726573), (qu 0), (.slice none 0 (.exact 0)), qe, (qu 1), (.slice none 0 (.exact 0))]),
  qo 814 (.chan 0 [] false),
  qo 815 (cv 341 [(.int .u32 (.ofNat 0)), (.int .i32 (.ofNat 0)), (.int .u32 (.ofNat 0)), (.chan (some 814))]),
  qo 816 (cv 382 [(qs 13 0x1007365636976726573010003), (ql 798 0 2 (.tip 3)), (qp 815 0)]),
  qo 822 (cv 364 [(qs 7 0x1007365646f6e), (qp 590 0), (.slice none 0 (.exact 0)), (qp 595 0)]),
  qo 827 (.chan 0 [] false),
  qo 828 (cv 341 [(.int .u32 (.ofNat 0)), (.int .i32 (.ofNat 0)), (.int .u32 (.ofNat 0)), (.chan (some 827))]),
  qo 829 (cv 364 [(qs 10 0x1007365636976726573), (qp 816 0), (.slice none 0 (.exact 0)), (qp 828 0)]),
  qo 1019 (ct 196 [(qs 6 0x736b63656863), (qu 0), (.slice none 0 (.exact 0)), qe, (qu 1), (.slice none 0 (.exact 0))]),
  qo 1035 (.chan 0 [] false),
  qo 1036 (cv 341 [(.int .u32 (.ofNat 0)), (.int .i32 (.ofNat 0)), (.int .u32 (.ofNat 0)), (.chan (some 1035))]),
  qo 1037 (cv 382 [(qs 11 0x100736b63656863010003), (ql 1019 0 2 (.tip 3)), (qp 1036 0)]),
  qo 1048 (.chan 0 [] false),
  qo 1049 (cv 341 [(.int .u32 (.ofNat 0)), (.int .i32 (.ofNat 0)), (.int .u32 (.ofNat 0)), (.chan (some 1048))]),
  qo 1050 (cv 364 [(qs 8 0x100736b63656863), (qp 1037 0), (.slice none 0 (.exact 0)), (qp 1049 0)]),
  qo 1234 (ct 196 [(qs 5 0x7865646e69), (qu 0), (.slice none 0 (.exact 0)), qe, (qu 1), (.slice none 0 (.exact 0))]),
  qo 1250 (.chan 0 [] false),
  qo 1251 (cv 341 [(.int .u32 (.ofNat 0)), (.int .i32 (.ofNat 0)), (.int .u32 (.ofNat 0)), (.chan (some 1250))]),
  qo 1252 (cv 382 [(qs 10 0x1007865646e69010003), (ql 1234 0 2 (.tip 3)), (qp 1251 0)]),
  qo 1254 (ct 359 [(qp 1262 0)]),
  qo 1255 (.chan 0 [] false),
  qo 1256 (cv 341 [(.int .u32 (.ofNat 0)), (.int .i32 (.ofNat 0)), (.int .u32 (.ofNat 0)), (.chan (some 1255))]),
  qo 1257 (cv 364 [qe, qn, (qk 1254 0 1), (qp 1256 0)]),
  qo 1260 (.chan 0 [] false),
  qo 1261 (cv 341 [(.int .u32 (.ofNat 0)), (.int .i32 (.ofNat 0)), (.int .u32 (.ofNat 0)), (.chan (some 1260))]),
  qo 1262 (cv 364 [(qs 3 0x10003), qn, (qk 1267 0 4), (qp 1261 0)]),
  qo 1263 (.chan 0 [] false),
  qo 1264 (cv 341 [(.int .u32 (.ofNat 0)), (.int .i32 (.ofNat 0)), (.int .u32 (.ofNat 0)), (.chan (some 1263))]),
  qo 1265 (cv 364 [(qs 7 0x1007865646e69), (qp 1252 0), (.slice none 0 (.exact 0)), (qp 1264 0)]),
  qo 1267 (co [(qp 1050 0), (qp 1265 0), (qp 822 0), (qp 829 0)]),
  qo 1268 (cv 366 [(qp 1257 0), (qi 4)]),
  qo 1275 (cv 251 [(qp 1268 0), (qu 1)])]
def p1 : Piece := ⟨15, [(qu 1)], 10, hHeap.tr, (qp 10 0), 1290, d1⟩
theorem pb1 : Bnd p1.n p1.t := hb0
def z1 : T16 := pt hHeap.tr d1
theorem zb1 : Bnd 1290 z1 := Bnd.pt (n := 10) (Nat.le_of_ble_eq_true (by kernel_rfl)) hb0 (by kernel_rfl)
def e2 : List (Nat × Option Obj) := [qo 10 (cv 100 [(.int .i32 (.ofNat 1)), (.int .u32 (.ofNat 0)), (qp 388 0)]),
  qo 382 (cv 248 [(qp 1275 0), (.int .i32 (.ofNat 1)), (.int .u32 (.ofNat 0))]),
  qo 1290 (.map [((qi 1), (qp 1297 0), 0)] 1),
  qo 1291 (cv 147 [(qu 0), (qu 1), (qi 2), (qk 1299 0 1), (qm 1290)]),
  qo 1292 (.map [((qi 1), (qp 1295 0), 0)] 1),
  qo 1293 (cv 81 [(qp 1291 0), (qp 10 0), (qi 2), (qi 1), (qi 1), (qm 1292)]),
  qo 1294 (cv 38 [(qi 1), qe, qe, qz, (qi 0), (qu 1), (qu 0)]),
  qo 1295 (cv 85 [(qi 1), qe, qe, qz, (qi 0), (qu 1), (qu 0), (qi 3), (qp 1301 0), (qp 1441 0), qz, qz, (qu 0), (qi 0), (.slice none 0 (.exact 0)), (.slice none 0 (.exact 0)), (.slice none 0 (.exact 0)), (.slice none 0 (.exact 0)), (.slice none 0 (.exact 0))]),
  qo 1296 (cv 38 [(qi 1), qe, qe, qz, (qi 0), (qu 1), (qu 0)]),
  qo 1297 (cv 149 [(qu 300), (qu 0), (qi 1), (qi 0)]),
  qo 1298 (ct 142 [(qp 1297 0)]),
  qo 1299 (ct 142 [(qp 1297 0)]),
  qo 1300 (cv 201 [(ql 347 0 4 (.tip 3)), (qm 381), (qp 1268 0), (qu 1), qz]),
  qo 1301 (cv 133 [(qp 1300 0)]),
  qo 1439 (cv 74 [(qu 1), (qi 0), (.slice none 0 (.exact 0)), (.slice none 0 (.exact 0)), (.slice none 0 (.exact 0)), (.slice none 0 (.exact 0)), (.slice none 0 (.exact 0))]),
  qo 1440 (ct 9 [(qs 5 0x7365646f6e)]),
  qo 1441 (cv 225 [(qi 1), (qk 1543 0 1)]),
  qo 1443 (ct 292 [(qi 1), (qs 5 0x7365646f6e), (qu 0)]),
  qo 1539 (ct 196 [(qs 5 0x7365646f6e), (qu 0), (.slice none 0 (.exact 0)), qe, (qu 1), (.slice none 0 (.exact 0))]),
  qo 1541 (cv 110 [(ql 1539 0 2 (.tip 3))]),
  qo 1542 (ct 157 [(qp 589 0)]),
  qo 1543 (ct 157 [(qp 589 0)]),
  qo 1544 (ct 127 [(qi 1), (qs 1 0x61), (qs 8 0x312e302e302e3031), (qu 0), (qu 0), qe, qe, qe, (qi 0), (.slice none 0 (.exact 0)), (qu 0), (qu 0), qe, qe, qe, (qi 0), qe, (qu 0), (qu 0), qz, (qu 0)]),
  qo 1545 (cv 46 [(qu 0), qz, (qi 0), (qi 0)]),
  qo 1546 (cv 201 [(ql 347 0 4 (.tip 3)), (qm 381), (qp 1268 0), (qu 1), qz]),
  qo 1547 (cv 133 [(qp 1546 0)]),
  qo 1549 (ct 292 [(qi 1), (qs 5 0x7865646e69), (qu 0)]),
  qo 1642 (ct 196 [(qs 5 0x7865646e69), (qu 0), (.slice none 0 (.exact 0)), qe, (qu 1), (.slice none 0 (.exact 0))]),
  qo 1644 (cv 110 [(ql 1642 0 2 (.tip 3))]),
  qo 1645 (.map [] 0),
  qo 1646 (cv 258 [(qp 382 0), (qp 1268 0), (qm 1645), qz]),
  qo 1647 (cv 180 [(ql 347 0 4 (.tip 3)), (qm 381), (qp 1646 0), (qu 1)]),
  qo 1648 (.map [] 0),
  qo 1649 (cv 119 [(qp 1647 0), (qu 2), (qm 1648)]),
  qo 1650 (cv 127 [(qi 1), (qs 1 0x61), (qs 8 0x312e302e302e3031), (qu 0), (qu 0), qe, qe, qe, (qi 0), (.slice none 0 (.exact 0)), (qu 0), (qu 0), qe, qe, qe, (qi 0), qe, (qu 0), (qu 0), qz, (qu 0)])]
def a2 : T16 := pt z1 e2
theorem ab2 : Bnd 1651 a2 := Bnd.pt (n := 1290) (Nat.le_of_ble_eq_true (by kernel_rfl)) zb1 (by kernel_rfl)
def d2 : List (Nat × Option Obj) := [qo 1648 (.map [((qs 5 0x7365646f6e), (qu 2), 0)] 1),
  qo 1646 (cv 258 [(qp 382 0), (qp 1926 0), (qm 1645), qz]),
  qo 1645 (.map [((qs 6 0x10061010000), (qi 1), 0)] 1),
  qo 1897 (ct 196 [(qs 1 0x61), (qu 0), (.slice none 0 (.exact 0)), (qs 8 0x312e302e302e3031), (qu 0), (.slice none 0 (.exact 0)), qe, (qu 2), (.slice none 0 (.exact 0)), qe, (qu 2), (.slice none 0 (.exact 0))]),
  qo 1913 (.chan 0 [] false),
  qo 1914 (cv 341 [(.int .u32 (.ofNat 0)), (.int .i32 (.ofNat 0)), (.int .u32 (.ofNat 0)), (.chan (some 1913))]),
  qo 1915 (cv 382 [(qs 6 0x10061010000), (ql 1897 0 4 (.tip 3)), (qp 1914 0)]),
  qo 1918 (.chan 0 [] false),
  qo 1919 (cv 341 [(.int .u32 (.ofNat 0)), (.int .i32 (.ofNat 0)), (.int .u32 (.ofNat 0)), (.chan (some 1918))]),
  qo 1920 (cv 364 [qe, qn, (qk 1925 0 2), (qp 1919 0)]),
  qo 1921 (.chan 0 [] false),
  qo 1922 (cv 341 [(.int .u32 (.ofNat 0)), (.int .i32 (.ofNat 0)), (.int .u32 (.ofNat 0)), (.chan (some 1921))]),
  qo 1923 (cv 364 [(qs 6 0x10061010000), (qp 1915 0), (.slice none 0 (.exact 0)), (qp 1922 0)]),
  qo 1925 (co [(qp 1923 0), (qp 1262 0)]),
  qo 1926 (cv 366 [(qp 1920 0), (qi 5)])]
def p2 : Piece := ⟨45, [(qp 1649 0), (.agg [(qi 1), (qs 1 0x61), (qs 8 0x312e302e302e3031), (qu 0), (qu 0), qe, qe, qe, (qi 0), (.slice none 0 (.exact 0)), (qu 0), (qu 0), qe, qe, qe, (qi 0), qe, (qu 0), (qu 0), qz, (qu 0)])], 1651, a2, (qi 0), 1931, d2⟩
theorem pb2 : Bnd p2.n p2.t := ab2
def z2 : T16 := pt a2 d2
theorem zb2 : Bnd 1931 z2 := Bnd.pt (n := 1651) (Nat.le_of_ble_eq_true (by kernel_rfl)) ab2 (by kernel_rfl)
def e3 : List (Nat × Option Obj) := [qo 1648 (.map [((qs 5 0x7365646f6e), (qu 2), 0), ((qs 5 0x7865646e69), (qu 2), 1)] 2),
  qo 1931 (.iter (some 1648) 2 [0] (some 0) 2),
  qo 1932 (cv 110 [(ql 1933 0 2 (.exact 2))]),
  qo 1933 (ct 196 [(qs 5 0x7365646f6e), (qu 0), (.slice none 0 (.exact 0)), qe, (qu 2), (.slice none 0 (.exact 0))])]
def a3 : T16 := pt z2 e3
theorem ab3 : Bnd 1934 a3 := Bnd.pt (n := 1931) (Nat.le_of_ble_eq_true (by kernel_rfl)) zb2 (by kernel_rfl)
def d3 : List (Nat × Option Obj) := [qo 1646 (cv 258 [(qp 382 0), (qp 2352 0), (qm 1645), qz]),
  qo 1645 (.map [((qs 6 0x10061010000), (qi 1), 0), ((qs 10 0x1007365646f6e010003), (qi 1), 1)] 2),
  qo 2213 (ct 196 [(qs 5 0x7365646f6e), (qu 0), (.slice none 0 (.exact 0)), qe, (qu 2), (.slice none 0 (.exact 0))]),
  qo 2336 (.chan 0 [] false),
  qo 2337 (cv 341 [(.int .u32 (.ofNat 0)), (.int .i32 (.ofNat 0)), (.int .u32 (.ofNat 0)), (.chan (some 2336))]),
  qo 2338 (cv 382 [(qs 10 0x1007365646f6e010003), (ql 2213 0 2 (.tip 3)), (qp 2337 0)]),
  qo 2340 (ct 359 [(qp 1923 0), (qp 2348 0)]),
  qo 2341 (.chan 0 [] false),
  qo 2342 (cv 341 [(.int .u32 (.ofNat 0)), (.int .i32 (.ofNat 0)), (.int .u32 (.ofNat 0)), (.chan (some 2341))]),
  qo 2343 (cv 364 [qe, qn, (qk 2340 0 2), (qp 2342 0)]),
  qo 2345 (ct 359 [(qp 1050 0), (qp 1265 0), (qp 2351 0), (qp 829 0)]),
  qo 2346 (.chan 0 [] false),
  qo 2347 (cv 341 [(.int .u32 (.ofNat 0)), (.int .i32 (.ofNat 0)), (.int .u32 (.ofNat 0)), (.chan (some 2346))]),
  qo 2348 (cv 364 [(qs 3 0x10003), qn, (qk 2345 0 4), (qp 2347 0)]),
  qo 2349 (.chan 0 [] false),
  qo 2350 (cv 341 [(.int .u32 (.ofNat 0)), (.int .i32 (.ofNat 0)), (.int .u32 (.ofNat 0)), (.chan (some 2349))]),
  qo 2351 (cv 364 [(qs 7 0x1007365646f6e), (qp 2338 0), (.slice none 0 (.exact 0)), (qp 2350 0)]),
  qo 2352 (cv 366 [(qp 2343 0), (qi 5)]),
  qo 2359 (ct 196 [(qs 5 0x7365646f6e), (qu 0), (.slice none 0 (.exact 0)), qe, (qu 1), (.slice none 0 (.exact 0))])]
def p3 : Piece := ⟨39, [(qp 1647 0), (qs 5 0x736b72616d), (.agg [(ql 1933 0 2 (.exact 2))])], 1934, a3, (.tuple [(.agg [(ql 2359 0 2 (.tip 3))]), qt, (qi 0)]), 2361, d3⟩
theorem pb3 : Bnd p3.n p3.t := ab3
def z3 : T16 := pt a3 d3
theorem zb3 : Bnd 2361 z3 := Bnd.pt (n := 1934) (Nat.le_of_ble_eq_true (by kernel_rfl)) ab3 (by kernel_rfl)
def e4 : List (Nat × Option Obj) := [qo 1931 (.iter (some 1648) 2 [1] (some 1) 2),
  qo 1933 (ct 196 [(qs 5 0x7865646e69), (qu 0), (.slice none 0 (.exact 0)), qe, (qu 2), (.slice none 0 (.exact 0))])]
def a4 : T16 := pt a3 e4
theorem ab4 : Bnd 1934 a4 := Bnd.pt (n := 1934) (Nat.le_of_ble_eq_true (by kernel_rfl)) ab3 (by kernel_rfl)
def d4 : List (Nat × Option Obj) := [qo 1646 (cv 258 [(qp 382 0), (qp 2352 0), (qm 1645), qz]),
  qo 1645 (.map [((qs 6 0x10061010000), (qi 1), 0), ((qs 10 0x1007865646e69010003), (qi 1), 1)] 2),
  qo 2213 (ct 196 [(qs 5 0x7865646e69), (qu 0), (.slice none 0 (.exact 0)), qe, (qu 2), (.slice none 0 (.exact 0))]),
  qo 2336 (.chan 0 [] false),
  qo 2337 (cv 341 [(.int .u32 (.ofNat 0)), (.int .i32 (.ofNat 0)), (.int .u32 (.ofNat 0)), (.chan (some 2336))]),
  qo 2338 (cv 382 [(qs 10 0x1007865646e69010003), (ql 2213 0 2 (.tip 3)), (qp 2337 0)]),
  qo 2340 (ct 359 [(qp 1923 0), (qp 2348 0)]),
  qo 2341 (.chan 0 [] false),
  qo 2342 (cv 341 [(.int .u32 (.ofNat 0)), (.int .i32 (.ofNat 0)), (.int .u32 (.ofNat 0)), (.chan (some 2341))]),
  qo 2343 (cv 364 [qe, qn, (qk 2340 0 2), (qp 2342 0)]),
  qo 2345 (ct 359 [(qp 1050 0), (qp 2351 0), (qp 822 0), (qp 829 0)]),
  qo 2346 (.chan 0 [] false),
  qo 2347 (cv 341 [(.int .u32 (.ofNat 0)), (.int .i32 (.ofNat 0)), (.int .u32 (.ofNat 0)), (.chan (some 2346))]),
  qo 2348 (cv 364 [(qs 3 0x10003), qn, (qk 2345 0 4), (qp 2347 0)]),
  qo 2349 (.chan 0 [] false),
  qo 2350 (cv 341 [(.int .u32 (.ofNat 0)), (.int .i32 (.ofNat 0)), (.int .u32 (.ofNat 0)), (.chan (some 2349))]),
  qo 2351 (cv 364 [(qs 7 0x1007865646e69), (qp 2338 0), (.slice none 0 (.exact 0)), (qp 2350 0)]),
  qo 2352 (cv 366 [(qp 2343 0), (qi 5)]),
  qo 2359 (ct 196 [(qs 5 0x7865646e69), (qu 0), (.slice none 0 (.exact 0)), qe, (qu 1), (.slice none 0 (.exact 0))])]
def p4 : Piece := ⟨39, [(qp 1647 0), (qs 5 0x736b72616d), (.agg [(ql 1933 0 2 (.exact 2))])], 1934, a4, (.tuple [(.agg [(ql 2359 0 2 (.tip 3))]), qt, (qi 0)]), 2361, d4⟩
theorem pb4 : Bnd p4.n p4.t := ab4
def z4 : T16 := pt a4 d4
theorem zb4 : Bnd 2361 z4 := Bnd.pt (n := 1934) (Nat.le_of_ble_eq_true (by kernel_rfl)) ab4 (by kernel_rfl)
def e5 : List (Nat × Option Obj) := [qo 1645 (.bag [((qs 6 0x10061010000), (qi 1)), ((qs 10 0x1007865646e69010003), (qi 1))] 2),
  qo 1931 (.iter (some 1648) 2 [0, 1] (some 0) 2),
  qo 2361 (cv 110 [(ql 2362 0 2 (.exact 2))]),
  qo 2362 (ct 196 [(qs 5 0x7365646f6e), (qu 0), (.slice none 0 (.exact 0)), qe, (qu 2), (.slice none 0 (.exact 0))])]
def a5 : T16 := pt z4 e5
theorem ab5 : Bnd 2363 a5 := Bnd.pt (n := 2361) (Nat.le_of_ble_eq_true (by kernel_rfl)) zb4 (by kernel_rfl)
def d5 : List (Nat × Option Obj) := [qo 1646 (cv 258 [(qp 382 0), (qp 2781 0), (qm 1645), qz]),
  qo 1645 (.bag [((qs 6 0x10061010000), (qi 1)), ((qs 10 0x1007865646e69010003), (qi 1)), ((qs 10 0x1007365646f6e010003), (qi 1))] 3),
  qo 2642 (ct 196 [(qs 5 0x7365646f6e), (qu 0), (.slice none 0 (.exact 0)), qe, (qu 2), (.slice none 0 (.exact 0))]),
  qo 2765 (.chan 0 [] false),
  qo 2766 (cv 341 [(.int .u32 (.ofNat 0)), (.int .i32 (.ofNat 0)), (.int .u32 (.ofNat 0)), (.chan (some 2765))]),
  qo 2767 (cv 382 [(qs 10 0x1007365646f6e010003), (ql 2642 0 2 (.tip 3)), (qp 2766 0)]),
  qo 2769 (ct 359 [(qp 1923 0), (qp 2777 0)]),
  qo 2770 (.chan 0 [] false),
  qo 2771 (cv 341 [(.int .u32 (.ofNat 0)), (.int .i32 (.ofNat 0)), (.int .u32 (.ofNat 0)), (.chan (some 2770))]),
  qo 2772 (cv 364 [qe, qn, (qk 2769 0 2), (qp 2771 0)]),
  qo 2774 (ct 359 [(qp 1050 0), (qp 2351 0), (qp 2780 0), (qp 829 0)]),
  qo 2775 (.chan 0 [] false),
  qo 2776 (cv 341 [(.int .u32 (.ofNat 0)), (.int .i32 (.ofNat 0)), (.int .u32 (.ofNat 0)), (.chan (some 2775))]),
  qo 2777 (cv 364 [(qs 3 0x10003), qn, (qk 2774 0 4), (qp 2776 0)]),
  qo 2778 (.chan 0 [] false),
  qo 2779 (cv 341 [(.int .u32 (.ofNat 0)), (.int .i32 (.ofNat 0)), (.int .u32 (.ofNat 0)), (.chan (some 2778))]),
  qo 2780 (cv 364 [(qs 7 0x1007365646f6e), (qp 2767 0), (.slice none 0 (.exact 0)), (qp 2779 0)]),
  qo 2781 (cv 366 [(qp 2772 0), (qi 5)]),
  qo 2788 (ct 196 [(qs 5 0x7365646f6e), (qu 0), (.slice none 0 (.exact 0)), qe, (qu 1), (.slice none 0 (.exact 0))])]
def p5 : Piece := ⟨39, [(qp 1647 0), (qs 5 0x736b72616d), (.agg [(ql 2362 0 2 (.exact 2))])], 2363, a5, (.tuple [(.agg [(ql 2788 0 2 (.tip 3))]), qt, (qi 0)]), 2790, d5⟩
theorem pb5 : Bnd p5.n p5.t := ab5
def z5 : T16 := pt a5 d5
theorem zb5 : Bnd 2790 z5 := Bnd.pt (n := 2363) (Nat.le_of_ble_eq_true (by kernel_rfl)) ab5 (by kernel_rfl)
def e6 : List (Nat × Option Obj) := [qo 1645 (.bag [((qs 6 0x10061010000), (qi 1)), ((qs 10 0x1007365646f6e010003), (qi 1))] 2),
  qo 1931 (.iter (some 1648) 2 [0, 1] (some 1) 2),
  qo 2361 (cv 110 [(ql 2362 0 2 (.exact 2))]),
  qo 2362 (ct 196 [(qs 5 0x7865646e69), (qu 0), (.slice none 0 (.exact 0)), qe, (qu 2), (.slice none 0 (.exact 0))])]
def a6 : T16 := pt z3 e6
theorem ab6 : Bnd 2363 a6 := Bnd.pt (n := 2361) (Nat.le_of_ble_eq_true (by kernel_rfl)) zb3 (by kernel_rfl)
def d6 : List (Nat × Option Obj) := [qo 1646 (cv 258 [(qp 382 0), (qp 2781 0), (qm 1645), qz]),
  qo 1645 (.bag [((qs 6 0x10061010000), (qi 1)), ((qs 10 0x1007865646e69010003), (qi 1)), ((qs 10 0x1007365646f6e010003), (qi 1))] 3),
  qo 2642 (ct 196 [(qs 5 0x7865646e69), (qu 0), (.slice none 0 (.exact 0)), qe, (qu 2), (.slice none 0 (.exact 0))]),
  qo 2765 (.chan 0 [] false),
  qo 2766 (cv 341 [(.int .u32 (.ofNat 0)), (.int .i32 (.ofNat 0)), (.int .u32 (.ofNat 0)), (.chan (some 2765))]),
  qo 2767 (cv 382 [(qs 10 0x1007865646e69010003), (ql 2642 0 2 (.tip 3)), (qp 2766 0)]),
  qo 2769 (ct 359 [(qp 1923 0), (qp 2777 0)]),
  qo 2770 (.chan 0 [] false),
  qo 2771 (cv 341 [(.int .u32 (.ofNat 0)), (.int .i32 (.ofNat 0)), (.int .u32 (.ofNat 0)), (.chan (some 2770))]),
  qo 2772 (cv 364 [qe, qn, (qk 2769 0 2), (qp 2771 0)]),
  qo 2774 (ct 359 [(qp 1050 0), (qp 2780 0), (qp 2351 0), (qp 829 0)]),
  qo 2775 (.chan 0 [] false),
  qo 2776 (cv 341 [(.int .u32 (.ofNat 0)), (.int .i32 (.ofNat 0)), (.int .u32 (.ofNat 0)), (.chan (some 2775))]),
  qo 2777 (cv 364 [(qs 3 0x10003), qn, (qk 2774 0 4), (qp 2776 0)]),
  qo 2778 (.chan 0 [] false),
  qo 2779 (cv 341 [(.int .u32 (.ofNat 0)), (.int .i32 (.ofNat 0)), (.int .u32 (.ofNat 0)), (.chan (some 2778))]),
  qo 2780 (cv 364 [(qs 7 0x1007865646e69), (qp 2767 0), (.slice none 0 (.exact 0)), (qp 2779 0)]),
  qo 2781 (cv 366 [(qp 2772 0), (qi 5)]),
  qo 2788 (ct 196 [(qs 5 0x7865646e69), (qu 0), (.slice none 0 (.exact 0)), qe, (qu 1), (.slice none 0 (.exact 0))])]
def p6 : Piece := ⟨39, [(qp 1647 0), (qs 5 0x736b72616d), (.agg [(ql 2362 0 2 (.exact 2))])], 2363, a6, (.tuple [(.agg [(ql 2788 0 2 (.tip 3))]), qt, (qi 0)]), 2790, d6⟩
theorem pb6 : Bnd p6.n p6.t := ab6
def z6 : T16 := pt a6 d6
theorem zb6 : Bnd 2790 z6 := Bnd.pt (n := 2363) (Nat.le_of_ble_eq_true (by kernel_rfl)) ab6 (by kernel_rfl)
end Go.Am.BSt
