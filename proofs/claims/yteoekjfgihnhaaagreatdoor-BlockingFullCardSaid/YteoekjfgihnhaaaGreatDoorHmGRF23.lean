/- Parts of the proof by the abstract machine: BInsS, BCfg, BFire, BSt. -/
import Derived.Test.YteoekjfgihnhaaaGreatDoorHmGRF1
import Derived.Test.YteoekjfgihnhaaaGreatDoorHmGRF18
import Derived.Test.YteoekjfgihnhaaaGreatDoorChecked
import Derived.KernelRfl
import Derived.Test.YteoekjfgihnhaaaGreatDoorHmGRF14
import Derived.Test.YteoekjfgihnhaaaGreatDoorHmGRF17
import Derived.Test.YteoekjfgihnhaaaGreatDoorHmGRF19
import Derived.Test.YteoekjfgihnhaaaGreatDoorHmGRF20
import Derived.Test.YteoekjfgihnhaaaGreatDoorHmGRF15
set_option linter.all false
noncomputable section
namespace Go.Am
open Go.RowKit Go.Proofs

theorem hIns_ok : CallMOk Tryz.prog (insM [275]) := insM_ok fun f hf => by
  rw [List.mem_singleton] at hf
  subst hf
  refine ⟨⟨(blt_iff _ _).1 (by kernel_rfl), fun args w => enters_of Tryz.func275 (by kernel_rfl) rfl args w⟩, ?_, 359, .pointer none, ?_, by kernel_rfl⟩
  · intro b off n c i vb voff m vc cs vs w hi hm hroom hb hvb hcl hvl hcs hsp hfz hvs h1c h1v tA tB kA kB hsa hsb hkB hfa hfe
    exact ins_shift b off n c i vb voff m vc cs vs w hi hm hroom hb hvb hcl hvl hcs hsp hfz hvs h1c h1v tA tB kA kB hsa hsb hkB hfa hfe
  · intro b off n c i vb voff m vc cs vs w hi hm hnc hroom hbig hcl hvl hcs hvs h1c h1v
    exact ins_grow b off n c i vb voff m vc cs vs w hi hm hnc hroom hbig hcl hvl hcs hvs h1c h1v
end Go.Am

noncomputable section
namespace Go.Am
open Go.RowKit Go.Proofs

def hNat : List (FuncId × NK) := [(132, .mark0), (133, .cas .i32), (134, .mark0), (135, .marked), (137, .marked), (138, .add .i32), (191, .storeP), (196, .loadP), (261, .noEscape), (262, .noZero 138 5), (311, .cntStr), (373, .load .u32), (388, .idxStr), (392, .store)]
def pl34_0 : Plan := .quiet 0 (.quiet 1 (.quiet 2 (.quiet 3 (.quiet 4 (.quiet 5 (.quiet 6 (.quiet 7 (.alt 8 [] (.alt 9 [3, 7] (.alt 10 [] (.done) (.stop)) (.stop)) (.alt 9 [3, 7] (.alt 8 [] (.alt 10 [] (.done) (.stop)) (.stop)) (.stop))))))))))
def pl36_4 : Plan := .quiet 0 (.quiet 1 (.alt 2 [1] (.quiet 3 (.alt 4 [1] (.quiet 5 (.alt 6 [] (.quiet 7 (.done)) (.stop))) (.stop))) (.alt 4 [1] (.alt 2 [1] (.quiet 3 (.quiet 5 (.alt 6 [] (.quiet 7 (.done)) (.stop)))) (.stop)) (.stop))))
def pl74_5 : Plan := .quiet 0 (.quiet 1 (.quiet 2 (.quiet 3 (.quiet 4 (.quiet 5 (.alt 6 [] (.quiet 7 (.quiet 8 (.quiet 9 (.quiet 10 (.alt 11 [3, 5] (.quiet 12 (.alt 13 [] (.quiet 14 (.done)) (.stop))) (.stop)))))) (.alt 11 [3, 5] (.alt 6 [] (.quiet 7 (.quiet 8 (.quiet 9 (.quiet 10 (.quiet 12 (.alt 13 [] (.quiet 14 (.done)) (.stop))))))) (.stop)) (.stop))))))))
def pl88_8 : Plan := .quiet 0 (.quiet 1 (.alt 2 [] (.quiet 3 (.alt 4 [] (.quiet 5 (.alt 6 [] (.done) (.stop))) (.stop))) (.alt 4 [] (.quiet 5 (.alt 2 [] (.quiet 3 (.alt 6 [] (.done) (.stop))) (.stop))) (.stop))))
def pl102_1 : Plan := .quiet 0 (.quiet 1 (.quiet 2 (.quiet 3 (.quiet 4 (.alt 5 [3] (.alt 6 [3] (.alt 7 [] (.quiet 8 (.quiet 9 (.quiet 10 (.quiet 11 (.quiet 12 (.alt 13 [3] (.alt 14 [] (.quiet 15 (.quiet 16 (.quiet 17 (.done)))) (.stop)) (.stop))))))) (.alt 13 [3] (.alt 7 [] (.quiet 8 (.quiet 9 (.quiet 10 (.quiet 11 (.quiet 12 (.alt 14 [] (.quiet 15 (.quiet 16 (.quiet 17 (.done)))) (.stop))))))) (.stop)) (.stop))) (.alt 13 [3] (.alt 6 [3] (.alt 7 [] (.quiet 8 (.quiet 9 (.quiet 10 (.quiet 11 (.quiet 12 (.alt 14 [] (.quiet 15 (.quiet 16 (.quiet 17 (.done)))) (.stop))))))) (.stop)) (.stop)) (.stop))) (.alt 13 [3] (.alt 5 [3] (.alt 6 [3] (.alt 7 [] (.quiet 8 (.quiet 9 (.quiet 10 (.quiet 11 (.quiet 12 (.alt 14 [] (.quiet 15 (.quiet 16 (.quiet 17 (.done)))) (.stop))))))) (.stop)) (.stop)) (.stop)) (.stop)))))))
def pl198_19 : Plan := .quiet 0 (.quiet 1 (.quiet 3 (.alt 2 [3] (.alt 4 [] (.alt 5 [] (.alt 6 [] (.alt 7 [] (.quiet 8 (.done)) (.stop)) (.stop)) (.stop)) (.stop)) (.alt 4 [] (.alt 2 [3] (.alt 5 [] (.alt 6 [] (.alt 7 [] (.quiet 8 (.done)) (.stop)) (.stop)) (.stop)) (.stop)) (.stop)))))
def pl206_16 : Plan := .quiet 0 (.quiet 1 (.quiet 2 (.quiet 3 (.alt 4 [] (.alt 5 [] (.quiet 6 (.alt 7 [] (.quiet 8 (.done)) (.stop))) (.stop)) (.alt 5 [] (.alt 4 [] (.quiet 6 (.alt 7 [] (.quiet 8 (.done)) (.stop))) (.stop)) (.stop))))))
def hPlan (f : FuncId) (r : Nat) : Option Plan :=
  bif Nat.beq f 34 && Nat.beq r 0 then some pl34_0 else bif Nat.beq f 36 && Nat.beq r 4 then some pl36_4 else bif Nat.beq f 74 && Nat.beq r 5 then some pl74_5 else bif Nat.beq f 88 && Nat.beq r 8 then some pl88_8 else bif Nat.beq f 102 && Nat.beq r 1 then some pl102_1 else bif Nat.beq f 198 && Nat.beq r 19 then some pl198_19 else bif Nat.beq f 206 && Nat.beq r 16 then some pl206_16 else none
def hOv : CallM := orM (firedM Tryz.prog 104 341 339) (orM (insM [275]) (sortedM [171] [242, 277]))
def hDov : CallM := stillM [(105, 3)]
def fnAt (P : Program) (f : FuncId) : Func := (P.funcs[f]?).getD default
def codeAt (P : Program) (f : FuncId) : Code := ((fnAt P f).body).getD .skip
def envAt (r : Option (Out × List AV × Heap)) : List AV := match r with | some (_, e, _) => e | none => []
def kindsO : Obj := .cells [.str [], .str [116, 101, 120, 116], .str [110, 117, 109], .str [108, 105, 115, 116]] .ro
def hHeap : Heap := (⟨Tryz.prog.globals.size, .leaf, []⟩ : Heap).set 1 kindsO
theorem parse_runs (a b c : AV) (h : Heap) : execS noDraw noCallA Tryz.prog 0 (codeAt Tryz.prog 105) (frameA (fnAt Tryz.prog 105) [a, b, c]) h = some (.normal, envAt (execS noDraw noCallA Tryz.prog 0 (codeAt Tryz.prog 105) (frameA (fnAt Tryz.prog 105) [a, b, c]) h), h) := by kernel_rfl
theorem hDov_ok (hF : Fns Tryz.prog) : DCallOk Tryz.prog hDov := stillM_ok hF fun p hp args h hl => by
  rw [List.mem_singleton] at hp
  subst hp
  match args, hl with
  | [a, b, c], _ => exact ⟨fnAt Tryz.prog 105, codeAt Tryz.prog 105, .normal, _, 0, by kernel_rfl, by kernel_rfl, parse_runs a b c h, .inl rfl, by kernel_rfl⟩
def hCall : CallM := callM Tryz.prog (drawX Tryz.prog hPlan) (natCall hNat) hOv hDov 100000 200
end Go.Am

noncomputable section
namespace Go.Am
open Go.RowKit Go.Proofs

@[simp] theorem seqX_normal {P : Program} {b : Code} {K : PostX} {e : List AV} {h : Heap} : seqX P b K .normal e h = WPX P b e h K := rfl
theorem noOv_ok : CallsOk Tryz.prog (fun _ _ _ => none) := fun _ _ _ _ h => by cases h
set_option maxRecDepth 100000 in
theorem fired_ok (hF : Fns Tryz.prog) (hm : Tryz.prog.follows .mixedOrders = true) (h : Heap) (l l2 : Loc) (i : Nat) (b : Bool) (h1 : fieldAddrA Tryz.prog 341 (.ptr (some l)) 1 = some (.ptr (some l2))) (h2 : loadA Tryz.prog h 339 l2 = some (.chan (some i))) (h3 : h.get i = some (.chan 0 [] b)) :
    CallOk Tryz.prog 104 [.ptr (some l)] h (.ret (.bool b) h) := by
  refine callX hF (fn := Tryz.f104) (by kernel_rfl) rfl ?_
  have hl : (frameA Tryz.f104 [.ptr (some l)]).length = 10 := frameA_length (Nat.le_of_ble_eq_true rfl)
  have h0 : nth (frameA Tryz.f104 [.ptr (some l)]) 0 = .ptr (some l) := frameA_nth (Nat.le_of_ble_eq_true rfl)
  generalize frameA Tryz.f104 [.ptr (some l)] = e at hl h0
  apply WPX.seq; refine WPX.plain hF hm noOv_ok ?_
  apply WP.region; simp [hl]
  repeat apply WPX.seq
  refine WPX.plain hF hm noOv_ok ?_
  apply WP.region; simp [hl, h0, h1, h2]
  repeat apply WPX.seq
  refine WPX.select (P := Tryz.prog) (i := i) (closed := b) hF hm noOv_ok rfl (by simp [hl]) h3 (z := .agg []) (by kernel_rfl) ?_
  cases b with
  | true =>
    simp [hl, extractA]
    repeat apply WPX.seq
    refine WPX.plain hF hm noOv_ok ?_
    apply WP.block
    apply WP.cond (by simp [hl]; rfl)
    · intro _
      repeat apply WP.seq
      apply WP.region; simp [hl]
      apply WP.ret
      simp [hl, resultsA, resultA, single]
    · intro hf; cases hf
  | false =>
    simp [hl, extractA]
    repeat apply WPX.seq
    refine WPX.plain hF hm noOv_ok ?_
    apply WP.block
    apply WP.cond (by simp [hl]; rfl)
    · intro hf; cases hf
    · intro _
      repeat apply WP.seq
      apply WP.region; simp [hl]
      apply WP.ret
      simp [hl, resultsA, resultA, single]
set_option maxRecDepth 100000 in
theorem hFired_ok (hF : Fns Tryz.prog) (hm : Tryz.prog.follows .mixedOrders = true) : CallMOk Tryz.prog (firedM Tryz.prog 104 341 339) := firedM_ok (fired_ok hF hm)
end Go.Am

noncomputable section
namespace Go.Am.BSt
open Go.RowKit Go.Proofs

theorem hb0 : Bnd 10 hHeap.tr := fun i hi => by
  show (T16.put .leaf 1 (some kindsO)).get i = none
  rw [T16.get_put_ne _ (by omega)]
  exact T16.get_leaf i
def d1 : List (Nat × Option Obj) := [qo 10 (cv 100 [(.int .i32 (.ofNat 0)), (.int .u32 (.ofNat 0)), (qp 388 0)]),
  qo 54 (ct 262 [(qs 4 0x656d616e), (qi 1), (qs 4 0x72646461), (qi 1), (qs 4 0x6564616d), (qi 2), (qs 7 0x6465676e616863), (qi 2)]),
  qo 73 (ct 3 [(qi 0)]),
  qo 75 (ct 189 [(qs 2 0x6469), (qk 73 0 1), qt, qz, qz]),
  qo 137 (ct 262 [(qs 4 0x65646f6e), (qi 1), (qs 2 0x6469), (qi 1), (qs 4 0x656d616e), (qi 1), (qs 4 0x74726f70), (qi 2), (qs 4 0x73676174), (qi 3), (qs 4 0x6564616d), (qi 2), (qs 7 0x6465676e616863), (qi 2)]),
  qo 164 (ct 3 [(qi 0), (qi 1)]),
  qo 188 (ct 3 [(qi 2)]),
  qo 190 (ct 189 [(qs 2 0x6469), (qk 164 0 2), qt, qz, qz, (qs 4 0x656d616e), (qk 188 0 1), qz, qz, qz]),
  qo 253 (ct 262 [(qs 4 0x65646f6e), (qi 1), (qs 2 0x6469), (qi 1), (qs 7 0x65636976726573), (qi 1), (qs 6 0x737574617473), (qi 2), (qs 4 0x65746f6e), (qi 1), (qs 4 0x6564616d), (qi 2), (qs 7 0x6465676e616863), (qi 2)]),
  qo 280 (ct 3 [(qi 0), (qi 1)]),
  qo 311 (ct 3 [(qi 0), (qi 2)]),
  qo 337 (ct 3 [(qi 3)]),
  qo 339 (ct 189 [(qs 2 0x6469), (qk 280 0 2), qt, qz, qz, (qs 7 0x65636976726573), (qk 311 0 2), qz, qz, qt, (qs 6 0x737574617473), (qk 337 0 1), qz, qz, qz]),
  qo 347 (ct 174 [(qs 5 0x7365646f6e), (ql 54 0 4 (.tip 2)), (ql 75 0 1 (.tip 5)), (qs 8 0x7365636976726573), (ql 137 0 7 (.tip 2)), (ql 190 0 2 (.tip 5)), (qs 6 0x736b63656863), (ql 253 0 7 (.tip 2)), (ql 339 0 3 (.tip 5)), (qs 5 0x736b72616d), (ql 358 0 2 (.tip 2)), (ql 379 0 1 (.tip 5))]),
  qo 358 (ct 262 [(qs 5 0x656c626174), (qi 1), (qs 5 0x65756c6176), (qi 2)]),
  qo 377 (ct 3 [(qi 0)]),
  qo 379 (ct 189 [(qs 2 0x6469), (qk 377 0 1), qt, qz, qz]),
  qo 381 (.map [((qs 5 0x7365646f6e), (qi 0), 0), ((qs 8 0x7365636976726573), (qi 1), 1), ((qs 6 0x736b63656863), (qi 2), 2), ((qs 5 0x736b72616d), (qi 3), 3)] 4),
  qo 382 (cv 248 [(qp 1275 0), (.int .i32 (.ofNat 0)), (.int .u32 (.ofNat 0))]),
  qo 388 (cv 170 [(ql 347 0 4 (.tip 3)), (qm 381), (qp 382 0)]),
  qo 572 (ct 196 [(qs 5 0x7365646f6e), (qu 0), (.slice none 0 (.exact 0)), qe, (qu 1), (.slice none 0 (.exact 0))]),
  qo 588 (.chan 0 [] false),
  qo 589 (cv 341 [(.int .u32 (.ofNat 0)), (.int .i32 (.ofNat 0)), (.int .u32 (.ofNat 0)), (.chan (some 588))]),
  qo 590 (cv 382 [(qs 10 0x1007365646f6e010003), (ql 572 0 2 (.tip 3)), (qp 589 0)]),
  qo 594 (.chan 0 [] false),
  qo 595 (cv 341 [(.int .u32 (.ofNat 0)), (.int .i32 (.ofNat 0)), (.int .u32 (.ofNat 0)), (.chan (some 594))]),
  qo 798 (ct 196 [(qs 8 0x7365636976726573), (qu 0), (.slice none 0 (.exact 0)), qe, (qu 1), (.slice none 0 (.exact 0))]),
  qo 814 (.chan 0 [] false),
  qo 815 (cv 341 [(.int .u32 (.ofNat 0)), (.int .i32 (.ofNat 0)), (.int .u32 (.ofNat 0)), (.chan (some 814))]),
  qo 816 (cv 382 [(qs 13 0x1007365636976726573010003), (ql 798 0 2 (.tip 3)), (qp 815 0)]),
  qo 822 (cv 364 [(qs 7 0x1007365646f6e), (qp 590 0), (.slice none 0 (.exact 0)), (qp 595 0)]),
  qo 827 (.chan 0 [] false),
  qo 828 (cv 341 [(.int .u32 (.ofNat 0)), (.int .i32 (.ofNat 0)), (.int .u32 (.ofNat 0)), (.chan (some 827))]),
  qo 829 (cv 364 [(qs 10 0x1007365636976726573), (qp 816 0), (.slice none 0 (.exact 0)), (qp 828 0)]),
  qo 1019 (ct 196 [(qs 6 0x736b63656863), (qu 0), (.slice none 0 (.exact 0)), qe, (qu 1), (.slice none 0 (.exact 0))]),
  qo 1035 (.chan 0 [] false),
  qo 1036 (cv 341 [(.int .u32 (.ofNat 0)), (.int .i32 (.ofNat 0)), (.int .u32 (.ofNat 0)), (.chan (some 1035))]),
  qo 1037 (cv 382 [(qs 11 0x100736b63656863010003), (ql 1019 0 2 (.tip 3)), (qp 1036 0)]),
  qo 1048 (.chan 0 [] false),
  qo 1049 (cv 341 [(.int .u32 (.ofNat 0)), (.int .i32 (.ofNat 0)), (.int .u32 (.ofNat 0)), (.chan (some 1048))]),
  qo 1050 (cv 364 [(qs 8 0x100736b63656863), (qp 1037 0), (.slice none 0 (.exact 0)), (qp 1049 0)]),
  qo 1234 (ct 196 [(qs 5 0x7865646e69), (qu 0), (.slice none 0 (.exact 0)), qe, (qu 1), (.slice none 0 (.exact 0))]),
  qo 1250 (.chan 0 [] false),
  qo 1251 (cv 341 [(.int .u32 (.ofNat 0)), (.int .i32 (.ofNat 0)), (.int .u32 (.ofNat 0)), (.chan (some 1250))]),
  qo 1252 (cv 382 [(qs 10 0x1007865646e69010003), (ql 1234 0 2 (.tip 3)), (qp 1251 0)]),
  qo 1254 (ct 359 [(qp 1262 0)]),
  qo 1255 (.chan 0 [] false),
  qo 1256 (cv 341 [(.int .u32 (.ofNat 0)), (.int .i32 (.ofNat 0)), (.int .u32 (.ofNat 0)), (.chan (some 1255))]),
  qo 1257 (cv 364 [qe, qn, (qk 1254 0 1), (qp 1256 0)]),
  qo 1260 (.chan 0 [] false),
  qo 1261 (cv 341 [(.int .u32 (.ofNat 0)), (.int .i32 (.ofNat 0)), (.int .u32 (.ofNat 0)), (.chan (some 1260))]),
  qo 1262 (cv 364 [(qs 3 0x10003), qn, (qk 1267 0 4), (qp 1261 0)]),
  qo 1263 (.chan 0 [] false),
  qo 1264 (cv 341 [(.int .u32 (.ofNat 0)), (.int .i32 (.ofNat 0)), (.int .u32 (.ofNat 0)), (.chan (some 1263))]),
  qo 1265 (cv 364 [(qs 7 0x1007865646e69), (qp 1252 0), (.slice none 0 (.exact 0)), (qp 1264 0)]),
  qo 1267 (co [(qp 1050 0), (qp 1265 0), (qp 822 0), (qp 829 0)]),
  qo 1268 (cv 366 [(qp 1257 0), (qi 4)]),
  qo 1275 (cv 251 [(qp 1268 0), (qu 1)])]
def p1 : Piece := ⟨15, [(qu 1)], 10, hHeap.tr, (qp 10 0), 1290, d1⟩
theorem pb1 : Bnd p1.n p1.t := hb0
def z1 : T16 := pt hHeap.tr d1
theorem zb1 : Bnd 1290 z1 := Bnd.pt (n := 10) (Nat.le_of_ble_eq_true (by kernel_rfl)) hb0 (by kernel_rfl)
def e2 : List (Nat × Option Obj) := [qo 10 (cv 100 [(.int .i32 (.ofNat 1)), (.int .u32 (.ofNat 0)), (qp 388 0)]),
  qo 382 (cv 248 [(qp 1275 0), (.int .i32 (.ofNat 1)), (.int .u32 (.ofNat 0))]),
  qo 1290 (.map [((qi 1), (qp 1297 0), 0)] 1),
  qo 1291 (cv 147 [(qu 0), (qu 1), (qi 2), (qk 1299 0 1), (qm 1290)]),
  qo 1292 (.map [((qi 1), (qp 1295 0), 0)] 1),
  qo 1293 (cv 81 [(qp 1291 0), (qp 10 0), (qi 2), (qi 1), (qi 1), (qm 1292)]),
  qo 1294 (cv 38 [(qi 1), qe, qe, qz, (qi 0), (qu 1), (qu 0)]),
  qo 1295 (cv 85 [(qi 1), qe, qe, qz, (qi 0), (qu 1), (qu 0), (qi 3), (qp 1301 0), (qp 1441 0), qz, qz, (qu 0), (qi 0), (.slice none 0 (.exact 0)), (.slice none 0 (.exact 0)), (.slice none 0 (.exact 0)), (.slice none 0 (.exact 0)), (.slice none 0 (.exact 0))]),
  qo 1296 (cv 38 [(qi 1), qe, qe, qz, (qi 0), (qu 1), (qu 0)]),
  qo 1297 (cv 149 [(qu 300), (qu 0), (qi 1), (qi 0)]),
  qo 1298 (ct 142 [(qp 1297 0)]),
  qo 1299 (ct 142 [(qp 1297 0)]),
  qo 1300 (cv 201 [(ql 347 0 4 (.tip 3)), (qm 381), (qp 1268 0), (qu 1), qz]),
  qo 1301 (cv 133 [(qp 1300 0)]),
  qo 1439 (cv 74 [(qu 1), (qi 0), (.slice none 0 (.exact 0)), (.slice none 0 (.exact 0)), (.slice none 0 (.exact 0)), (.slice none 0 (.exact 0)), (.slice none 0 (.exact 0))]),
  qo 1440 (ct 9 [(qs 5 0x7365646f6e)]),
  qo 1441 (cv 225 [(qi 1), (qk 1543 0 1)]),
  qo 1443 (ct 292 [(qi 1), (qs 5 0x7365646f6e), (qu 0)]),
  qo 1539 (ct 196 [(qs 5 0x7365646f6e), (qu 0), (.slice none 0 (.exact 0)), qe, (qu 1), (.slice none 0 (.exact 0))]),
  qo 1541 (cv 110 [(ql 1539 0 2 (.tip 3))]),
  qo 1542 (ct 157 [(qp 589 0)]),
  qo 1543 (ct 157 [(qp 589 0)]),
  qo 1544 (ct 127 [(qi 1), (qs 1 0x61), (qs 8 0x312e302e302e3031), (qu 0), (qu 0), qe, qe, qe, (qi 0), (.slice none 0 (.exact 0)), (qu 0), (qu 0), qe, qe, qe, (qi 0), qe, (qu 0), (qu 0), qz, (qu 0)]),
  qo 1545 (cv 46 [(qu 0), qz, (qi 0), (qi 0)]),
  qo 1546 (cv 201 [(ql 347 0 4 (.tip 3)), (qm 381), (qp 1268 0), (qu 1), qz]),
  qo 1547 (cv 133 [(qp 1546 0)]),
  qo 1549 (ct 292 [(qi 1), (qs 5 0x7865646e69), (qu 0)]),
  qo 1642 (ct 196 [(qs 5 0x7865646e69), (qu 0), (.slice none 0 (.exact 0)), qe, (qu 1), (.slice none 0 (.exact 0))]),
  qo 1644 (cv 110 [(ql 1642 0 2 (.tip 3))]),
  qo 1645 (.map [] 0),
  qo 1646 (cv 258 [(qp 382 0), (qp 1268 0), (qm 1645), qz]),
  qo 1647 (cv 180 [(ql 347 0 4 (.tip 3)), (qm 381), (qp 1646 0), (qu 1)]),
  qo 1648 (.map [] 0),
  qo 1649 (cv 119 [(qp 1647 0), (qu 2), (qm 1648)]),
  qo 1650 (cv 127 [(qi 1), (qs 1 0x61), (qs 8 0x312e302e302e3031), (qu 0), (qu 0), qe, qe, qe, (qi 0), (.slice none 0 (.exact 0)), (qu 0), (qu 0), qe, qe, qe, (qi 0), qe, (qu 0), (qu 0), qz, (qu 0)])]
def a2 : T16 := pt z1 e2
theorem ab2 : Bnd 1651 a2 := Bnd.pt (n := 1290) (Nat.le_of_ble_eq_true (by kernel_rfl)) zb1 (by kernel_rfl)
def d2 : List (Nat × Option Obj) := [qo 1648 (.map [((qs 5 0x7365646f6e), (qu 2), 0)] 1),
  qo 1646 (cv 258 [(qp 382 0), (qp 1926 0), (qm 1645), qz]),
  qo 1645 (.map [((qs 6 0x10061010000), (qi 1), 0)] 1),
  qo 1897 (ct 196 [(qs 1 0x61), (qu 0), (.slice none 0 (.exact 0)), (qs 8 0x312e302e302e3031), (qu 0), (.slice none 0 (.exact 0)), qe, (qu 2), (.slice none 0 (.exact 0)), qe, (qu 2), (.slice none 0 (.exact 0))]),
  qo 1913 (.chan 0 [] false),
  qo 1914 (cv 341 [(.int .u32 (.ofNat 0)), (.int .i32 (.ofNat 0)), (.int .u32 (.ofNat 0)), (.chan (some 1913))]),
  qo 1915 (cv 382 [(qs 6 0x10061010000), (ql 1897 0 4 (.tip 3)), (qp 1914 0)]),
  qo 1918 (.chan 0 [] false),
  qo 1919 (cv 341 [(.int .u32 (.ofNat 0)), (.int .i32 (.ofNat 0)), (.int .u32 (.ofNat 0)), (.chan (some 1918))]),
  qo 1920 (cv 364 [qe, qn, (qk 1925 0 2), (qp 1919 0)]),
  qo 1921 (.chan 0 [] false),
  qo 1922 (cv 341 [(.int .u32 (.ofNat 0)), (.int .i32 (.ofNat 0)), (.int .u32 (.ofNat 0)), (.chan (some 1921))]),
  qo 1923 (cv 364 [(qs 6 0x10061010000), (qp 1915 0), (.slice none 0 (.exact 0)), (qp 1922 0)]),
  qo 1925 (co [(qp 1923 0), (qp 1262 0)]),
  qo 1926 (cv 366 [(qp 1920 0), (qi 5)])]
def p2 : Piece := ⟨45, [(qp 1649 0), (.agg [(qi 1), (qs 1 0x61), (qs 8 0x312e302e302e3031), (qu 0), (qu 0), qe, qe, qe, (qi 0), (.slice none 0 (.exact 0)), (qu 0), (qu 0), qe, qe, qe, (qi 0), qe, (qu 0), (qu 0), qz, (qu 0)])], 1651, a2, (qi 0), 1931, d2⟩
theorem pb2 : Bnd p2.n p2.t := ab2
def z2 : T16 := pt a2 d2
theorem zb2 : Bnd 1931 z2 := Bnd.pt (n := 1651) (Nat.le_of_ble_eq_true (by kernel_rfl)) ab2 (by kernel_rfl)
def e3 : List (Nat × Option Obj) := [qo 1648 (.map [((qs 5 0x7365646f6e), (qu 2), 0), ((qs 5 0x7865646e69), (qu 2), 1)] 2),
  qo 1931 (.iter (some 1648) 2 [0] (some 0) 2),
  qo 1932 (cv 110 [(ql 1933 0 2 (.exact 2))]),
  qo 1933 (ct 196 [(qs 5 0x7365646f6e), (qu 0), (.slice none 0 (.exact 0)), qe, (qu 2), (.slice none 0 (.exact 0))])]
def a3 : T16 := pt z2 e3
theorem ab3 : Bnd 1934 a3 := Bnd.pt (n := 1931) (Nat.le_of_ble_eq_true (by kernel_rfl)) zb2 (by kernel_rfl)
def d3 : List (Nat × Option Obj) := [qo 1646 (cv 258 [(qp 382 0), (qp 2352 0), (qm 1645), qz]),
  qo 1645 (.map [((qs 6 0x10061010000), (qi 1), 0), ((qs 10 0x1007365646f6e010003), (qi 1), 1)] 2),
  qo 2213 (ct 196 [(qs 5 0x7365646f6e), (qu 0), (.slice none 0 (.exact 0)), qe, (qu 2), (.slice none 0 (.exact 0))]),
  qo 2336 (.chan 0 [] false),
  qo 2337 (cv 341 [(.int .u32 (.ofNat 0)), (.int .i32 (.ofNat 0)), (.int .u32 (.ofNat 0)), (.chan (some 2336))]),
  qo 2338 (cv 382 [(qs 10 0x1007365646f6e010003), (ql 2213 0 2 (.tip 3)), (qp 2337 0)]),
  qo 2340 (ct 359 [(qp 1923 0), (qp 2348 0)]),
  qo 2341 (.chan 0 [] false),
  qo 2342 (cv 341 [(.int .u32 (.ofNat 0)), (.int .i32 (.ofNat 0)), (.int .u32 (.ofNat 0)), (.chan (some 2341))]),
  qo 2343 (cv 364 [qe, qn, (qk 2340 0 2), (qp 2342 0)]),
  qo 2345 (ct 359 [(qp 1050 0), (qp 1265 0), (qp 2351 0), (qp 829 0)]),
  qo 2346 (.chan 0 [] false),
  qo 2347 (cv 341 [(.int .u32 (.ofNat 0)), (.int .i32 (.ofNat 0)), (.int .u32 (.ofNat 0)), (.chan (some 2346))]),
  qo 2348 (cv 364 [(qs 3 0x10003), qn, (qk 2345 0 4), (qp 2347 0)]),
  qo 2349 (.chan 0 [] false),
  qo 2350 (cv 341 [(.int .u32 (.ofNat 0)), (.int .i32 (.ofNat 0)), (.int .u32 (.ofNat 0)), (.chan (some 2349))]),
  qo 2351 (cv 364 [(qs 7 0x1007365646f6e), (qp 2338 0), (.slice none 0 (.exact 0)), (qp 2350 0)]),
  qo 2352 (cv 366 [(qp 2343 0), (qi 5)]),
  qo 2359 (ct 196 [(qs 5 0x7365646f6e), (qu 0), (.slice none 0 (.exact 0)), qe, (qu 1), (.slice none 0 (.exact 0))])]
def p3 : Piece := ⟨39, [(qp 1647 0), (qs 5 0x736b72616d), (.agg [(ql 1933 0 2 (.exact 2))])], 1934, a3, (.tuple [(.agg [(ql 2359 0 2 (.tip 3))]), qt, (qi 0)]), 2361, d3⟩
theorem pb3 : Bnd p3.n p3.t := ab3
def z3 : T16 := pt a3 d3
theorem zb3 : Bnd 2361 z3 := Bnd.pt (n := 1934) (Nat.le_of_ble_eq_true (by kernel_rfl)) ab3 (by kernel_rfl)
def e4 : List (Nat × Option Obj) := [qo 1931 (.iter (some 1648) 2 [1] (some 1) 2),
  qo 1933 (ct 196 [(qs 5 0x7865646e69), (qu 0), (.slice none 0 (.exact 0)), qe, (qu 2), (.slice none 0 (.exact 0))])]
def a4 : T16 := pt a3 e4
theorem ab4 : Bnd 1934 a4 := Bnd.pt (n := 1934) (Nat.le_of_ble_eq_true (by kernel_rfl)) ab3 (by kernel_rfl)
def d4 : List (Nat × Option Obj) := [qo 1646 (cv 258 [(qp 382 0), (qp 2352 0), (qm 1645), qz]),
  qo 1645 (.map [((qs 6 0x10061010000), (qi 1), 0), ((qs 10 0x1007865646e69010003), (qi 1), 1)] 2),
  qo 2213 (ct 196 [(qs 5 0x7865646e69), (qu 0), (.slice none 0 (.exact 0)), qe, (qu 2), (.slice none 0 (.exact 0))]),
  qo 2336 (.chan 0 [] false),
  qo 2337 (cv 341 [(.int .u32 (.ofNat 0)), (.int .i32 (.ofNat 0)), (.int .u32 (.ofNat 0)), (.chan (some 2336))]),
  qo 2338 (cv 382 [(qs 10 0x1007865646e69010003), (ql 2213 0 2 (.tip 3)), (qp 2337 0)]),
  qo 2340 (ct 359 [(qp 1923 0), (qp 2348 0)]),
  qo 2341 (.chan 0 [] false),
  qo 2342 (cv 341 [(.int .u32 (.ofNat 0)), (.int .i32 (.ofNat 0)), (.int .u32 (.ofNat 0)), (.chan (some 2341))]),
  qo 2343 (cv 364 [qe, qn, (qk 2340 0 2), (qp 2342 0)]),
  qo 2345 (ct 359 [(qp 1050 0), (qp 2351 0), (qp 822 0), (qp 829 0)]),
  qo 2346 (.chan 0 [] false),
  qo 2347 (cv 341 [(.int .u32 (.ofNat 0)), (.int .i32 (.ofNat 0)), (.int .u32 (.ofNat 0)), (.chan (some 2346))]),
  qo 2348 (cv 364 [(qs 3 0x10003), qn, (qk 2345 0 4), (qp 2347 0)]),
  qo 2349 (.chan 0 [] false),
  qo 2350 (cv 341 [(.int .u32 (.ofNat 0)), (.int .i32 (.ofNat 0)), (.int .u32 (.ofNat 0)), (.chan (some 2349))]),
  qo 2351 (cv 364 [(qs 7 0x1007865646e69), (qp 2338 0), (.slice none 0 (.exact 0)), (qp 2350 0)]),
  qo 2352 (cv 366 [(qp 2343 0), (qi 5)]),
  qo 2359 (ct 196 [(qs 5 0x7865646e69), (qu 0), (.slice none 0 (.exact 0)), qe, (qu 1), (.slice none 0 (.exact 0))])]
def p4 : Piece := ⟨39, [(qp 1647 0), (qs 5 0x736b72616d), (.agg [(ql 1933 0 2 (.exact 2))])], 1934, a4, (.tuple [(.agg [(ql 2359 0 2 (.tip 3))]), qt, (qi 0)]), 2361, d4⟩
theorem pb4 : Bnd p4.n p4.t := ab4
def z4 : T16 := pt a4 d4
theorem zb4 : Bnd 2361 z4 := Bnd.pt (n := 1934) (Nat.le_of_ble_eq_true (by kernel_rfl)) ab4 (by kernel_rfl)
def e5 : List (Nat × Option Obj) := [qo 1645 (.bag [((qs 6 0x10061010000), (qi 1)), ((qs 10 0x1007865646e69010003), (qi 1))] 2),
  qo 1931 (.iter (some 1648) 2 [0, 1] (some 0) 2),
  qo 2361 (cv 110 [(ql 2362 0 2 (.exact 2))]),
  qo 2362 (ct 196 [(qs 5 0x7365646f6e), (qu 0), (.slice none 0 (.exact 0)), qe, (qu 2), (.slice none 0 (.exact 0))])]
def a5 : T16 := pt z4 e5
theorem ab5 : Bnd 2363 a5 := Bnd.pt (n := 2361) (Nat.le_of_ble_eq_true (by kernel_rfl)) zb4 (by kernel_rfl)
def d5 : List (Nat × Option Obj) := [qo 1646 (cv 258 [(qp 382 0), (qp 2781 0), (qm 1645), qz]),
  qo 1645 (.bag [((qs 6 0x10061010000), (qi 1)), ((qs 10 0x1007865646e69010003), (qi 1)), ((qs 10 0x1007365646f6e010003), (qi 1))] 3),
  qo 2642 (ct 196 [(qs 5 0x7365646f6e), (qu 0), (.slice none 0 (.exact 0)), qe, (qu 2), (.slice none 0 (.exact 0))]),
  qo 2765 (.chan 0 [] false),
  qo 2766 (cv 341 [(.int .u32 (.ofNat 0)), (.int .i32 (.ofNat 0)), (.int .u32 (.ofNat 0)), (.chan (some 2765))]),
  qo 2767 (cv 382 [(qs 10 0x1007365646f6e010003), (ql 2642 0 2 (.tip 3)), (qp 2766 0)]),
  qo 2769 (ct 359 [(qp 1923 0), (qp 2777 0)]),
  qo 2770 (.chan 0 [] false),
  qo 2771 (cv 341 [(.int .u32 (.ofNat 0)), (.int .i32 (.ofNat 0)), (.int .u32 (.ofNat 0)), (.chan (some 2770))]),
  qo 2772 (cv 364 [qe, qn, (qk 2769 0 2), (qp 2771 0)]),
  qo 2774 (ct 359 [(qp 1050 0), (qp 2351 0), (qp 2780 0), (qp 829 0)]),
  qo 2775 (.chan 0 [] false),
  qo 2776 (cv 341 [(.int .u32 (.ofNat 0)), (.int .i32 (.ofNat 0)), (.int .u32 (.ofNat 0)), (.chan (some 2775))]),
  qo 2777 (cv 364 [(qs 3 0x10003), qn, (qk 2774 0 4), (qp 2776 0)]),
  qo 2778 (.chan 0 [] false),
  qo 2779 (cv 341 [(.int .u32 (.ofNat 0)), (.int .i32 (.ofNat 0)), (.int .u32 (.ofNat 0)), (.chan (some 2778))]),
  qo 2780 (cv 364 [(qs 7 0x1007365646f6e), (qp 2767 0), (.slice none 0 (.exact 0)), (qp 2779 0)]),
  qo 2781 (cv 366 [(qp 2772 0), (qi 5)]),
  qo 2788 (ct 196 [(qs 5 0x7365646f6e), (qu 0), (.slice none 0 (.exact 0)), qe, (qu 1), (.slice none 0 (.exact 0))])]
def p5 : Piece := ⟨39, [(qp 1647 0), (qs 5 0x736b72616d), (.agg [(ql 2362 0 2 (.exact 2))])], 2363, a5, (.tuple [(.agg [(ql 2788 0 2 (.tip 3))]), qt, (qi 0)]), 2790, d5⟩
theorem pb5 : Bnd p5.n p5.t := ab5
def z5 : T16 := pt a5 d5
theorem zb5 : Bnd 2790 z5 := Bnd.pt (n := 2363) (Nat.le_of_ble_eq_true (by kernel_rfl)) ab5 (by kernel_rfl)
def e6 : List (Nat × Option Obj) := [qo 1645 (.bag [((qs 6 0x10061010000), (qi 1)), ((qs 10 0x1007365646f6e010003), (qi 1))] 2),
  qo 1931 (.iter (some 1648) 2 [0, 1] (some 1) 2),
  qo 2361 (cv 110 [(ql 2362 0 2 (.exact 2))]),
  qo 2362 (ct 196 [(qs 5 0x7865646e69), (qu 0), (.slice none 0 (.exact 0)), qe, (qu 2), (.slice none 0 (.exact 0))])]
def a6 : T16 := pt z3 e6
theorem ab6 : Bnd 2363 a6 := Bnd.pt (n := 2361) (Nat.le_of_ble_eq_true (by kernel_rfl)) zb3 (by kernel_rfl)
def d6 : List (Nat × Option Obj) := [qo 1646 (cv 258 [(qp 382 0), (qp 2781 0), (qm 1645), qz]),
  qo 1645 (.bag [((qs 6 0x10061010000), (qi 1)), ((qs 10 0x1007865646e69010003), (qi 1)), ((qs 10 0x1007365646f6e010003), (qi 1))] 3),
  qo 2642 (ct 196 [(qs 5 0x7865646e69), (qu 0), (.slice none 0 (.exact 0)), qe, (qu 2), (.slice none 0 (.exact 0))]),
  qo 2765 (.chan 0 [] false),
  qo 2766 (cv 341 [(.int .u32 (.ofNat 0)), (.int .i32 (.ofNat 0)), (.int .u32 (.ofNat 0)), (.chan (some 2765))]),
  qo 2767 (cv 382 [(qs 10 0x1007865646e69010003), (ql 2642 0 2 (.tip 3)), (qp 2766 0)]),
  qo 2769 (ct 359 [(qp 1923 0), (qp 2777 0)]),
  qo 2770 (.chan 0 [] false),
  qo 2771 (cv 341 [(.int .u32 (.ofNat 0)), (.int .i32 (.ofNat 0)), (.int .u32 (.ofNat 0)), (.chan (some 2770))]),
  qo 2772 (cv 364 [qe, qn, (qk 2769 0 2), (qp 2771 0)]),
  qo 2774 (ct 359 [(qp 1050 0), (qp 2780 0), (qp 2351 0), (qp 829 0)]),
  qo 2775 (.chan 0 [] false),
  qo 2776 (cv 341 [(.int .u32 (.ofNat 0)), (.int .i32 (.ofNat 0)), (.int .u32 (.ofNat 0)), (.chan (some 2775))]),
  qo 2777 (cv 364 [(qs 3 0x10003), qn, (qk 2774 0 4), (qp 2776 0)]),
  qo 2778 (.chan 0 [] false),
  qo 2779 (cv 341 [(.int .u32 (.ofNat 0)), (.int .i32 (.ofNat 0)), (.int .u32 (.ofNat 0)), (.chan (some 2778))]),
  qo 2780 (cv 364 [(qs 7 0x1007865646e69), (qp 2767 0), (.slice none 0 (.exact 0)), (qp 2779 0)]),
  qo 2781 (cv 366 [(qp 2772 0), (qi 5)]),
  qo 2788 (ct 196 [(qs 5 0x7865646e69), (qu 0), (.slice none 0 (.exact 0)), qe, (qu 1), (.slice none 0 (.exact 0))])]
def p6 : Piece := ⟨39, [(qp 1647 0), (qs 5 0x736b72616d), (.agg [(ql 2362 0 2 (.exact 2))])], 2363, a6, (.tuple [(.agg [(ql 2788 0 2 (.tip 3))]), qt, (qi 0)]), 2790, d6⟩
theorem pb6 : Bnd p6.n p6.t := ab6
def z6 : T16 := pt a6 d6
theorem zb6 : Bnd 2790 z6 := Bnd.pt (n := 2363) (Nat.le_of_ble_eq_true (by kernel_rfl)) ab6 (by kernel_rfl)
end Go.Am.BSt
