/- Parts of the proof by the abstract machine: BCfg, BFire. -/
import Derived.Test.YteoekjfgihnhaaaGreatDoorChecked
import Derived.KernelRfl
import Derived.Test.YteoekjfgihnhaaaGreatDoorHmGRB16
import Derived.Test.YteoekjfgihnhaaaGreatDoorHmGRB21
import Derived.Test.YteoekjfgihnhaaaGreatDoorHmGRB26
import Derived.Test.YteoekjfgihnhaaaGreatDoorHmGRB24
import Derived.Test.YteoekjfgihnhaaaGreatDoorHmGRB25
import Derived.Test.YteoekjfgihnhaaaGreatDoorHmGRB27
import Derived.Test.YteoekjfgihnhaaaGreatDoorHmGRB20
set_option linter.all false
noncomputable section
namespace Go.Am
open Go.RowKit Go.Proofs

def hNat : List (FuncId × NK) := [(132, .mark0), (133, .cas .i32), (134, .mark0), (135, .marked), (137, .marked), (138, .add .i32), (191, .storeP), (196, .loadP), (261, .noEscape), (262, .noZero 138 5), (311, .cntStr), (373, .load .u32), (388, .idxStr), (392, .store)]
def pl34_0 : Plan := .quiet 0 (.quiet 1 (.quiet 2 (.quiet 3 (.quiet 4 (.quiet 5 (.quiet 6 (.quiet 7 (.alt 8 [] (.alt 9 [3, 7] (.alt 10 [] (.done) (.stop)) (.stop)) (.alt 9 [3, 7] (.alt 8 [] (.alt 10 [] (.done) (.stop)) (.stop)) (.stop))))))))))
def pl36_4 : Plan := .quiet 0 (.quiet 1 (.alt 2 [1] (.quiet 3 (.alt 4 [1] (.quiet 5 (.alt 6 [] (.quiet 7 (.done)) (.stop))) (.stop))) (.alt 4 [1] (.alt 2 [1] (.quiet 3 (.quiet 5 (.alt 6 [] (.quiet 7 (.done)) (.stop)))) (.stop)) (.stop))))
def pl74_5 : Plan := .quiet 0 (.quiet 1 (.quiet 2 (.quiet 3 (.quiet 4 (.quiet 5 (.alt 6 [] (.quiet 7 (.quiet 8 (.quiet 9 (.quiet 10 (.alt 11 [3, 5] (.quiet 12 (.alt 13 [] (.quiet 14 (.done)) (.stop))) (.stop)))))) (.alt 11 [3, 5] (.alt 6 [] (.quiet 7 (.quiet 8 (.quiet 9 (.quiet 10 (.quiet 12 (.alt 13 [] (.quiet 14 (.done)) (.stop))))))) (.stop)) (.stop))))))))
def pl88_8 : Plan := .quiet 0 (.quiet 1 (.alt 2 [] (.quiet 3 (.alt 4 [] (.quiet 5 (.alt 6 [] (.done) (.stop))) (.stop))) (.alt 4 [] (.quiet 5 (.alt 2 [] (.quiet 3 (.alt 6 [] (.done) (.stop))) (.stop))) (.stop))))
def pl102_1 : Plan := .quiet 0 (.quiet 1 (.quiet 2 (.quiet 3 (.quiet 4 (.alt 5 [3] (.alt 6 [3] (.alt 7 [] (.quiet 8 (.quiet 9 (.quiet 10 (.quiet 11 (.quiet 12 (.alt 13 [3] (.alt 14 [] (.quiet 15 (.quiet 16 (.quiet 17 (.done)))) (.stop)) (.stop))))))) (.alt 13 [3] (.alt 7 [] (.quiet 8 (.quiet 9 (.quiet 10 (.quiet 11 (.quiet 12 (.alt 14 [] (.quiet 15 (.quiet 16 (.quiet 17 (.done)))) (.stop))))))) (.stop)) (.stop))) (.alt 13 [3] (.alt 6 [3] (.alt 7 [] (.quiet 8 (.quiet 9 (.quiet 10 (.quiet 11 (.quiet 12 (.alt 14 [] (.quiet 15 (.quiet 16 (.quiet 17 (.done)))) (.stop))))))) (.stop)) (.stop)) (.stop))) (.alt 13 [3] (.alt 5 [3] (.alt 6 [3] (.alt 7 [] (.quiet 8 (.quiet 9 (.quiet 10 (.quiet 11 (.quiet 12 (.alt 14 [] (.quiet 15 (.quiet 16 (.quiet 17 (.done)))) (.stop))))))) (.stop)) (.stop)) (.stop)) (.stop)))))))
def pl198_19 : Plan := .quiet 0 (.quiet 1 (.quiet 3 (.alt 2 [3] (.alt 4 [] (.alt 5 [] (.alt 6 [] (.alt 7 [] (.quiet 8 (.done)) (.stop)) (.stop)) (.stop)) (.stop)) (.alt 4 [] (.alt 2 [3] (.alt 5 [] (.alt 6 [] (.alt 7 [] (.quiet 8 (.done)) (.stop)) (.stop)) (.stop)) (.stop)) (.stop)))))
def pl206_16 : Plan := .quiet 0 (.quiet 1 (.quiet 2 (.quiet 3 (.alt 4 [] (.alt 5 [] (.quiet 6 (.alt 7 [] (.quiet 8 (.done)) (.stop))) (.stop)) (.alt 5 [] (.alt 4 [] (.quiet 6 (.alt 7 [] (.quiet 8 (.done)) (.stop))) (.stop)) (.stop))))))
def hPlan (f : FuncId) (r : Nat) : Option Plan :=
  bif Nat.beq f 34 && Nat.beq r 0 then some pl34_0 else bif Nat.beq f 36 && Nat.beq r 4 then some pl36_4 else bif Nat.beq f 74 && Nat.beq r 5 then some pl74_5 else bif Nat.beq f 88 && Nat.beq r 8 then some pl88_8 else bif Nat.beq f 102 && Nat.beq r 1 then some pl102_1 else bif Nat.beq f 198 && Nat.beq r 19 then some pl198_19 else bif Nat.beq f 206 && Nat.beq r 16 then some pl206_16 else none
def hOv : CallM := orM (firedM Tryz.prog 104 341 339) (orM (insM [275]) (sortedM [171] [242, 277]))
def hDov : CallM := stillM [(105, 3)]
def fnAt (P : Program) (f : FuncId) : Func := (P.funcs[f]?).getD default
def codeAt (P : Program) (f : FuncId) : Code := ((fnAt P f).body).getD .skip
def envAt (r : Option (Out × List AV × Heap)) : List AV := match r with | some (_, e, _) => e | none => []
def kindsO : Obj := .cells [.str [], .str [116, 101, 120, 116], .str [110, 117, 109], .str [108, 105, 115, 116]] .ro
def hHeap : Heap := (⟨Tryz.prog.globals.size, .leaf, []⟩ : Heap).set 1 kindsO
theorem parse_runs (a b c : AV) (h : Heap) : execS noDraw noCallA Tryz.prog 0 (codeAt Tryz.prog 105) (frameA (fnAt Tryz.prog 105) [a, b, c]) h = some (.normal, envAt (execS noDraw noCallA Tryz.prog 0 (codeAt Tryz.prog 105) (frameA (fnAt Tryz.prog 105) [a, b, c]) h), h) := by kernel_rfl
theorem hDov_ok (hF : Fns Tryz.prog) : DCallOk Tryz.prog hDov := stillM_ok hF fun p hp args h hl => by
  rw [List.mem_singleton] at hp
  subst hp
  match args, hl with
  | [a, b, c], _ => exact ⟨fnAt Tryz.prog 105, codeAt Tryz.prog 105, .normal, _, 0, by kernel_rfl, by kernel_rfl, parse_runs a b c h, .inl rfl, by kernel_rfl⟩
def hCall : CallM := callM Tryz.prog (drawX Tryz.prog hPlan) (natCall hNat) hOv hDov 100000 200
end Go.Am

noncomputable section
namespace Go.Am
open Go.RowKit Go.Proofs

@[simp] theorem seqX_normal {P : Program} {b : Code} {K : PostX} {e : List AV} {h : Heap} : seqX P b K .normal e h = WPX P b e h K := rfl
theorem noOv_ok : CallsOk Tryz.prog (fun _ _ _ => none) := fun _ _ _ _ h => by cases h
set_option maxRecDepth 100000 in
theorem fired_ok (hF : Fns Tryz.prog) (hm : Tryz.prog.follows .mixedOrders = true) (h : Heap) (l l2 : Loc) (i : Nat) (b : Bool) (h1 : fieldAddrA Tryz.prog 341 (.ptr (some l)) 1 = some (.ptr (some l2))) (h2 : loadA Tryz.prog h 339 l2 = some (.chan (some i))) (h3 : h.get i = some (.chan 0 [] b)) :
    CallOk Tryz.prog 104 [.ptr (some l)] h (.ret (.bool b) h) := by
  refine callX hF (fn := Tryz.f104) (by kernel_rfl) rfl ?_
  have hl : (frameA Tryz.f104 [.ptr (some l)]).length = 10 := frameA_length (Nat.le_of_ble_eq_true rfl)
  have h0 : nth (frameA Tryz.f104 [.ptr (some l)]) 0 = .ptr (some l) := frameA_nth (Nat.le_of_ble_eq_true rfl)
  generalize frameA Tryz.f104 [.ptr (some l)] = e at hl h0
  apply WPX.seq; refine WPX.plain hF hm noOv_ok ?_
  apply WP.region; simp [hl]
  repeat apply WPX.seq
  refine WPX.plain hF hm noOv_ok ?_
  apply WP.region; simp [hl, h0, h1, h2]
  repeat apply WPX.seq
  refine WPX.select (P := Tryz.prog) (i := i) (closed := b) hF hm noOv_ok rfl (by simp [hl]) h3 (z := .agg []) (by kernel_rfl) ?_
  cases b with
  | true =>
    simp [hl, extractA]
    repeat apply WPX.seq
    refine WPX.plain hF hm noOv_ok ?_
    apply WP.block
    apply WP.cond (by simp [hl]; rfl)
    · intro _
      repeat apply WP.seq
      apply WP.region; simp [hl]
      apply WP.ret
      simp [hl, resultsA, resultA, single]
    · intro hf; cases hf
  | false =>
    simp [hl, extractA]
    repeat apply WPX.seq
    refine WPX.plain hF hm noOv_ok ?_
    apply WP.block
    apply WP.cond (by simp [hl]; rfl)
    · intro hf; cases hf
    · intro _
      repeat apply WP.seq
      apply WP.region; simp [hl]
      apply WP.ret
      simp [hl, resultsA, resultA, single]
set_option maxRecDepth 100000 in
theorem hFired_ok (hF : Fns Tryz.prog) (hm : Tryz.prog.follows .mixedOrders = true) : CallMOk Tryz.prog (firedM Tryz.prog 104 341 339) := firedM_ok (fired_ok hF hm)
end Go.Am
