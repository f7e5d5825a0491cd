/- The health seat's settings. -/
import Derived.Test.YtcfifjicjpncpaaGreatDoorChecked
import Derived.KernelRfl
import Derived.Test.YtcfifjicjpncpaaGreatDoorHmGRHWorst15
import Derived.Test.YtcfifjicjpncpaaGreatDoorHmGRHWorst18
import Derived.Test.YtcfifjicjpncpaaGreatDoorHmGRHWorst23
import Derived.Test.YtcfifjicjpncpaaGreatDoorHmGRHWorst21
import Derived.Test.YtcfifjicjpncpaaGreatDoorHmGRHWorst22
set_option linter.all false
noncomputable section
namespace Go.Am
open Go.RowKit Go.Proofs

def hNat : List (FuncId × NK) := [(99, .mark0), (100, .cas .i32), (101, .mark0), (102, .marked), (104, .marked), (105, .add .i32), (152, .storeP), (157, .loadP), (201, .cmpStr), (224, .noEscape), (225, .noZero 185 5), (265, .cntStr), (299, .load .u32), (310, .idxStr), (313, .store)]
def pl16_4 : Plan := .quiet 0 (.quiet 1 (.alt 2 [1] (.quiet 3 (.alt 4 [1] (.quiet 5 (.alt 6 [] (.quiet 7 (.done)) (.stop))) (.stop))) (.alt 4 [1] (.alt 2 [1] (.quiet 3 (.quiet 5 (.alt 6 [] (.quiet 7 (.done)) (.stop)))) (.stop)) (.stop))))
def pl46_5 : Plan := .quiet 0 (.quiet 1 (.quiet 2 (.quiet 3 (.quiet 4 (.quiet 5 (.alt 6 [] (.quiet 7 (.quiet 8 (.quiet 9 (.quiet 10 (.alt 11 [3, 5] (.quiet 12 (.alt 13 [] (.quiet 14 (.done)) (.stop))) (.stop)))))) (.alt 11 [3, 5] (.alt 6 [] (.quiet 7 (.quiet 8 (.quiet 9 (.quiet 10 (.quiet 12 (.alt 13 [] (.quiet 14 (.done)) (.stop))))))) (.stop)) (.stop))))))))
def pl107_1 : Plan := .quiet 0 (.quiet 1 (.quiet 2 (.quiet 3 (.quiet 4 (.alt 5 [3] (.alt 6 [3] (.alt 7 [] (.quiet 8 (.quiet 9 (.quiet 10 (.quiet 11 (.quiet 12 (.alt 13 [3] (.alt 14 [] (.quiet 15 (.quiet 16 (.quiet 17 (.done)))) (.stop)) (.stop))))))) (.alt 13 [3] (.alt 7 [] (.quiet 8 (.quiet 9 (.quiet 10 (.quiet 11 (.quiet 12 (.alt 14 [] (.quiet 15 (.quiet 16 (.quiet 17 (.done)))) (.stop))))))) (.stop)) (.stop))) (.alt 13 [3] (.alt 6 [3] (.alt 7 [] (.quiet 8 (.quiet 9 (.quiet 10 (.quiet 11 (.quiet 12 (.alt 14 [] (.quiet 15 (.quiet 16 (.quiet 17 (.done)))) (.stop))))))) (.stop)) (.stop)) (.stop))) (.alt 13 [3] (.alt 5 [3] (.alt 6 [3] (.alt 7 [] (.quiet 8 (.quiet 9 (.quiet 10 (.quiet 11 (.quiet 12 (.alt 14 [] (.quiet 15 (.quiet 16 (.quiet 17 (.done)))) (.stop))))))) (.stop)) (.stop)) (.stop)) (.stop)))))))
def pl159_19 : Plan := .quiet 0 (.quiet 1 (.quiet 3 (.alt 2 [3] (.alt 4 [] (.alt 5 [] (.alt 6 [] (.alt 7 [] (.quiet 8 (.done)) (.stop)) (.stop)) (.stop)) (.stop)) (.alt 4 [] (.alt 2 [3] (.alt 5 [] (.alt 6 [] (.alt 7 [] (.quiet 8 (.done)) (.stop)) (.stop)) (.stop)) (.stop)) (.stop)))))
def pl166_16 : Plan := .quiet 0 (.quiet 1 (.quiet 2 (.quiet 3 (.alt 4 [] (.alt 5 [] (.quiet 6 (.alt 7 [] (.quiet 8 (.done)) (.stop))) (.stop)) (.alt 5 [] (.alt 4 [] (.quiet 6 (.alt 7 [] (.quiet 8 (.done)) (.stop))) (.stop)) (.stop))))))
def pl185_10 : Plan := .quiet 0 (.quiet 1 (.quiet 2 (.quiet 3 (.quiet 4 (.quiet 5 (.quiet 6 (.quiet 7 (.quiet 8 (.quiet 9 (.alt 10 [0, 3] (.quiet 11 (.quiet 12 (.quiet 13 (.quiet 14 (.alt 15 [] (.quiet 16 (.quiet 17 (.quiet 18 (.alt 19 [0, 3, 4, 7, 8, 9, 12, 14] (.alt 20 [] (.quiet 21 (.done)) (.stop)) (.stop))))) (.alt 19 [0, 3, 4, 7, 8, 9, 12, 14] (.alt 15 [] (.quiet 16 (.quiet 17 (.quiet 18 (.alt 20 [] (.quiet 21 (.done)) (.stop))))) (.stop)) (.stop))))))) (.alt 19 [0, 3, 4, 7, 8, 9] (.alt 10 [0, 3] (.quiet 11 (.quiet 12 (.quiet 13 (.quiet 14 (.alt 15 [] (.quiet 16 (.quiet 17 (.quiet 18 (.alt 20 [] (.quiet 21 (.done)) (.stop))))) (.stop)))))) (.stop)) (.stop))))))))))))
def hPlan (f : FuncId) (r : Nat) : Option Plan :=
  bif Nat.beq f 16 && Nat.beq r 4 then some pl16_4 else bif Nat.beq f 46 && Nat.beq r 5 then some pl46_5 else bif Nat.beq f 107 && Nat.beq r 1 then some pl107_1 else bif Nat.beq f 159 && Nat.beq r 19 then some pl159_19 else bif Nat.beq f 166 && Nat.beq r 16 then some pl166_16 else bif Nat.beq f 185 && Nat.beq r 10 then some pl185_10 else none
def hOv : CallM := orM (insM [237]) (sortedM [31] [71, 239])
def hDov : CallM := stillM [(72, 3)]
def fnAt (P : Program) (f : FuncId) : Func := (P.funcs[f]?).getD default
def codeAt (P : Program) (f : FuncId) : Code := ((fnAt P f).body).getD .skip
def envAt (r : Option (Out × List AV × Heap)) : List AV := match r with | some (_, e, _) => e | none => []
def kindsO : Obj := .cells [.str [], .str [116, 101, 120, 116], .str [110, 117, 109], .str [108, 105, 115, 116]] .ro
def hHeap : Heap := (⟨Tryz.prog.globals.size, .leaf, []⟩ : Heap).set 0 kindsO
theorem f72_runs (a b c : AV) (h : Heap) : execS noDraw noCallA Tryz.prog 0 (codeAt Tryz.prog 72) (frameA (fnAt Tryz.prog 72) [a, b, c]) h = some (.normal, envAt (execS noDraw noCallA Tryz.prog 0 (codeAt Tryz.prog 72) (frameA (fnAt Tryz.prog 72) [a, b, c]) h), h) := by kernel_rfl
theorem hDov_ok (hF : Fns Tryz.prog) : DCallOk Tryz.prog hDov := stillM_ok hF fun p hp args h hl => by
  rw [List.mem_singleton] at hp
  subst hp
  match args, hl with
  | [a, b, c], _ => exact ⟨fnAt Tryz.prog 72, codeAt Tryz.prog 72, .normal, _, 0, by kernel_rfl, by kernel_rfl, f72_runs a b c h, .inl rfl, by kernel_rfl⟩
def hCall : CallM := callM Tryz.prog (drawX Tryz.prog hPlan) (natCall hNat) hOv hDov 100000 200
end Go.Am
