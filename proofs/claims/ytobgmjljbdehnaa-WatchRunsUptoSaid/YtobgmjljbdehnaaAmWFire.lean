/- Watches: made, fired, looked at. -/
import Derived.Test.YtobgmjljbdehnaaAmWLib
set_option linter.unusedSimpArgs false
namespace Go.Am
open Go.RowKit Go.Proofs

def WAt (h : Heap) (W c : Nat) (b : Bool) : Prop := h.get W = some (.cells (wcell (bif b then 1 else 0) 0 c) .own) ∧ h.get c = some (.chan 0 [] b)
theorem WAt.keep {ex : List Nat} {h0 h : Heap} (hk : Keep ex h0 h) {W c : Nat} {b : Bool} (hW : WAt h0 W c b) (h1 : W ∉ ex) (h2 : c ∉ ex) : WAt h W c b := ⟨hk.get _ _ hW.1 h1, hk.get _ _ hW.2 h2⟩
theorem WAt.ne {h : Heap} {W c : Nat} {b : Bool} (hW : WAt h W c b) : W ≠ c := by
  rintro rfl
  have := hW.1.symm.trans hW.2
  cases this

@[simp] theorem seqD_normal {P : Program} {b : Code} {K : PostD} {e : List AV} {h : Heap} {ds : List DV} : seqD P b K .normal e h ds = WPD P b e h ds K := rfl
@[simp] theorem seqX_normal {P : Program} {b : Code} {K : PostX} {e : List AV} {h : Heap} : seqX P b K .normal e h = WPX P b e h K := rfl
theorem opsD_nil {call : CallF} {P : Program} {ops : Array Oper} {e : List AV} {h : Heap} {ds : List DV} : opsD call P ops [] e h ds = some (.normal, e, h, ds) := rfl
def stepD (call : CallF) (P : Program) (ops : Array Oper) (rest : List Oper) (dst : Option Tmp) (e : List AV) (ds : List DV) : Option CRes → Option (Out × List AV × Heap × List DV)
  | some (.ret v h') => opsD call P ops rest (putA e dst v) h' ds
  | _ => none
theorem opsD_cons {call : CallF} {P : Program} {ops : Array Oper} {rest : List Oper} {dst : Option Tmp} {op : Op} {ty : TypeId} {pos : String} {after : Array Edge} {e : List AV} {h : Heap} {ds : List DV} (hd : ∀ c, op ≠ .defer c) :
    opsD call P ops (⟨dst, op, ty, pos, after, none⟩ :: rest) e h ds = stepD call P ops rest dst e ds (opA call P e h op) := by
  simp only [opsD, wantedA, stepD]
  split
  · rename_i f xs ats
    exact absurd rfl (hd _)
  · cases opA call P e h op with
    | none => rfl
    | some r => cases r <;> rfl
def deferD (call : CallF) (P : Program) (ops : Array Oper) (rest : List Oper) (dst : Option Tmp) (e : List AV) (h : Heap) (ds : List DV) (args : List AV) : AV → Option (Out × List AV × Heap × List DV)
  | .func (.func g) first captured => opsD call P ops rest (putA e dst (.tuple [])) h (⟨g, first ++ args, captured⟩ :: ds)
  | _ => none
theorem opsD_defer {call : CallF} {P : Program} {ops : Array Oper} {rest : List Oper} {dst : Option Tmp} {f : Operand} {xs : Array Operand} {ats : Array TypeId} {ty : TypeId} {pos : String} {after : Array Edge} {e : List AV} {h : Heap} {ds : List DV} :
    opsD call P ops (⟨dst, .defer ⟨.value f, xs, ats⟩, ty, pos, after, none⟩ :: rest) e h ds = deferD call P ops rest dst e h ds (evals P e xs.toList) (evalA P e f) := by
  simp only [opsD, wantedA, deferD]
  cases evalA P e f with
  | func g a b => cases g <;> rfl
  | _ => rfl
theorem stepD_some {call : CallF} {P : Program} {ops : Array Oper} {rest : List Oper} {d : Tmp} {e : List AV} {ds : List DV} {v : AV} {h' : Heap} : stepD call P ops rest (some d) e ds (some (.ret v h')) = opsD call P ops rest (e.set d v) h' ds := rfl
theorem deferD_func {call : CallF} {P : Program} {ops : Array Oper} {rest : List Oper} {e : List AV} {h : Heap} {ds : List DV} {args : List AV} {g : FuncId} {a b : List AV} : deferD call P ops rest none e h ds args (.func (.func g) a b) = opsD call P ops rest e h (⟨g, a ++ args, b⟩ :: ds) := rfl

section
variable {ov : CallF}
theorem doSlow_ok (N : WN ov) (hov : CallsOk Try.prog ov) {h : Heap} (hw : Wf h) {W B F c : Nat} {b : Bool} (hW : WAt h W c false) (hB : h.get B = some (.cells [.ptr (some ⟨W, 0⟩)] .own)) (hF : h.get F = some (.cells [.bool b] .own)) :
    ∃ h', CallOk Try.prog 31 [.ptr (some ⟨W, 0⟩), .func (.func 23) [] [.ptr (some ⟨B, 0⟩), .ptr (some ⟨F, 0⟩)]] h (.ret (.tuple []) h') ∧ WAt h' W c true ∧ h'.get F = some (.cells [.bool true] .own) ∧ Keep [W, c, F] h h' := by
  obtain ⟨hW1, hc⟩ := hW
  have hWc := WAt.ne ⟨hW1, hc⟩
  have hWB : W ≠ B := by rintro rfl; rw [hW1] at hB; simp [wcell] at hB
  have hWF : W ≠ F := by rintro rfl; rw [hW1] at hF; simp [wcell] at hF
  have hcF : c ≠ F := by rintro rfl; rw [hc] at hF; cases hF
  have hcB : c ≠ B := by rintro rfl; rw [hc] at hB; cases hB
  have hFB : F ≠ B := by rintro rfl; rw [hF] at hB; simp at hB
  have hWn := hw _ _ hW1
  have hcn := hw _ _ hc
  have hFn := hw _ _ hF
  simp only [cond_false] at hW1
  have hlock := lock_ok N hW1
  have hg1 := Heap.get_set h W (.cells (wcell 0 1 c) .own)
  have hB1 : (h.set W (.cells (wcell 0 1 c) .own)).get B = _ := (Heap.get_set_ne h _ hWB).trans hB
  have hF1 : (h.set W (.cells (wcell 0 1 c) .own)).get F = _ := (Heap.get_set_ne h _ hWF).trans hF
  have hc1 : (h.set W (.cells (wcell 0 1 c) .own)).get c = _ := (Heap.get_set_ne h _ hWc).trans hc
  have hk1 := (Keep.refl (ex := [W, c, F]) hw).set (i := W) (.cells (wcell 0 1 c) .own) hWn (.inl (by simp))
  generalize h.set W (.cells (wcell 0 1 c) .own) = g1 at hlock hg1 hB1 hF1 hc1 hk1
  have hk1l := hk1.le
  have hld1 := wload_ok N hg1
  have hcl := closure_ok N hB1 hg1 hc1 hF1
  have hg2 : ((g1.set c (.chan 0 [] true)).set F (.cells [.bool true] .own)).get W = _ := (Heap.get_set_ne _ _ (Ne.symm hWF)).trans ((Heap.get_set_ne g1 _ (Ne.symm hWc)).trans hg1)
  have hc2 : ((g1.set c (.chan 0 [] true)).set F (.cells [.bool true] .own)).get c = _ := (Heap.get_set_ne _ _ (Ne.symm hcF)).trans (Heap.get_set g1 c _)
  have hF2 := Heap.get_set (g1.set c (.chan 0 [] true)) F (.cells [.bool true] .own)
  have hk2 := (hk1.set (i := c) (.chan 0 [] true) (by omega) (.inl (by simp))).set (i := F) (.cells [.bool true] .own) (by rw [Heap.next_set]; omega) (.inl (by simp))
  generalize (g1.set c (.chan 0 [] true)).set F (.cells [.bool true] .own) = g2 at hcl hg2 hc2 hF2 hk2
  have hk2l := hk2.le
  have hst := wstore_ok N hg2
  have hg3 := Heap.get_set g2 W (.cells (wcell 1 1 c) .own)
  have hc3 : (g2.set W (.cells (wcell 1 1 c) .own)).get c = _ := (Heap.get_set_ne g2 _ hWc).trans hc2
  have hF3 : (g2.set W (.cells (wcell 1 1 c) .own)).get F = _ := (Heap.get_set_ne g2 _ hWF).trans hF2
  have hk3 := hk2.set (i := W) (.cells (wcell 1 1 c) .own) (by omega) (.inl (by simp))
  generalize g2.set W (.cells (wcell 1 1 c) .own) = g3 at hst hg3 hc3 hF3 hk3
  have hk3l := hk3.le
  have hun := unlock_ok N hg3
  have hg4 := Heap.get_set g3 W (.cells (wcell 1 0 c) .own)
  have hc4 : (g3.set W (.cells (wcell 1 0 c) .own)).get c = _ := (Heap.get_set_ne g3 _ hWc).trans hc3
  have hF4 : (g3.set W (.cells (wcell 1 0 c) .own)).get F = _ := (Heap.get_set_ne g3 _ hWF).trans hF3
  have hk4 := hk3.set (i := W) (.cells (wcell 1 0 c) .own) (by omega) (.inl (by simp))
  generalize g3.set W (.cells (wcell 1 0 c) .own) = g4 at hun hg4 hc4 hF4 hk4
  refine ⟨g4, ?_, ⟨hg4, hc4⟩, hF4, hk4⟩
  refine callD fns_ok mixed_ok hov (fn := Try.f31) (by kernel_rfl) rfl ?_
  have hl : (frameA Try.f31 [.ptr (some ⟨W, 0⟩), .func (.func 23) [] [.ptr (some ⟨B, 0⟩), .ptr (some ⟨F, 0⟩)]]).length = 21 := frameA_length (Nat.le_of_ble_eq_true rfl)
  have h0 : nth (frameA Try.f31 [.ptr (some ⟨W, 0⟩), .func (.func 23) [] [.ptr (some ⟨B, 0⟩), .ptr (some ⟨F, 0⟩)]]) 0 = .ptr (some ⟨W, 0⟩) := frameA_nth (Nat.le_of_ble_eq_true rfl)
  have h1 : nth (frameA Try.f31 [.ptr (some ⟨W, 0⟩), .func (.func 23) [] [.ptr (some ⟨B, 0⟩), .ptr (some ⟨F, 0⟩)]]) 1 = .func (.func 23) [] [.ptr (some ⟨B, 0⟩), .ptr (some ⟨F, 0⟩)] := frameA_nth (Nat.le_of_ble_eq_true rfl)
  generalize frameA Try.f31 [.ptr (some ⟨W, 0⟩), .func (.func 23) [] [.ptr (some ⟨B, 0⟩), .ptr (some ⟨F, 0⟩)]] = e at hl h0 h1
  have hca52 : callA (callT ov Try.prog) Try.prog h 52 [.ptr (some ⟨W, 1⟩)] = _ := hlock
  have hca30 : callA (callT ov Try.prog) Try.prog g1 30 [.ptr (some ⟨W, 0⟩)] = _ := hld1
  have hca23 : callA (callT ov Try.prog) Try.prog g1 23 [.ptr (some ⟨B, 0⟩), .ptr (some ⟨F, 0⟩)] = _ := hcl
  apply WPD.seq
  apply WPD.plain fns_ok mixed_ok hov
  apply WP.region; simp [hl, h0, fa66, hca52]
  apply WPD.seq
  apply WPD.region fns_ok mixed_ok hov
  simp [hl, h0, fa66, opsD_cons, opsD_defer, opsD_nil, stepD_some, deferD_func, WD_some]
  apply WPD.seq
  apply WPD.plain fns_ok mixed_ok hov
  apply WP.region; simp [hl, h0, fa66, hca30]
  apply WPD.cond (t := true) (by simp [hl]) ?_ (by simp)
  intro _
  apply WPD.seq
  apply WPD.region fns_ok mixed_ok hov
  simp [hl, h0, fa66, opsD_cons, opsD_defer, opsD_nil, stepD_some, deferD_func, WD_some]
  apply WPD.plain fns_ok mixed_ok hov
  apply WP.region; simp [hl, h1, hca23]
  refine ⟨_, _, N.o 54 (by simp) _ _, hst, _, _, N.o 53 (by simp) _ _, hun, [], by simp [resultsA], rfl⟩
end
end Go.Am
