/- Parts of the proof by the abstract machine: Sim, Wp, Slr, Acc. -/
import Derived.Test.YteoekjfgihnhaaaGreatDoorHmGRB14
set_option linter.all false
noncomputable section
namespace Go.Am
open Go.RowKit

section
variable {call : CallF} {P : Program} {ops : Array Oper} {dst : Option Tmp} {op : Op} {ty : TypeId} {pos : String} {after : Array Edge} {rest : List Oper} {e : List AV} {h : Heap}

theorem sim_nil : opsA call P ops [] e h = some (.normal, e, h) := rfl
/-- One operation's answer, handed on. -/
def stepR (call : CallF) (P : Program) (ops : Array Oper) (rest : List Oper) (dst : Option Tmp) (e : List AV) : Option CRes → Option (Out × List AV × Heap)
  | some (.ret v h') => opsA call P ops rest (putA e dst v) h'
  | some (.pan v h') => some (.pan v, e, h')
  | none => none
theorem sim_cons : opsA call P ops (⟨dst, op, ty, pos, after, none⟩ :: rest) e h = stepR call P ops rest dst e (opA call P e h op) := by
  simp only [opsA, wantedA]
  cases opA call P e h op with
  | none => rfl
  | some r => cases r <;> rfl
theorem stepR_ret {v : AV} {h' : Heap} {d : Tmp} : stepR call P ops rest (some d) e (some (.ret v h')) = opsA call P ops rest (e.set d v) h' := rfl
theorem stepR_none {v : AV} {h' : Heap} : stepR call P ops rest none e (some (.ret v h')) = opsA call P ops rest e h' := rfl
/-- A guarded operation: is it wanted? -/
def guardA (ops : Array Oper) (e : List AV) (j : Nat) (b : Bool) : Option Bool :=
  match (ops[j]?).bind (·.dst) with
  | none => some false
  | some d =>
    match nth e d with
    | .bool c => some (c == b)
    | .unk => none
    | _ => some false
def gstep (call : CallF) (P : Program) (ops : Array Oper) (rest : List Oper) (dst : Option Tmp) (op : Op) (e : List AV) (h : Heap) : Option Bool → Option (Out × List AV × Heap)
  | some true => stepR call P ops rest dst e (opA call P e h op)
  | some false => opsA call P ops rest (putA e dst (.tuple [])) h
  | none => none
theorem sim_guard {j : Nat} {b : Bool} : opsA call P ops (⟨dst, op, ty, pos, after, some (j, b)⟩ :: rest) e h = gstep call P ops rest dst op e h (guardA ops e j b) := by
  have hw : wantedA ops e ⟨dst, op, ty, pos, after, some (j, b)⟩ = guardA ops e j b := rfl
  simp only [opsA, hw]
  cases guardA ops e j b with
  | none => rfl
  | some t =>
    cases t with
    | false => rfl
    | true =>
      simp only [gstep]
      cases opA call P e h op with
      | none => rfl
      | some r => cases r <;> rfl
theorem gstep_true : gstep call P ops rest dst op e h (some true) = stepR call P ops rest dst e (opA call P e h op) := rfl
theorem gstep_false {d : Tmp} : gstep call P ops rest (some d) op e h (some false) = opsA call P ops rest (e.set d (.tuple [])) h := rfl
theorem guardA_at {j : Nat} {b c : Bool} {d : Tmp} (h1 : (ops[j]?).bind (·.dst) = some d) (h2 : nth e d = .bool c) : guardA ops e j b = some (c == b) := by
  simp only [guardA, h1, h2]

theorem nth_zero {x : AV} {xs : List AV} : nth (x :: xs) 0 = x := rfl
theorem nth_succ {x : AV} {xs : List AV} {n : Nat} : nth (x :: xs) (n + 1) = nth xs n := rfl
theorem ev_tmp {t : Tmp} : evalA P e (.tmp t) = nth e t := rfl
theorem ev_func {f : FuncId} : evalA P e (.func f) = .func (.func f) [] [] := rfl
theorem ev_int {k : IntKind} {n : Int} : evalA P e (.const (.int k n)) = .int k n := rfl
theorem ev_bool {b : Bool} : evalA P e (.const (.bool b)) = .bool b := rfl
theorem ev_nilptr : evalA P e (.const (.pointer none)) = .ptr none := rfl
theorem ev_nilslice : evalA P e (.const (.slice none 0 0)) = .slice none 0 (.exact 0) := rfl
theorem ev_nilIface : evalA P e (.const .nilIface) = .nilIface := rfl
theorem ev_nilFunc : evalA P e (.const .nilFunc) = .nilFunc := rfl
theorem ev_nilmap : evalA P e (.const (.map none)) = .map none := rfl

theorem op_move {x : Operand} : opA call P e h (.move x) = some (.ret (evalA P e x) h) := rfl
theorem op_assign {x : Operand} : opA call P e h (.assign x) = some (.ret (evalA P e x) h) := rfl
def pickA (c : AV) (a b : AV) (h : Heap) : Option CRes := match c with | .bool t => some (.ret (bif t then a else b) h) | _ => none
theorem op_pick {c a b : Operand} : opA call P e h (.pick c a b) = pickA (evalA P e c) (evalA P e a) (evalA P e b) h := by
  simp only [opA, aop]
  cases evalA P e c <;> rfl
theorem pickA_bool {t : Bool} {a b : AV} : pickA (.bool t) a b h = some (.ret (bif t then a else b) h) := rfl
theorem op_alloc {t : TypeId} : opA call P e h (.alloc t) = toRet (allocA P h t) := rfl
theorem op_box {t : TypeId} {x : Operand} : opA call P e h (.box t x) = toRet (boxA t h (evalA P e x)) := rfl
theorem op_build {t : TypeId} {ps : Array (Nat × Operand)} : opA call P e h (.build t ps) = toRet (withH h (buildA P t (evalParts P e ps.toList))) := rfl
theorem op_buildSlice {t : TypeId} {n : Nat} {ps : Array (Nat × Operand)} : opA call P e h (.buildSlice t n ps) = toRet (buildSliceA P h t n (evalParts P e ps.toList)) := rfl
def loadR (P : Program) (h : Heap) (t : TypeId) (x : AV) : Option CRes := match x with | .ptr (some l) => toRet (withH h (loadA P h t l)) | _ => none
theorem op_load {t : TypeId} {a : Operand} : opA call P e h (.load t a) = loadR P h t (evalA P e a) := by
  simp only [opA, aop, loadR]
  split <;> simp_all [toRet]
theorem loadR_ptr {t : TypeId} {l : Loc} : loadR P h t (.ptr (some l)) = toRet (withH h (loadA P h t l)) := rfl
def storeR (P : Program) (h : Heap) (t : TypeId) (x v : AV) : Option CRes := match x with | .ptr (some l) => (match storeA P h t l v with | some h' => some (.ret (.tuple []) h') | none => none) | _ => none
theorem op_store {t : TypeId} {a x : Operand} : opA call P e h (.store t a x) = storeR P h t (evalA P e a) (evalA P e x) := by
  simp only [opA, aop, storeR]
  cases evalA P e a with
  | ptr l =>
    cases l with
    | none => rfl
    | some l =>
      simp only []
      cases storeA P h t l (evalA P e x) <;> rfl
  | _ => rfl
theorem storeR_ptr {t : TypeId} {l : Loc} {v : AV} {h' : Heap} (hs : storeA P h t l v = some h') : storeR P h t (.ptr (some l)) v = some (.ret (.tuple []) h') := by simp only [storeR, hs]
theorem op_nilCheck {x : Operand} : opA call P e h (.nilCheck x) = toRet (withH h (nilCheckA (evalA P e x))) := rfl
theorem op_binOp {o : BinOp} {t yt : TypeId} {x y : Operand} : opA call P e h (.binOp o t x y yt) = toRet (withH h (binA P h o t x y (evalA P e x) (evalA P e y))) := rfl
theorem op_unOp {o : UnOp} {t : TypeId} {x : Operand} : opA call P e h (.unOp o t x) = toRet (withH h (unA o (evalA P e x))) := rfl
theorem op_convert {s d : TypeId} {x : Operand} : opA call P e h (.convert s d x) = toRet (convA P h s d (evalA P e x)) := rfl
theorem op_makeInterface {t : TypeId} {x : Operand} : opA call P e h (.makeInterface t x) = toRet (withH h (makeInterfaceA P t (evalA P e x))) := rfl
theorem op_makeFunc {fn : Fn} {a b : Array Operand} : opA call P e h (.makeFunc fn a b) = some (.ret (.func fn (evals P e a.toList) (evals P e b.toList)) h) := rfl
theorem op_makeSlice {t : TypeId} {l c : Operand} : opA call P e h (.makeSlice t l c) = toRet (makeSliceA P h t (evalA P e l) (evalA P e c)) := rfl
theorem op_slice {t : TypeId} {x : Operand} {lo hi mx : Option Operand} : opA call P e h (.slice t x lo hi mx) = toRet (withH h (match sliceA P t (evalA P e x) (evalO P e lo) (evalO P e hi) (evalO P e mx) with | some r => some r | none => sliceUp P h t (evalA P e x) (evalO P e lo) (evalO P e hi) (evalO P e mx))) := rfl
theorem op_fieldAddr {s : TypeId} {x : Operand} {f : Nat} : opA call P e h (.fieldAddr s x f) = toRet (withH h (fieldAddrA P s (evalA P e x) f)) := rfl
theorem op_field {s : TypeId} {x : Operand} {f : Nat} : opA call P e h (.field s x f) = toRet (withH h (fieldA P s (evalA P e x) f)) := rfl
theorem op_indexAddr {t : TypeId} {x i : Operand} : opA call P e h (.indexAddr t x i) = toRet (withH h (indexAddrA P t (evalA P e x) (evalA P e i))) := rfl
theorem op_index {t : TypeId} {x i : Operand} : opA call P e h (.index t x i) = toRet (withH h (indexA P t (evalA P e x) (evalA P e i))) := rfl
theorem op_typeAssert {x : Operand} {t a : TypeId} {ok : Bool} : opA call P e h (.typeAssert x t a ok) = toRet (withH h (typeAssertA P (evalA P e x) a ok)) := rfl
theorem op_extract {x : Operand} {i : Nat} : opA call P e h (.extract x i) = toRet (withH h (extractA (evalA P e x) i)) := rfl
theorem op_builtin {b : Builtin} {xs : Array Operand} {ats : Array TypeId} : opA call P e h (.call ⟨.builtin b, xs, ats⟩) = biA P h b ats.toList (evals P e xs.toList) := rfl
theorem bi_len {t : TypeId} {x : AV} : biA P h .len [t] [x] = toRet (withH h (lenA P h t x)) := rfl
/-- What an append comes to; a number stands for so many zeros. -/
def appA (P : Program) (h : Heap) (t u : TypeId) (s x : AV) : Option (AV × Heap) := match appendA P h t u s x with | some r => some r | none => appendZA P h t u s x
theorem appA_of {t u : TypeId} {s x : AV} {r : AV × Heap} (ha : appendA P h t u s x = some r) : appA P h t u s x = some r := by simp only [appA, ha]
theorem bi_append {t u : TypeId} {s x : AV} : biA P h .append [t, u] [s, x] = toRet (appA P h t u s x) := rfl
theorem bi_copy {t u : TypeId} {d s : AV} : biA P h .copy [t, u] [d, s] = toRet (copyA P h t d s) := rfl
theorem bi_max2 {t u : TypeId} {x y : AV} : biA P h .max [t, u] [x, y] = toRet (withH h (maxA x [y])) := rfl
theorem bi_min2 {t u : TypeId} {x y : AV} : biA P h .min [t, u] [x, y] = toRet (withH h (minA x [y])) := rfl
theorem maxA_two {k k' : IntKind} {x y : Int} : maxA (.int k x) [.int k' y] = some (.int k (if y > x then y else x)) := rfl
theorem minA_two {k k' : IntKind} {x y : Int} : minA (.int k x) [.int k' y] = some (.int k (if y < x then y else x)) := rfl
def valR (call : CallF) (P : Program) (h : Heap) (f : AV) (args : List AV) : Option CRes := match f with | .func (.func g) first captured => (bif Nat.blt g P.funcs.size then callA call P h g ((first ++ args) ++ captured) else none) | .yield k => callA call P h (P.funcs.size + k) args | _ => none
theorem op_callv {f : Operand} {xs : Array Operand} {ats : Array TypeId} : opA call P e h (.call ⟨.value f, xs, ats⟩) = valR call P h (evalA P e f) (evals P e xs.toList) := by
  simp only [opA, valR]
  cases evalA P e f with
  | func g a b => cases g <;> rfl
  | _ => rfl
theorem valR_func {g : FuncId} {a b args : List AV} (hg : Nat.blt g P.funcs.size = true) : valR call P h (.func (.func g) a b) args = callA call P h g ((a ++ args) ++ b) := by simp only [valR, hg, cond_true]
theorem callA_of {f : FuncId} {fn : Func} {c : Code} {args : List AV} (_hf : P.funcs[f]? = some fn) (_hb : fn.body = some c) : callA call P h f args = call f args h := rfl
theorem callA_eq {f : FuncId} {args : List AV} : callA call P h f args = call f args h := rfl
theorem evals_nil : evals P e [] = [] := rfl
theorem evals_cons {x : Operand} {xs : List Operand} : evals P e (x :: xs) = evalA P e x :: evals P e xs := rfl
theorem parts_nil : evalParts P e [] = [] := rfl
theorem parts_cons {i : Nat} {x : Operand} {xs : List (Nat × Operand)} : evalParts P e ((i, x) :: xs) = (i, evalA P e x) :: evalParts P e xs := rfl
theorem evalO_none : evalO P e none = none := rfl
theorem evalO_some {x : Operand} : evalO P e (some x) = some (evalA P e x) := rfl

theorem withH_ret {v : AV} : withH h (some v) = some (v, h) := rfl
theorem toRet_ret {v : AV} {h' : Heap} : toRet (some (v, h')) = some (.ret v h') := rfl
theorem toRet_withH {v : AV} : toRet (withH h (some v)) = some (.ret v h) := rfl

theorem bin_add {t : TypeId} {xo yo : Operand} {k : IntKind} {a b : Int} : binA P h .add t xo yo (.int k a) (.int k b) = some (.int k (k.wrap (a + b))) := by simp [binA, intA]
theorem bin_sub {t : TypeId} {xo yo : Operand} {k : IntKind} {a b : Int} : binA P h .sub t xo yo (.int k a) (.int k b) = some (.int k (k.wrap (a - b))) := by simp [binA, intA]
theorem bin_mul {t : TypeId} {xo yo : Operand} {k : IntKind} {a b : Int} : binA P h .mul t xo yo (.int k a) (.int k b) = some (.int k (k.wrap (a * b))) := by simp [binA, intA]
theorem bin_eql {t : TypeId} {xo yo : Operand} {k : IntKind} {a b : Int} : binA P h .eql t xo yo (.int k a) (.int k b) = some (.bool (a == b)) := by simp [binA, intA]
theorem bin_neq {t : TypeId} {xo yo : Operand} {k : IntKind} {a b : Int} : binA P h .neq t xo yo (.int k a) (.int k b) = some (.bool (a != b)) := by simp [binA, intA]
theorem bin_lss {t : TypeId} {xo yo : Operand} {k : IntKind} {a b : Int} : binA P h .lss t xo yo (.int k a) (.int k b) = some (.bool (decide (a < b))) := by simp [binA, intA]
theorem bin_leq {t : TypeId} {xo yo : Operand} {k : IntKind} {a b : Int} : binA P h .leq t xo yo (.int k a) (.int k b) = some (.bool (decide (a ≤ b))) := by simp [binA, intA]
theorem bin_gtr {t : TypeId} {xo yo : Operand} {k : IntKind} {a b : Int} : binA P h .gtr t xo yo (.int k a) (.int k b) = some (.bool (decide (b < a))) := by simp [binA, intA]
theorem bin_geq {t : TypeId} {xo yo : Operand} {k : IntKind} {a b : Int} : binA P h .geq t xo yo (.int k a) (.int k b) = some (.bool (decide (b ≤ a))) := by simp [binA, intA]
theorem bin_rem {t : TypeId} {xo yo : Operand} {k : IntKind} {a b : Int} (hb : b ≠ 0) : binA P h .rem t xo yo (.int k a) (.int k b) = some (.int k (a.tmod b)) := by simp [binA, intA, hb]
theorem bin_quo {t : TypeId} {xo yo : Operand} {k : IntKind} {a b : Int} (hb : b ≠ 0) : binA P h .quo t xo yo (.int k a) (.int k b) = some (.int k (k.wrap (a.tdiv b))) := by simp [binA, intA, hb]
theorem bin_beq {t : TypeId} {xo yo : Operand} {a b : Bool} (hu : P.underlying t = some .bool) : binA P h .eql t xo yo (.bool a) (.bool b) = some (.bool (a == b)) := by simp [binA, eqA, hu]
theorem bin_bne {t : TypeId} {xo yo : Operand} {a b : Bool} (hu : P.underlying t = some .bool) : binA P h .neq t xo yo (.bool a) (.bool b) = some (.bool (a != b)) := by cases a <;> cases b <;> simp [binA, eqA, hu]
theorem bin_slnil {t el : TypeId} {xo yo : Operand} {l : Option Loc} {n m : Nat} {c d : Cap} (hu : P.underlying t = some (.slice el)) : binA P h .eql t xo yo (.slice l n c) (.slice none m d) = some (.bool l.isNone) := by
  cases l <;> simp [binA, eqA, hu]
theorem bin_slnil' {t el : TypeId} {xo yo : Operand} {l : Option Loc} {n m : Nat} {c d : Cap} (hu : P.underlying t = some (.slice el)) : binA P h .neq t xo yo (.slice l n c) (.slice none m d) = some (.bool (!l.isNone)) := by
  cases l <;> simp [binA, eqA, hu]
theorem bin_ptnil {t el : TypeId} {xo yo : Operand} {l : Option Loc} (hu : P.underlying t = some (.pointer el)) : binA P h .eql t xo yo (.ptr l) (.ptr none) = some (.bool l.isNone) := by
  cases l <;> simp [binA, eqA, hu]
theorem bin_ptnil' {t el : TypeId} {xo yo : Operand} {l : Option Loc} (hu : P.underlying t = some (.pointer el)) : binA P h .neq t xo yo (.ptr l) (.ptr none) = some (.bool (!l.isNone)) := by
  cases l <;> simp [binA, eqA, hu]
theorem un_not {b : Bool} : unA .not (.bool b) = some (.bool !b) := rfl

theorem nilCheck_ptr {l : Loc} : nilCheckA (.ptr (some l)) = some (.ptr (some l)) := rfl
theorem nilCheck_iface {t : TypeId} {v : AV} : nilCheckA (.iface t v) = some (.iface t v) := rfl
theorem nilCheck_func {f : FuncId} {a b : List AV} : nilCheckA (.func (.func f) a b) = some (.func (.func f) a b) := rfl
theorem lenA_slice {t el : TypeId} {l : Option Loc} {n : Nat} {c : Cap} (hu : P.underlying t = some (.slice el)) : lenA P h t (.slice l n c) = some (.int .i64 n) := by simp [lenA, hu]
theorem lenA_str {t : TypeId} {s : List UInt8} (hu : P.underlying t = some .string) : lenA P h t (.str s) = some (.int .i64 s.length) := by simp [lenA, hu]

theorem field_at {s ft : TypeId} {f : Nat} {l : Loc} {n : Nat} {fs : Array Field} {fl : Field} (hu : P.underlying s = some (.struct fs)) (hf : fs[f]? = some fl) (ht : fl.type = ft) (hs : sizeA P ft = some (n + 1)) : fieldAddrA P s (.ptr (some l)) f = some (.ptr (some ⟨l.id, l.off + fl.offset⟩)) := by
  subst ht
  simp [fieldAddrA, hu, hf, hs]
theorem index_at {t el : TypeId} {l : Loc} {n s : Nat} {c : Cap} {k : IntKind} {i : Nat} (hu : P.underlying t = some (.slice el)) (hs : sizeA P el = some s) (hi : i < n) : indexAddrA P t (.slice (some l) n c) (.int k (i : Int)) = some (.ptr (some ⟨l.id, l.off + i * s⟩)) := by
  have : (0 : Int) ≤ i ∧ (i : Int) < n := by omega
  simp only [indexAddrA, hu, hs, if_pos this, Int.toNat_natCast]
theorem load_cell {t : TypeId} {i o : Nat} {cs : List AV} {k : Kind} {v : AV} (ha : aggA P t = some false) (hg : h.get i = some (.cells cs k)) (hv : cs[o]? = some v) : loadA P h t ⟨i, o⟩ = some v := by
  have hlt := (List.getElem?_eq_some_iff.1 hv).1
  have hv2 := (List.getElem?_eq_some_iff.1 hv).2
  simp only [loadA, ha, readA, hg]
  rw [(ble_iff _ _).2 (by omega)]
  simp only [cond_true]
  rw [List.drop_eq_getElem_cons hlt, List.take_succ_cons, hv2]
  simp
theorem load_agg {t : TypeId} {i o n : Nat} {cs : List AV} {k : Kind} (ha : aggA P t = some true) (hs : sizeA P t = some n) (hg : h.get i = some (.cells cs k)) (hle : o + n ≤ cs.length) : loadA P h t ⟨i, o⟩ = some (.agg ((cs.drop o).take n)) := by
  simp only [loadA, ha, hs, readA, hg]
  rw [(ble_iff _ _).2 hle]
  rfl
theorem store_cell {t : TypeId} {i o : Nat} {cs : List AV} {k : Kind} {v : AV} (hs : sizeA P t = some 1) (hc : cellsA v = some [v]) (hok : cellOk v = true) (hg : h.get i = some (.cells cs k)) (hk : k ≠ .ro) (ho : o < cs.length) : storeA P h t ⟨i, o⟩ v = some (h.set i (.cells (cs.set o v) k)) := by
  have hov : over cs o [v] = cs.set o v := by
    rw [over_cons _ _ _ _ (by simp; omega), over_nil]
  have hb : (cellsOk [v] && Nat.ble (o + 1) cs.length) = true := by
    rw [Bool.and_eq_true, ble_iff]
    exact ⟨by simp [cellsOk, hok], by omega⟩
  simp only [storeA, hs, hc, List.length_singleton, beq1, decide_true, cond_true, writeA, hg]
  cases k with
  | ro => exact absurd rfl hk
  | own => simp only [hb, cond_true, hov]
  | var => simp only [hb, cond_true, hov]
  | str => simp only [hb, cond_true, hov]

theorem wrap_small {x : Int} (h1 : -9223372036854775808 ≤ x) (h2 : x ≤ 9223372036854775807) : IntKind.wrap .i64 x = x := by
  rw [IntKind.wrap_i64]; omega
end
end Go.Am

noncomputable section
namespace Go.Am
open Go.RowKit

section
variable {ov : CallF} {P : Program}

abbrev Post := Out → List AV → Heap → Prop

def WP (ov : CallF) (P : Program) (c : Code) (e : List AV) (h : Heap) (K : Post) : Prop := ∃ o e' h', Runs ov P c e h (o, e', h') ∧ K o e' h'

/-- A region's outcome. -/
def W (K : Post) : Option (Out × List AV × Heap) → Prop
  | some (o, e, h) => K o e h
  | none => False
theorem W_none {K : Post} : W K none = False := rfl
theorem W_some {K : Post} {o : Out} {e : List AV} {h : Heap} : W K (some (o, e, h)) = K o e h := rfl

def seqK (ov : CallF) (P : Program) (b : Code) (K : Post) : Post
  | .normal, e, h => WP ov P b e h K
  | o, e, h => K o e h
def blockK (id : Nat) (K : Post) : Post
  | .exit i, e, h => bif Nat.beq i id then K .normal e h else K (.exit i) e h
  | o, e, h => K o e h
/-- What a loop's round may come to: out, or once more. -/
def loopK (I : List AV → Heap → Prop) (K : Post) : Post
  | .normal, e, h => I e h
  | o, e, h => K o e h

theorem WP.mono {c : Code} {e : List AV} {h : Heap} {K K' : Post} (hw : WP ov P c e h K) (hk : ∀ o e h, K o e h → K' o e h) : WP ov P c e h K' := by
  obtain ⟨o, e', h', h1, h2⟩ := hw
  exact ⟨o, e', h', h1, hk _ _ _ h2⟩
theorem WP.skip {e : List AV} {h : Heap} {K : Post} (hk : K .normal e h) : WP ov P .skip e h K := ⟨_, _, _, Runs.skip, hk⟩
theorem WP.label {l : Nat} {e : List AV} {h : Heap} {K : Post} (hk : K .normal e h) : WP ov P (.label l) e h K := ⟨_, _, _, Runs.label, hk⟩
theorem WP.exit {l : Nat} {e : List AV} {h : Heap} {K : Post} (hk : K (.exit l) e h) : WP ov P (.exit l) e h K := ⟨_, _, _, Runs.exit, hk⟩
theorem WP.ret {e : List AV} {h : Heap} {K : Post} (hk : K .ret e h) : WP ov P .ret e h K := ⟨_, _, _, Runs.ret, hk⟩
theorem WP.region {id : Nat} {ops : Array Oper} {e : List AV} {h : Heap} {K : Post} (hw : W K (opsA (callT ov P) P ops ops.toList e h)) : WP ov P (.region id ops false) e h K := by
  generalize hr : opsA (callT ov P) P ops ops.toList e h = r at hw
  match r, hw with
  | some (o, e', h'), hw => exact ⟨o, e', h', Runs.region hr, hw⟩
theorem WP.seq {a b : Code} {e : List AV} {h : Heap} {K : Post} (hw : WP ov P a e h (seqK ov P b K)) : WP ov P (.seq a b) e h K := by
  obtain ⟨o, e', h', h1, h2⟩ := hw
  cases o with
  | normal =>
    obtain ⟨o2, e2, h2', h3, h4⟩ := h2
    exact ⟨o2, e2, h2', Runs.seq h1 h3, h4⟩
  | exit i => exact ⟨_, _, _, Runs.seq_out h1 (by simp), h2⟩
  | ret => exact ⟨_, _, _, Runs.seq_out h1 (by simp), h2⟩
  | pan v => exact ⟨_, _, _, Runs.seq_out h1 (by simp), h2⟩
theorem WP.cond {c : Operand} {a b : Code} {e : List AV} {h : Heap} {K : Post} {t : Bool} (hc : evalA P e c = .bool t) (h1 : t = true → WP ov P a e h K) (h2 : t = false → WP ov P b e h K) : WP ov P (.cond c a b) e h K := by
  cases t with
  | true => obtain ⟨o, e', h', h3, h4⟩ := h1 rfl; exact ⟨o, e', h', Runs.cond_true hc h3, h4⟩
  | false => obtain ⟨o, e', h', h3, h4⟩ := h2 rfl; exact ⟨o, e', h', Runs.cond_false hc h3, h4⟩
theorem WP.block {id : Nat} {b : Code} {e : List AV} {h : Heap} {K : Post} (hw : WP ov P b e h (blockK id K)) : WP ov P (.block id b) e h K := by
  obtain ⟨o, e', h', h1, h2⟩ := hw
  cases o with
  | exit i =>
    by_cases hi : i = id
    · subst hi
      simp only [blockK, beq1, decide_true, _root_.cond_true] at h2
      exact ⟨_, _, _, Runs.block_exit h1, h2⟩
    · simp only [blockK, beq1, hi, decide_false, _root_.cond_false] at h2
      exact ⟨_, _, _, Runs.block h1 (by simpa using hi), h2⟩
  | normal => exact ⟨_, _, _, Runs.block h1 (by simp), h2⟩
  | ret => exact ⟨_, _, _, Runs.block h1 (by simp), h2⟩
  | pan v => exact ⟨_, _, _, Runs.block h1 (by simp), h2⟩
/-- A loop by an invariant that counts down. -/
theorem WP.loop {b : Code} {K : Post} (I : Nat → List AV → Heap → Prop) (step : ∀ n e h, I n e h → WP ov P b e h (loopK (fun e h => ∃ m, m < n ∧ I m e h) K)) : ∀ (n : Nat) (e : List AV) (h : Heap), I n e h → WP ov P (.loop b) e h K := by
  intro n
  induction n using Nat.strongRecOn with
  | ind n ih =>
    intro e h hI
    obtain ⟨o, e', h', h1, h2⟩ := step n e h hI
    cases o with
    | normal =>
      obtain ⟨m, hm, hI'⟩ := h2
      obtain ⟨o2, e2, h2', h3, h4⟩ := ih m hm e' h' hI'
      exact ⟨o2, e2, h2', Runs.loop h1 h3, h4⟩
    | exit i => exact ⟨_, _, _, Runs.loop_out h1 (by simp), h2⟩
    | ret => exact ⟨_, _, _, Runs.loop_out h1 (by simp), h2⟩
    | pan v => exact ⟨_, _, _, Runs.loop_out h1 (by simp), h2⟩

theorem seqK_normal {b : Code} {K : Post} {e : List AV} {h : Heap} : seqK ov P b K .normal e h = WP ov P b e h K := rfl
theorem seqK_exit {b : Code} {K : Post} {e : List AV} {h : Heap} {i : Nat} : seqK ov P b K (.exit i) e h = K (.exit i) e h := rfl
theorem seqK_ret {b : Code} {K : Post} {e : List AV} {h : Heap} : seqK ov P b K .ret e h = K .ret e h := rfl
theorem blockK_same {id : Nat} {K : Post} {e : List AV} {h : Heap} : blockK id K (.exit id) e h = K .normal e h := by
  simp only [blockK, beq1, decide_true, _root_.cond_true]
theorem blockK_ne {id i : Nat} (hn : i ≠ id) {K : Post} {e : List AV} {h : Heap} : blockK id K (.exit i) e h = K (.exit i) e h := by
  simp only [blockK, beq1, hn, decide_false, _root_.cond_false]
theorem blockK_normal {id : Nat} {K : Post} {e : List AV} {h : Heap} : blockK id K .normal e h = K .normal e h := rfl
theorem blockK_ret {id : Nat} {K : Post} {e : List AV} {h : Heap} : blockK id K .ret e h = K .ret e h := rfl
theorem loopK_normal {I : List AV → Heap → Prop} {K : Post} {e : List AV} {h : Heap} : loopK I K .normal e h = I e h := rfl
theorem loopK_exit {I : List AV → Heap → Prop} {K : Post} {e : List AV} {h : Heap} {i : Nat} : loopK I K (.exit i) e h = K (.exit i) e h := rfl
theorem loopK_ret {I : List AV → Heap → Prop} {K : Post} {e : List AV} {h : Heap} : loopK I K .ret e h = K .ret e h := rfl

@[congr] theorem W_congr {K : Post} {x y : Option (Out × List AV × Heap)} (h : x = y) : W K x = W K y := by rw [h]
@[congr] theorem WP_congr {c : Code} {K : Post} {e e' : List AV} {h h' : Heap} (he : e = e') (hh : h = h') : WP ov P c e h K = WP ov P c e' h' K := by rw [he, hh]
@[congr] theorem seqK_congr {b : Code} {K : Post} {o o' : Out} {e e' : List AV} {h h' : Heap} (ho : o = o') (he : e = e') (hh : h = h') : seqK ov P b K o e h = seqK ov P b K o' e' h' := by rw [ho, he, hh]
@[congr] theorem blockK_congr {id : Nat} {K : Post} {o o' : Out} {e e' : List AV} {h h' : Heap} (ho : o = o') (he : e = e') (hh : h = h') : blockK id K o e h = blockK id K o' e' h' := by rw [ho, he, hh]
@[congr] theorem loopK_congr {I : List AV → Heap → Prop} {K : Post} {o o' : Out} {e e' : List AV} {h h' : Heap} (ho : o = o') (he : e = e') (hh : h = h') : loopK I K o e h = loopK I K o' e' h' := by rw [ho, he, hh]

/-- A region that draws its order and needs no look at what it does. -/
theorem WP.draw {id : Nat} {ops : Array Oper} {e : List AV} {h : Heap} {K : Post} (hs : drawStatic P ops (masks ops.toList []) = true) (hn : needNot P (masks ops.toList []) (louds P ops.toList 0) ops.toList 0 = true)
    (hw : W (fun o e h => o = .normal ∧ K .normal e h) (opsA (callT ov P) P ops ops.toList e h)) : WP ov P (.region id ops true) e h K := by
  generalize hr : opsA (callT ov P) P ops ops.toList e h = r at hw
  match r, hw with
  | some (o, e', h'), hw =>
    obtain ⟨rfl, hk⟩ := hw
    refine ⟨.normal, e', h', Runs.draw ?_, hk⟩
    simp only [drawA, hs, cond_true, hr, hn, Bool.true_or]
theorem WP.drawDyn {id : Nat} {ops : Array Oper} {e : List AV} {h : Heap} {K : Post} (hs : drawStatic P ops (masks ops.toList []) = true) (hn : dynOk (callT ov P) P ops e h = true)
    (hw : W (fun o e h => o = .normal ∧ K .normal e h) (opsA (callT ov P) P ops ops.toList e h)) : WP ov P (.region id ops true) e h K := by
  generalize hr : opsA (callT ov P) P ops ops.toList e h = r at hw
  match r, hw with
  | some (o, e', h'), hw =>
    obtain ⟨rfl, hk⟩ := hw
    refine ⟨.normal, e', h', Runs.draw ?_, hk⟩
    simp only [drawA, hs, cond_true, hr, hn, Bool.or_true]

/-- A function's call. -/
theorem callT_wp {f : FuncId} {fn : Func} {c : Code} {a : List AV} {h : Heap} {Q : AV → Heap → Prop} (hov : ov f a h = none) (hf : P.funcs[f]? = some fn) (hb : fn.body = some c)
    (hw : WP ov P c (frameA fn a) h (fun o e h' => (o = .normal ∨ o = .ret) ∧ ∃ vs, resultsA P e h' fn.results.toList = some vs ∧ Q (single vs) h')) : ∃ v h', callT ov P f a h = some (.ret v h') ∧ Q v h' := by
  obtain ⟨o, e, h', h1, ho, vs, hv, hq⟩ := hw
  exact ⟨_, _, callT_ret hov hf hb h1 ho hv, hq⟩

/-! ### Frames by what they hold -/

theorem nth_set_eq : ∀ {e : List AV} {i : Nat} {v : AV}, i < e.length → nth (e.set i v) i = v
  | _ :: _, 0, _, _ => rfl
  | _ :: e, i + 1, v, h => by simp only [List.set_cons_succ, nth]; exact nth_set_eq (by simpa using h)
theorem nth_set_ne : ∀ {e : List AV} {i j : Nat} {v : AV}, i ≠ j → nth (e.set i v) j = nth e j
  | [], _, _, _, _ => rfl
  | _ :: _, 0, 0, _, h => absurd rfl h
  | _ :: _, 0, _ + 1, _, _ => rfl
  | _ :: _, _ + 1, 0, _, _ => rfl
  | _ :: e, i + 1, j + 1, v, h => by simp only [List.set_cons_succ, nth]; exact nth_set_ne (by omega)

/-! ### Memory by what it holds -/

def Wf (h : Heap) : Prop := ∀ i o, h.get i = some o → i < h.next
theorem Wf.set {h : Heap} (hw : Wf h) {i : Nat} (o : Obj) (hi : i < h.next) : Wf (h.set i o) := by
  intro j o' hj
  rw [Heap.next_set]
  by_cases hij : i = j
  · omega
  · rw [Heap.get_set_ne _ _ hij] at hj; exact hw _ _ hj
theorem Wf.alloc {h : Heap} (hw : Wf h) (o : Obj) : Wf (h.alloc o) := by
  intro j o' hj
  rw [Heap.next_alloc]
  by_cases hij : h.next = j
  · omega
  · rw [Heap.get_alloc_ne _ _ hij] at hj; have := hw _ _ hj; omega
theorem Wf.del {h : Heap} (hw : Wf h) (i : Nat) : Wf (h.del i) := by
  intro j o' hj
  rw [Heap.next_del]
  by_cases hij : i = j
  · subst hij; rw [Heap.get_del] at hj; cases hj
  · rw [Heap.get_del_ne _ hij] at hj; exact hw _ _ hj
theorem Wf.none {h : Heap} (hw : Wf h) {i : Nat} (hi : h.next ≤ i) : h.get i = none := by
  cases hg : h.get i with
  | none => rfl
  | some o => have := hw _ _ hg; omega

/-- Behind h0 all that was there is still there, but for some. -/
structure Keep (ex : List Nat) (h0 h : Heap) : Prop where
  wf0 : Wf h0
  wf : Wf h
  le : h0.next ≤ h.next
  get : ∀ i o, h0.get i = some o → i ∉ ex → h.get i = some o
theorem Keep.refl {ex : List Nat} {h : Heap} (hw : Wf h) : Keep ex h h := ⟨hw, hw, Nat.le_refl _, fun _ _ h _ => h⟩
theorem Keep.trans {ex : List Nat} {a b c : Heap} (h : Keep ex a b) (h' : Keep ex b c) : Keep ex a c := ⟨h.wf0, h'.wf, Nat.le_trans h.le h'.le, fun i o hi hx => h'.get i o (h.get i o hi hx) hx⟩
theorem Keep.more {ex ex' : List Nat} {a b : Heap} (h : Keep ex a b) (hx : ∀ i, i ∈ ex → i ∈ ex' ∨ a.next ≤ i) : Keep ex' a b := ⟨h.wf0, h.wf, h.le, fun i o hi hn => h.get i o hi (fun hm => by
  rcases hx i hm with h1 | h1
  · exact hn h1
  · have := h.wf0 _ _ hi; omega)⟩
theorem Keep.alloc {ex : List Nat} {h0 h : Heap} (hk : Keep ex h0 h) (o : Obj) : Keep ex h0 (h.alloc o) :=
  ⟨hk.wf0, hk.wf.alloc o, by rw [Heap.next_alloc]; have := hk.le; omega, fun i o' hi hx => by
    have h1 := hk.get i o' hi hx
    have := hk.wf _ _ h1
    rw [Heap.get_alloc_ne _ _ (by omega)]; exact h1⟩
theorem Keep.set {ex : List Nat} {h0 h : Heap} (hk : Keep ex h0 h) {i : Nat} (o : Obj) (hi : i < h.next) (hx : i ∈ ex ∨ h0.next ≤ i) : Keep ex h0 (h.set i o) :=
  ⟨hk.wf0, hk.wf.set o hi, hk.le, fun j o' hj hn => by
    have h1 := hk.get j o' hj hn
    have h2 := hk.wf0 _ _ hj
    rw [Heap.get_set_ne _ _ (by rintro rfl; rcases hx with hx | hx; exact hn hx; omega)]; exact h1⟩
theorem Keep.del {ex : List Nat} {h0 h : Heap} (hk : Keep ex h0 h) {i : Nat} (hx : i ∈ ex ∨ h0.next ≤ i) : Keep ex h0 (h.del i) :=
  ⟨hk.wf0, hk.wf.del i, hk.le, fun j o' hj hn => by
    have h1 := hk.get j o' hj hn
    have h2 := hk.wf0 _ _ hj
    rw [Heap.get_del_ne _ (by rintro rfl; rcases hx with hx | hx; exact hn hx; omega)]; exact h1⟩

/-- What is said of a capacity fits the length. -/
def capOk (n : Nat) : Cap → Prop
  | .exact m => n ≤ m
  | .tip e => e = 1
  | .dim => True
/-- What a slice of one-cell elements shows. -/
def Sl (h : Heap) (v : AV) (xs : List AV) : Prop :=
  match v with
  | .slice none n _ => n = 0 ∧ xs = []
  | .slice (some l) n c => (xs.length = n ∧ capOk n c) ∧ (n = 0 ∨ ∃ cs k, h.get l.id = some (.cells cs k) ∧ l.off + n ≤ cs.length ∧ (cs.drop l.off).take n = xs)
  | _ => False
/-- Its block (none where it shows nothing). -/
def idOf : AV → Option Nat
  | .slice (some l) _ _ => some l.id
  | .ptr (some l) => some l.id
  | _ => none

theorem Sl.keep {ex : List Nat} {h0 h : Heap} (hk : Keep ex h0 h) {v : AV} {xs : List AV} (hs : Sl h0 v xs) (hx : ∀ i, idOf v = some i → i ∉ ex) : Sl h v xs := by
  match v, hs with
  | .slice none n _, hs => exact hs
  | .slice (some l) n _, hs =>
    obtain ⟨h1, h2⟩ := hs
    refine ⟨h1, h2.imp id ?_⟩
    rintro ⟨cs, k, h3, h4⟩
    exact ⟨cs, k, hk.get _ _ h3 (hx _ rfl), h4⟩
theorem Sl.keep' {ex : List Nat} {h0 h : Heap} (hk : Keep ex h0 h) {v : AV} {xs : List AV} (hs : Sl h0 v xs) (hx : xs ≠ [] → ∀ i, idOf v = some i → i ∉ ex) : Sl h v xs := by
  match v, hs with
  | .slice none n _, hs => exact hs
  | .slice (some l) n _, hs =>
    obtain ⟨h1, h2⟩ := hs
    refine ⟨h1, ?_⟩
    rcases h2 with h2 | ⟨cs, k, h3, h4⟩
    · exact .inl h2
    · by_cases hn : n = 0
      · exact .inl hn
      · refine .inr ⟨cs, k, hk.get _ _ h3 (hx ?_ _ rfl), h4⟩
        intro hh
        rw [hh] at h1
        exact hn h1.1.symm
theorem Sl.lt {h : Heap} (hw : Wf h) {v : AV} {xs : List AV} (hs : Sl h v xs) (hne : xs ≠ []) {i : Nat} (hi : idOf v = some i) : i < h.next := by
  match v, hs with
  | .slice (some l) n _, hs =>
    cases hi
    obtain ⟨h1, h2 | ⟨cs, k, h3, h4⟩⟩ := hs
    · exact absurd (List.length_eq_zero_iff.1 (h1.1.trans h2)) hne
    · exact hw _ _ h3
theorem Sl.slice {h : Heap} {v : AV} {xs : List AV} (hs : Sl h v xs) : ∃ l c, v = .slice l xs.length c := by
  match v, hs with
  | .slice none n c, hs => obtain ⟨rfl, rfl⟩ := hs; exact ⟨none, c, rfl⟩
  | .slice (some l) n c, hs => obtain ⟨⟨rfl, _⟩, _⟩ := hs; exact ⟨some l, c, rfl⟩
theorem Sl.len {h : Heap} {v : AV} {xs : List AV} (hs : Sl h v xs) {t el : TypeId} (hu : P.underlying t = some (.slice el)) : lenA P h t v = some (.int .i64 xs.length) := by
  obtain ⟨l, c, rfl⟩ := hs.slice
  exact lenA_slice hu
theorem Sl.at {h : Heap} {v : AV} {xs : List AV} (hs : Sl h v xs) {t el : TypeId} (hu : P.underlying t = some (.slice el)) (h1 : sizeA P el = some 1) (ha : aggA P el = some false) {i : Nat} {x : AV} (hx : xs[i]? = some x) {k : IntKind} :
    ∃ l, indexAddrA P t v (.int k (i : Int)) = some (.ptr (some l)) ∧ loadA P h el l = some x ∧ idOf v = some l.id := by
  have hlt := (List.getElem?_eq_some_iff.1 hx).1
  match v, hs with
  | .slice none n c, hs => obtain ⟨rfl, rfl⟩ := hs; simp at hx
  | .slice (some l) n c, hs =>
    obtain ⟨⟨rfl, _⟩, h0 | ⟨cs, k', hg, hle, hd⟩⟩ := hs
    · omega
    · refine ⟨_, index_at hu h1 hlt, ?_, rfl⟩
      refine load_cell ha hg ?_
      rw [← hd, List.getElem?_take_of_lt hlt, List.getElem?_drop] at hx
      simpa using hx
theorem Sl.src {h : Heap} {v : AV} {xs : List AV} (hs : Sl h v xs) {t el : TypeId} (hu : P.underlying t = some (.slice el)) (hok : cellsOk xs = true) : srcA P h 1 t v = some (xs.length, xs) := by
  match v, hs with
  | .slice none n c, hs => obtain ⟨rfl, rfl⟩ := hs; simp [srcA, hu]
  | .slice (some l) n c, hs =>
    obtain ⟨⟨rfl, _⟩, h0⟩ := hs
    cases hn : xs.length with
    | zero =>
      have : xs = [] := List.length_eq_zero_iff.1 hn
      simp [srcA, hu, this]
    | succ n =>
      rcases h0 with h0 | ⟨cs, k', hg, hle, hd⟩
      · omega
      · simp only [srcA, hu, readA, Nat.mul_one, hg]
        rw [hn] at hle hd
        rw [(ble_iff _ _).2 hle]
        simp only [cond_true, hd, hok]
end
attribute [irreducible] WP
end Go.Am

noncomputable section
namespace Go.Am
open Go.RowKit

section
variable {P : Program}

theorem flatten_length {s : Nat} : ∀ {rows : List (List AV)}, (∀ r ∈ rows, r.length = s) → rows.flatten.length = rows.length * s
  | [], _ => by simp
  | r :: rows, h => by
    have h1 := h r List.mem_cons_self
    have h2 := flatten_length (fun r hr => h r (List.mem_cons_of_mem _ hr))
    simp only [List.flatten_cons, List.length_append, List.length_cons, h1, h2, Nat.add_mul, Nat.one_mul]
    omega
theorem flatten_at {s : Nat} : ∀ {rows : List (List AV)}, (∀ r ∈ rows, r.length = s) → ∀ {i : Nat} {r : List AV}, rows[i]? = some r → (rows.flatten.drop (i * s)).take s = r
  | [], _, _, _, hr => by simp at hr
  | r :: rows, h, 0, r', hr => by
    simp only [List.getElem?_cons_zero, Option.some.injEq] at hr
    subst hr
    have h1 := h r List.mem_cons_self
    simp [← h1]
  | r :: rows, h, i + 1, r', hr => by
    have h1 := h r List.mem_cons_self
    have h2 := flatten_at (fun r hr => h r (List.mem_cons_of_mem _ hr)) (i := i) (r := r') (by simpa using hr)
    rw [List.flatten_cons, List.drop_append, List.drop_eq_nil_of_le (by rw [h1, Nat.add_mul]; omega), List.nil_append, h1]
    have h3 : (i + 1) * s - s = i * s := by rw [Nat.add_mul]; omega
    rw [h3]; exact h2

/-- What a slice shows, element by element. -/
def Slr (h : Heap) (s : Nat) (v : AV) (rows : List (List AV)) : Prop :=
  (∀ r ∈ rows, r.length = s) ∧ match v with
  | .slice none n _ => n = 0 ∧ rows = []
  | .slice (some l) n _ => rows.length = n ∧ (n = 0 ∨ ∃ cs k, h.get l.id = some (.cells cs k) ∧ l.off + n * s ≤ cs.length ∧ (cs.drop l.off).take (n * s) = rows.flatten)
  | _ => False
theorem Slr.keep' {ex : List Nat} {h0 h : Heap} (hk : Keep ex h0 h) {s : Nat} {v : AV} {rows : List (List AV)} (hs : Slr h0 s v rows) (hx : rows ≠ [] → ∀ i, idOf v = some i → i ∉ ex) : Slr h s v rows := by
  refine ⟨hs.1, ?_⟩
  have hs2 := hs.2
  match v, hs2 with
  | .slice none n _, hs2 => exact hs2
  | .slice (some l) n _, hs2 =>
    obtain ⟨h1, h2⟩ := hs2
    refine ⟨h1, ?_⟩
    by_cases hn : n = 0
    · exact .inl hn
    · rcases h2 with h2 | ⟨cs, k, h3, h4⟩
      · exact .inl h2
      · refine .inr ⟨cs, k, hk.get _ _ h3 (hx ?_ _ rfl), h4⟩
        intro hh
        rw [hh] at h1
        exact hn h1.symm
theorem Slr.lt {h : Heap} (hw : Wf h) {s : Nat} {v : AV} {rows : List (List AV)} (hs : Slr h s v rows) (hne : rows ≠ []) {i : Nat} (hi : idOf v = some i) : i < h.next := by
  have hs2 := hs.2
  match v, hs2 with
  | .slice (some l) n _, hs2 =>
    cases hi
    obtain ⟨h1, h2 | ⟨cs, k, h3, h4⟩⟩ := hs2
    · exact absurd (List.length_eq_zero_iff.1 (h1.trans h2)) hne
    · exact hw _ _ h3
theorem Slr.slice {h : Heap} {s : Nat} {v : AV} {rows : List (List AV)} (hs : Slr h s v rows) : ∃ l c, v = .slice l rows.length c := by
  have hs2 := hs.2
  match v, hs2 with
  | .slice none n c, hs2 => obtain ⟨rfl, rfl⟩ := hs2; exact ⟨none, c, rfl⟩
  | .slice (some l) n c, hs2 => obtain ⟨rfl, _⟩ := hs2; exact ⟨some l, c, rfl⟩
theorem Slr.len {h : Heap} {s : Nat} {v : AV} {rows : List (List AV)} (hs : Slr h s v rows) (h' : Heap) {t el : TypeId} (hu : P.underlying t = some (.slice el)) : lenA P h' t v = some (.int .i64 rows.length) := by
  obtain ⟨l, c, rfl⟩ := hs.slice
  exact lenA_slice hu
theorem Slr.at {h : Heap} {s : Nat} {v : AV} {rows : List (List AV)} (hs : Slr h s v rows) {t el : TypeId} (hu : P.underlying t = some (.slice el)) (h1 : sizeA P el = some s) (ha : aggA P el = some true) {i : Nat} {r : List AV} (hx : rows[i]? = some r) {k : IntKind} :
    ∃ l, indexAddrA P t v (.int k (i : Int)) = some (.ptr (some l)) ∧ loadA P h el l = some (.agg r) ∧ idOf v = some l.id := by
  have hlt := (List.getElem?_eq_some_iff.1 hx).1
  have hfl := flatten_length hs.1
  have hat := flatten_at hs.1 hx
  have hs2 := hs.2
  match v, hs2 with
  | .slice none n c, hs2 => obtain ⟨rfl, rfl⟩ := hs2; simp at hx
  | .slice (some l) n c, hs2 =>
    obtain ⟨rfl, h0 | ⟨cs, k', hg, hle, hd⟩⟩ := hs2
    · omega
    · have hb : (i + 1) * s ≤ rows.length * s := Nat.mul_le_mul_right _ hlt
      rw [Nat.add_mul, Nat.one_mul] at hb
      refine ⟨_, index_at hu h1 hlt, ?_, rfl⟩
      rw [load_agg ha h1 hg (by omega)]
      congr 2
      rw [← hat, ← hd, List.drop_take, List.take_take, List.drop_drop]
      congr 1
      omega
theorem Slr.src {h : Heap} {s : Nat} {v : AV} {rows : List (List AV)} (hs : Slr h s v rows) {t el : TypeId} (hu : P.underlying t = some (.slice el)) (hok : cellsOk rows.flatten = true) : srcA P h s t v = some (rows.length, rows.flatten) := by
  have hs2 := hs.2
  match v, hs2 with
  | .slice none n c, hs2 => obtain ⟨rfl, rfl⟩ := hs2; simp [srcA, hu]
  | .slice (some l) n c, hs2 =>
    obtain ⟨rfl, h0⟩ := hs2
    cases hn : rows.length with
    | zero =>
      have : rows = [] := List.length_eq_zero_iff.1 hn
      simp [srcA, hu, this]
    | succ n =>
      rcases h0 with h0 | ⟨cs, k', hg, hle, hd⟩
      · omega
      · simp only [srcA, hu, readA, hg]
        rw [hn] at hle hd
        rw [(ble_iff _ _).2 hle]
        simp only [cond_true, hd, hok]

/-- A literal without elements, and all of a slice appended to it. -/
theorem Slr.clone {h : Heap} (hw : Wf h) {s : Nat} {k : Kind} {t el : TypeId} (hu : P.underlying t = some (.slice el)) (h1 : sizeA P el = some s) (hs0 : 0 < s) {news : List (List AV)} {y : AV} (hy : Slr h s y news) (hok : cellsOk news.flatten = true) (hroom : news ≠ [] → roomA P el news.length = true) :
    ∃ v' h', appendA P (h.alloc (.cells [] k)) t t (.slice (some ⟨h.next, 0⟩) 0 (.exact 0)) y = some (v', h') ∧ Slr h' s v' news ∧ Keep [] h h' := by
  have hk := (Keep.refl (ex := []) hw).alloc (.cells [] k)
  have hy' : Slr (h.alloc (.cells [] k)) s y news := hy.keep' hk (by simp)
  have hsrc := hy'.src (P := P) hu hok
  cases hn2 : news.length with
  | zero =>
    have : news = [] := List.length_eq_zero_iff.1 hn2
    subst this
    refine ⟨.slice (some ⟨h.next, 0⟩) 0 (.exact 0), _, ?_, ⟨by simp, ?_⟩, hk⟩
    · simp only [appendA, hu, h1, hsrc, List.length_nil, appendCore]
    · exact ⟨rfl, .inl rfl⟩
  | succ m =>
    rw [hn2] at hsrc hroom
    have hne : news ≠ [] := by intro hh; simp [hh] at hn2
    have hroom := hroom hne
    have hg : (h.alloc (.cells [] k)).get h.next = some (.cells [] k) := Heap.get_alloc _ _
    have hb : Nat.ble (0 + (m + 1)) 0 = false := by simp [Nat.ble]
    have hrd : readA (h.alloc (.cells [] k)) ⟨h.next, 0⟩ (0 * s) = some [] := by
      simp only [readA, hg, Nat.zero_mul, List.length_nil]; rfl
    refine ⟨.slice (some ⟨h.next + 1, 0⟩) (0 + (m + 1)) (.tip s), (h.alloc (.cells [] k)).alloc (.cells news.flatten (.own (some el))), ?_, ⟨hy.1, ?_⟩, hk.alloc _⟩
    · simp only [Nat.zero_add] at hroom hb ⊢
      simp only [appendA, hu, h1, hsrc, appendCore, Nat.zero_add, hroom, cond_true, hb, cond_false, hrd, List.nil_append, Heap.next_alloc]
    · have hfl := flatten_length hy.1
      refine ⟨by simp [hn2], .inr ⟨_, .own (some el), Heap.get_alloc _ _, ?_, ?_⟩⟩
      · rw [hfl, hn2]; show 0 + (0 + (m + 1)) * s ≤ (m + 1) * s; rw [Nat.zero_add, Nat.zero_add]; exact Nat.le_refl _
      · rw [List.drop_zero, Nat.zero_add, ← hn2, ← hfl, List.take_length]
end
end Go.Am

noncomputable section
namespace Go.Am
open Go.RowKit

section
variable {P : Program}

/-- What is appended to, from nothing on, in blocks of the call's own. -/
def Acc (n0 : Nat) (el : TypeId) (h : Heap) (v : AV) (xs : List AV) : Prop :=
  (xs = [] ∧ ∃ l, v = .slice l 0 (.exact 0) ∧ ∀ x, l = some x → n0 ≤ x.id ∧ x.off = 0 ∧ ∃ cs k, h.get x.id = some (.cells cs k)) ∨ (∃ i, n0 ≤ i ∧ xs ≠ [] ∧ v = .slice (some ⟨i, 0⟩) xs.length (.tip 1) ∧ h.get i = some (.cells xs (.own (some el))))
theorem Acc.empty {n0 : Nat} {el : TypeId} {h : Heap} {i : Nat} {cs : List AV} {k : Kind} (hi : n0 ≤ i) (hg : h.get i = some (.cells cs k)) : Acc n0 el h (.slice (some ⟨i, 0⟩) 0 (.exact 0)) [] := .inl ⟨rfl, _, rfl, fun _ hx => by cases hx; exact ⟨hi, rfl, cs, k, hg⟩⟩
theorem Acc.sl {n0 : Nat} {el : TypeId} {h : Heap} {v : AV} {xs : List AV} (ha : Acc n0 el h v xs) : Sl h v xs := by
  rcases ha with ⟨rfl, l, rfl, hl⟩ | ⟨i, _, _, rfl, hg⟩
  · cases l with
    | none => exact ⟨rfl, rfl⟩
    | some x => exact ⟨⟨rfl, Nat.le_refl _⟩, .inl rfl⟩
  · exact ⟨⟨rfl, rfl⟩, .inr ⟨xs, _, hg, by simp, by simp⟩⟩
theorem Acc.keep {n0 : Nat} {el : TypeId} {ex : List Nat} {h0 h : Heap} (hk : Keep ex h0 h) {v : AV} {xs : List AV} (hs : Acc n0 el h0 v xs) (hx : ∀ i ∈ ex, i < n0) : Acc n0 el h v xs := by
  rcases hs with ⟨h1, l, h2, h3⟩ | ⟨j, h1, h2, h3, hg⟩
  · refine .inl ⟨h1, l, h2, fun x hx' => ?_⟩
    obtain ⟨h4, h5, cs, k, h6⟩ := h3 x hx'
    exact ⟨h4, h5, cs, k, hk.get _ _ h6 (fun hm => by have := hx _ hm; omega)⟩
  · exact .inr ⟨j, h1, h2, h3, hk.get _ _ hg (fun hm => by have := hx _ hm; omega)⟩
/-- One more is appended. -/
theorem Acc.push {n0 : Nat} {ex : List Nat} {h0 h : Heap} {v : AV} {xs : List AV} {t el : TypeId} (ha : Acc n0 el h v xs) (hk : Keep ex h0 h) (hn : h0.next ≤ n0) (hn' : n0 ≤ h.next) (hu : P.underlying t = some (.slice el)) (h1 : sizeA P el = some 1) (hroom : roomA P el (xs.length + 1) = true)
    {x y : AV} (hy : Sl h y [x]) (hok : cellOk x = true) : ∃ v' h', appendA P h t t v y = some (v', h') ∧ Acc n0 el h' v' (xs ++ [x]) ∧ Keep ex h0 h' ∧ h.next ≤ h'.next := by
  have hsrc := hy.src (P := P) hu (by simp [cellsOk, hok])
  rcases ha with ⟨rfl, l, rfl, hl⟩ | ⟨i, hi, hne, rfl, hg⟩
  · simp only [List.length_nil, Nat.zero_add] at hroom
    refine ⟨.slice (some ⟨h.next, 0⟩) 1 (.tip 1), h.alloc (.cells [x] (.own (some el))), ?_, .inr ⟨h.next, hn', by simp, by simp, Heap.get_alloc _ _⟩, hk.alloc _, by simp [Heap.next_alloc]⟩
    cases l with
    | none => simp only [appendA, appendCore, hu, h1, hsrc, List.length_singleton, Nat.zero_add, hroom, cond_true]
    | some y =>
      obtain ⟨_, hx0, cs, k, hgx⟩ := hl y rfl
      have hb : Nat.ble 1 0 = false := rfl
      have hrd : readA h y (0 * 1) = some [] := by
        have : Nat.ble y.off cs.length = true := by rw [ble_iff, hx0]; omega
        simp [readA, hgx, this]
      simp only [appendA, appendCore, hu, h1, hsrc, List.length_singleton, Nat.zero_add, hroom, cond_true, hb, cond_false, hrd, List.nil_append]
  · refine ⟨.slice (some ⟨h.next, 0⟩) (xs.length + 1) (.tip 1), (h.del i).alloc (.cells (xs ++ [x]) (.own (some el))), ?_, .inr ⟨h.next, hn', by simp, by simp, Heap.get_alloc _ _⟩, (hk.del (.inr (by omega))).alloc _, by simp [Heap.next_alloc, Heap.next_del]⟩
    have hb : Nat.ble (0 + (xs.length + 1) * 1) xs.length = false := by
      cases hb : Nat.ble (0 + (xs.length + 1) * 1) xs.length with
      | false => rfl
      | true => rw [ble_iff] at hb; omega
    have hb2 : Nat.beq (0 + xs.length * 1) xs.length = true := by simp
    have hb4 : Nat.beq 1 1 = true := rfl
    have hb5 : Nat.beq el el = true := Nat.beq_refl _
    have hx : cellsOk [x] = true := by simp [cellsOk, hok]
    simp only [appendA, appendCore, hu, h1, hsrc, List.length_singleton, hroom, cond_true, hg, hb, cond_false, hb4]
    rw [hb2]
    simp only [hx, Bool.and_true, cond_true, List.drop_zero, growK, hb5]
end
end Go.Am
