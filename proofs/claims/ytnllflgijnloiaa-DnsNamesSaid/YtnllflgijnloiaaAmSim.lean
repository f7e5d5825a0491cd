/- Laws for running the abstract machine by simp. -/
import Derived.Test.YtnllflgijnloiaaAmLim
namespace Go.Am
open Go.RowKit

section
variable {call : CallF} {P : Program} {ops : Array Oper} {dst : Option Tmp} {op : Op} {ty : TypeId} {pos : String} {after : Array Edge} {rest : List Oper} {e : List AV} {h : Heap}

theorem sim_nil : opsA call P ops [] e h = some (.normal, e, h) := rfl
/-- One operation's answer, handed on. -/
def stepR (call : CallF) (P : Program) (ops : Array Oper) (rest : List Oper) (dst : Option Tmp) (e : List AV) : Option CRes → Option (Out × List AV × Heap)
  | some (.ret v h') => opsA call P ops rest (putA e dst v) h'
  | some (.pan v h') => some (.pan v, e, h')
  | none => none
theorem sim_cons : opsA call P ops (⟨dst, op, ty, pos, after, none⟩ :: rest) e h = stepR call P ops rest dst e (opA call P e h op) := by
  simp only [opsA, wantedA]
  cases opA call P e h op with
  | none => rfl
  | some r => cases r <;> rfl
theorem stepR_ret {v : AV} {h' : Heap} {d : Tmp} : stepR call P ops rest (some d) e (some (.ret v h')) = opsA call P ops rest (e.set d v) h' := rfl
theorem stepR_none {v : AV} {h' : Heap} : stepR call P ops rest none e (some (.ret v h')) = opsA call P ops rest e h' := rfl
/-- A guarded operation: is it wanted? -/
def guardA (ops : Array Oper) (e : List AV) (j : Nat) (b : Bool) : Option Bool :=
  match (ops[j]?).bind (·.dst) with
  | none => some false
  | some d =>
    match nth e d with
    | .bool c => some (c == b)
    | .unk => none
    | _ => some false
def gstep (call : CallF) (P : Program) (ops : Array Oper) (rest : List Oper) (dst : Option Tmp) (op : Op) (e : List AV) (h : Heap) : Option Bool → Option (Out × List AV × Heap)
  | some true => stepR call P ops rest dst e (opA call P e h op)
  | some false => opsA call P ops rest (putA e dst (.tuple [])) h
  | none => none
theorem sim_guard {j : Nat} {b : Bool} : opsA call P ops (⟨dst, op, ty, pos, after, some (j, b)⟩ :: rest) e h = gstep call P ops rest dst op e h (guardA ops e j b) := by
  have hw : wantedA ops e ⟨dst, op, ty, pos, after, some (j, b)⟩ = guardA ops e j b := rfl
  simp only [opsA, hw]
  cases guardA ops e j b with
  | none => rfl
  | some t =>
    cases t with
    | false => rfl
    | true =>
      simp only [gstep]
      cases opA call P e h op with
      | none => rfl
      | some r => cases r <;> rfl
theorem gstep_true : gstep call P ops rest dst op e h (some true) = stepR call P ops rest dst e (opA call P e h op) := rfl
theorem gstep_false {d : Tmp} : gstep call P ops rest (some d) op e h (some false) = opsA call P ops rest (e.set d (.tuple [])) h := rfl
theorem guardA_at {j : Nat} {b c : Bool} {d : Tmp} (h1 : (ops[j]?).bind (·.dst) = some d) (h2 : nth e d = .bool c) : guardA ops e j b = some (c == b) := by
  simp only [guardA, h1, h2]

theorem nth_zero {x : AV} {xs : List AV} : nth (x :: xs) 0 = x := rfl
theorem nth_succ {x : AV} {xs : List AV} {n : Nat} : nth (x :: xs) (n + 1) = nth xs n := rfl
theorem ev_tmp {t : Tmp} : evalA P e (.tmp t) = nth e t := rfl
theorem ev_func {f : FuncId} : evalA P e (.func f) = .func (.func f) [] [] := rfl
theorem ev_int {k : IntKind} {n : Int} : evalA P e (.const (.int k n)) = .int k n := rfl
theorem ev_bool {b : Bool} : evalA P e (.const (.bool b)) = .bool b := rfl
theorem ev_nilptr : evalA P e (.const (.pointer none)) = .ptr none := rfl
theorem ev_nilslice : evalA P e (.const (.slice none 0 0)) = .slice none 0 (.exact 0) := rfl
theorem ev_nilIface : evalA P e (.const .nilIface) = .nilIface := rfl
theorem ev_nilFunc : evalA P e (.const .nilFunc) = .nilFunc := rfl
theorem ev_nilmap : evalA P e (.const (.map none)) = .map none := rfl

theorem op_move {x : Operand} : opA call P e h (.move x) = some (.ret (evalA P e x) h) := rfl
theorem op_assign {x : Operand} : opA call P e h (.assign x) = some (.ret (evalA P e x) h) := rfl
def pickA (c : AV) (a b : AV) (h : Heap) : Option CRes := match c with | .bool t => some (.ret (bif t then a else b) h) | _ => none
theorem op_pick {c a b : Operand} : opA call P e h (.pick c a b) = pickA (evalA P e c) (evalA P e a) (evalA P e b) h := by
  simp only [opA, aop]
  cases evalA P e c <;> rfl
theorem pickA_bool {t : Bool} {a b : AV} : pickA (.bool t) a b h = some (.ret (bif t then a else b) h) := rfl
theorem op_alloc {t : TypeId} : opA call P e h (.alloc t) = toRet (allocA P h t) := rfl
theorem op_box {t : TypeId} {x : Operand} : opA call P e h (.box t x) = toRet (boxA h (evalA P e x)) := rfl
theorem op_build {t : TypeId} {ps : Array (Nat × Operand)} : opA call P e h (.build t ps) = toRet (withH h (buildA P t (evalParts P e ps.toList))) := rfl
theorem op_buildSlice {t : TypeId} {n : Nat} {ps : Array (Nat × Operand)} : opA call P e h (.buildSlice t n ps) = toRet (buildSliceA P h t n (evalParts P e ps.toList)) := rfl
def loadR (P : Program) (h : Heap) (t : TypeId) (x : AV) : Option CRes := match x with | .ptr (some l) => toRet (withH h (loadA P h t l)) | _ => none
theorem op_load {t : TypeId} {a : Operand} : opA call P e h (.load t a) = loadR P h t (evalA P e a) := by
  simp only [opA, aop, loadR]
  split <;> simp_all [toRet]
theorem loadR_ptr {t : TypeId} {l : Loc} : loadR P h t (.ptr (some l)) = toRet (withH h (loadA P h t l)) := rfl
def storeR (P : Program) (h : Heap) (t : TypeId) (x v : AV) : Option CRes := match x with | .ptr (some l) => (match storeA P h t l v with | some h' => some (.ret (.tuple []) h') | none => none) | _ => none
theorem op_store {t : TypeId} {a x : Operand} : opA call P e h (.store t a x) = storeR P h t (evalA P e a) (evalA P e x) := by
  simp only [opA, aop, storeR]
  cases evalA P e a with
  | ptr l =>
    cases l with
    | none => rfl
    | some l =>
      simp only []
      cases storeA P h t l (evalA P e x) <;> rfl
  | _ => rfl
theorem storeR_ptr {t : TypeId} {l : Loc} {v : AV} {h' : Heap} (hs : storeA P h t l v = some h') : storeR P h t (.ptr (some l)) v = some (.ret (.tuple []) h') := by simp only [storeR, hs]
theorem op_nilCheck {x : Operand} : opA call P e h (.nilCheck x) = toRet (withH h (nilCheckA (evalA P e x))) := rfl
theorem op_binOp {o : BinOp} {t yt : TypeId} {x y : Operand} : opA call P e h (.binOp o t x y yt) = toRet (withH h (binA P h o t x y (evalA P e x) (evalA P e y))) := rfl
theorem op_unOp {o : UnOp} {t : TypeId} {x : Operand} : opA call P e h (.unOp o t x) = toRet (withH h (unA o (evalA P e x))) := rfl
theorem op_convert {s d : TypeId} {x : Operand} : opA call P e h (.convert s d x) = toRet (convertA P h s d (evalA P e x)) := rfl
theorem op_makeInterface {t : TypeId} {x : Operand} : opA call P e h (.makeInterface t x) = toRet (withH h (makeInterfaceA P t (evalA P e x))) := rfl
theorem op_makeFunc {fn : Fn} {a b : Array Operand} : opA call P e h (.makeFunc fn a b) = some (.ret (.func fn (evals P e a.toList) (evals P e b.toList)) h) := rfl
theorem op_makeSlice {t : TypeId} {l c : Operand} : opA call P e h (.makeSlice t l c) = toRet (makeSliceA P h t (evalA P e l) (evalA P e c)) := rfl
theorem op_slice {t : TypeId} {x : Operand} {lo hi mx : Option Operand} : opA call P e h (.slice t x lo hi mx) = toRet (withH h (sliceA P t (evalA P e x) (evalO P e lo) (evalO P e hi) (evalO P e mx))) := rfl
theorem op_fieldAddr {s : TypeId} {x : Operand} {f : Nat} : opA call P e h (.fieldAddr s x f) = toRet (withH h (fieldAddrA P s (evalA P e x) f)) := rfl
theorem op_field {s : TypeId} {x : Operand} {f : Nat} : opA call P e h (.field s x f) = toRet (withH h (fieldA P s (evalA P e x) f)) := rfl
theorem op_indexAddr {t : TypeId} {x i : Operand} : opA call P e h (.indexAddr t x i) = toRet (withH h (indexAddrA P t (evalA P e x) (evalA P e i))) := rfl
theorem op_index {t : TypeId} {x i : Operand} : opA call P e h (.index t x i) = toRet (withH h (indexA P t (evalA P e x) (evalA P e i))) := rfl
theorem op_typeAssert {x : Operand} {t a : TypeId} {ok : Bool} : opA call P e h (.typeAssert x t a ok) = toRet (withH h (typeAssertA P (evalA P e x) a ok)) := rfl
theorem op_extract {x : Operand} {i : Nat} : opA call P e h (.extract x i) = toRet (withH h (extractA (evalA P e x) i)) := rfl
theorem op_builtin {b : Builtin} {xs : Array Operand} {ats : Array TypeId} : opA call P e h (.call ⟨.builtin b, xs, ats⟩) = biA P h b ats.toList (evals P e xs.toList) := rfl
theorem bi_len {t : TypeId} {x : AV} : biA P h .len [t] [x] = toRet (withH h (lenA P h t x)) := rfl
theorem bi_append {t u : TypeId} {s x : AV} : biA P h .append [t, u] [s, x] = toRet (appendA P h t u s x) := rfl
theorem bi_copy {t u : TypeId} {d s : AV} : biA P h .copy [t, u] [d, s] = toRet (copyA P h t d s) := rfl
theorem bi_max2 {t u : TypeId} {x y : AV} : biA P h .max [t, u] [x, y] = toRet (withH h (maxA x [y])) := rfl
theorem bi_min2 {t u : TypeId} {x y : AV} : biA P h .min [t, u] [x, y] = toRet (withH h (minA x [y])) := rfl
theorem maxA_two {k k' : IntKind} {x y : Int} : maxA (.int k x) [.int k' y] = some (.int k (if y > x then y else x)) := rfl
theorem minA_two {k k' : IntKind} {x y : Int} : minA (.int k x) [.int k' y] = some (.int k (if y < x then y else x)) := rfl
def valR (call : CallF) (P : Program) (h : Heap) (f : AV) (args : List AV) : Option CRes := match f with | .func (.func g) first captured => callA call P h g ((first ++ args) ++ captured) | _ => none
theorem op_callv {f : Operand} {xs : Array Operand} {ats : Array TypeId} : opA call P e h (.call ⟨.value f, xs, ats⟩) = valR call P h (evalA P e f) (evals P e xs.toList) := by
  simp only [opA, valR]
  cases evalA P e f with
  | func g a b => cases g <;> rfl
  | _ => rfl
theorem valR_func {g : FuncId} {a b args : List AV} : valR call P h (.func (.func g) a b) args = callA call P h g ((a ++ args) ++ b) := rfl
theorem callA_of {f : FuncId} {fn : Func} {c : Code} {args : List AV} (_hf : P.funcs[f]? = some fn) (_hb : fn.body = some c) : callA call P h f args = call f args h := rfl
theorem callA_eq {f : FuncId} {args : List AV} : callA call P h f args = call f args h := rfl
theorem evals_nil : evals P e [] = [] := rfl
theorem evals_cons {x : Operand} {xs : List Operand} : evals P e (x :: xs) = evalA P e x :: evals P e xs := rfl
theorem parts_nil : evalParts P e [] = [] := rfl
theorem parts_cons {i : Nat} {x : Operand} {xs : List (Nat × Operand)} : evalParts P e ((i, x) :: xs) = (i, evalA P e x) :: evalParts P e xs := rfl
theorem evalO_none : evalO P e none = none := rfl
theorem evalO_some {x : Operand} : evalO P e (some x) = some (evalA P e x) := rfl

theorem withH_ret {v : AV} : withH h (some v) = some (v, h) := rfl
theorem toRet_ret {v : AV} {h' : Heap} : toRet (some (v, h')) = some (.ret v h') := rfl
theorem toRet_withH {v : AV} : toRet (withH h (some v)) = some (.ret v h) := rfl

theorem bin_add {t : TypeId} {xo yo : Operand} {k : IntKind} {a b : Int} : binA P h .add t xo yo (.int k a) (.int k b) = some (.int k (k.wrap (a + b))) := by simp [binA, intA]
theorem bin_sub {t : TypeId} {xo yo : Operand} {k : IntKind} {a b : Int} : binA P h .sub t xo yo (.int k a) (.int k b) = some (.int k (k.wrap (a - b))) := by simp [binA, intA]
theorem bin_mul {t : TypeId} {xo yo : Operand} {k : IntKind} {a b : Int} : binA P h .mul t xo yo (.int k a) (.int k b) = some (.int k (k.wrap (a * b))) := by simp [binA, intA]
theorem bin_eql {t : TypeId} {xo yo : Operand} {k : IntKind} {a b : Int} : binA P h .eql t xo yo (.int k a) (.int k b) = some (.bool (a == b)) := by simp [binA, intA]
theorem bin_neq {t : TypeId} {xo yo : Operand} {k : IntKind} {a b : Int} : binA P h .neq t xo yo (.int k a) (.int k b) = some (.bool (a != b)) := by simp [binA, intA]
theorem bin_lss {t : TypeId} {xo yo : Operand} {k : IntKind} {a b : Int} : binA P h .lss t xo yo (.int k a) (.int k b) = some (.bool (decide (a < b))) := by simp [binA, intA]
theorem bin_leq {t : TypeId} {xo yo : Operand} {k : IntKind} {a b : Int} : binA P h .leq t xo yo (.int k a) (.int k b) = some (.bool (decide (a ≤ b))) := by simp [binA, intA]
theorem bin_gtr {t : TypeId} {xo yo : Operand} {k : IntKind} {a b : Int} : binA P h .gtr t xo yo (.int k a) (.int k b) = some (.bool (decide (b < a))) := by simp [binA, intA]
theorem bin_geq {t : TypeId} {xo yo : Operand} {k : IntKind} {a b : Int} : binA P h .geq t xo yo (.int k a) (.int k b) = some (.bool (decide (b ≤ a))) := by simp [binA, intA]
theorem bin_rem {t : TypeId} {xo yo : Operand} {k : IntKind} {a b : Int} (hb : b ≠ 0) : binA P h .rem t xo yo (.int k a) (.int k b) = some (.int k (a.tmod b)) := by simp [binA, intA, hb]
theorem bin_quo {t : TypeId} {xo yo : Operand} {k : IntKind} {a b : Int} (hb : b ≠ 0) : binA P h .quo t xo yo (.int k a) (.int k b) = some (.int k (k.wrap (a.tdiv b))) := by simp [binA, intA, hb]
theorem bin_beq {t : TypeId} {xo yo : Operand} {a b : Bool} (hu : P.underlying t = some .bool) : binA P h .eql t xo yo (.bool a) (.bool b) = some (.bool (a == b)) := by simp [binA, eqA, hu]
theorem bin_bne {t : TypeId} {xo yo : Operand} {a b : Bool} (hu : P.underlying t = some .bool) : binA P h .neq t xo yo (.bool a) (.bool b) = some (.bool (a != b)) := by cases a <;> cases b <;> simp [binA, eqA, hu]
theorem bin_slnil {t el : TypeId} {xo yo : Operand} {l : Option Loc} {n m : Nat} {c d : Cap} (hu : P.underlying t = some (.slice el)) : binA P h .eql t xo yo (.slice l n c) (.slice none m d) = some (.bool l.isNone) := by
  cases l <;> simp [binA, eqA, hu]
theorem bin_slnil' {t el : TypeId} {xo yo : Operand} {l : Option Loc} {n m : Nat} {c d : Cap} (hu : P.underlying t = some (.slice el)) : binA P h .neq t xo yo (.slice l n c) (.slice none m d) = some (.bool (!l.isNone)) := by
  cases l <;> simp [binA, eqA, hu]
theorem bin_ptnil {t el : TypeId} {xo yo : Operand} {l : Option Loc} (hu : P.underlying t = some (.pointer el)) : binA P h .eql t xo yo (.ptr l) (.ptr none) = some (.bool l.isNone) := by
  cases l <;> simp [binA, eqA, hu]
theorem bin_ptnil' {t el : TypeId} {xo yo : Operand} {l : Option Loc} (hu : P.underlying t = some (.pointer el)) : binA P h .neq t xo yo (.ptr l) (.ptr none) = some (.bool (!l.isNone)) := by
  cases l <;> simp [binA, eqA, hu]
theorem un_not {b : Bool} : unA .not (.bool b) = some (.bool !b) := rfl

theorem nilCheck_ptr {l : Loc} : nilCheckA (.ptr (some l)) = some (.ptr (some l)) := rfl
theorem nilCheck_iface {t : TypeId} {v : AV} : nilCheckA (.iface t v) = some (.iface t v) := rfl
theorem nilCheck_func {f : FuncId} {a b : List AV} : nilCheckA (.func (.func f) a b) = some (.func (.func f) a b) := rfl
theorem lenA_slice {t el : TypeId} {l : Option Loc} {n : Nat} {c : Cap} (hu : P.underlying t = some (.slice el)) : lenA P h t (.slice l n c) = some (.int .i64 n) := by simp [lenA, hu]
theorem lenA_str {t : TypeId} {s : List UInt8} (hu : P.underlying t = some .string) : lenA P h t (.str s) = some (.int .i64 s.length) := by simp [lenA, hu]

theorem field_at {s ft : TypeId} {f : Nat} {l : Loc} {n : Nat} {fs : Array Field} {fl : Field} (hu : P.underlying s = some (.struct fs)) (hf : fs[f]? = some fl) (ht : fl.type = ft) (hs : sizeA P ft = some (n + 1)) : fieldAddrA P s (.ptr (some l)) f = some (.ptr (some ⟨l.id, l.off + fl.offset⟩)) := by
  subst ht
  simp [fieldAddrA, hu, hf, hs]
theorem index_at {t el : TypeId} {l : Loc} {n s : Nat} {c : Cap} {k : IntKind} {i : Nat} (hu : P.underlying t = some (.slice el)) (hs : sizeA P el = some s) (hi : i < n) : indexAddrA P t (.slice (some l) n c) (.int k (i : Int)) = some (.ptr (some ⟨l.id, l.off + i * s⟩)) := by
  have : (0 : Int) ≤ i ∧ (i : Int) < n := by omega
  simp only [indexAddrA, hu, hs, if_pos this, Int.toNat_natCast]
theorem load_cell {t : TypeId} {i o : Nat} {cs : List AV} {k : Kind} {v : AV} (ha : aggA P t = some false) (hg : h.get i = some (.cells cs k)) (hv : cs[o]? = some v) : loadA P h t ⟨i, o⟩ = some v := by
  have hlt := (List.getElem?_eq_some_iff.1 hv).1
  have hv2 := (List.getElem?_eq_some_iff.1 hv).2
  simp only [loadA, ha, readA, hg]
  rw [(ble_iff _ _).2 (by omega)]
  simp only [cond_true]
  rw [List.drop_eq_getElem_cons hlt, List.take_succ_cons, hv2]
  simp
theorem load_agg {t : TypeId} {i o n : Nat} {cs : List AV} {k : Kind} (ha : aggA P t = some true) (hs : sizeA P t = some n) (hg : h.get i = some (.cells cs k)) (hle : o + n ≤ cs.length) : loadA P h t ⟨i, o⟩ = some (.agg ((cs.drop o).take n)) := by
  simp only [loadA, ha, hs, readA, hg]
  rw [(ble_iff _ _).2 hle]
  rfl
theorem store_cell {t : TypeId} {i o : Nat} {cs : List AV} {k : Kind} {v : AV} (hs : sizeA P t = some 1) (hc : cellsA v = some [v]) (hok : cellOk v = true) (hg : h.get i = some (.cells cs k)) (hk : k ≠ .ro) (ho : o < cs.length) : storeA P h t ⟨i, o⟩ v = some (h.set i (.cells (cs.set o v) k)) := by
  have hov : over cs o [v] = cs.set o v := by
    rw [over_cons _ _ _ _ (by simp; omega), over_nil]
  have hb : (cellsOk [v] && Nat.ble (o + 1) cs.length) = true := by
    rw [Bool.and_eq_true, ble_iff]
    exact ⟨by simp [cellsOk, hok], by omega⟩
  simp only [storeA, hs, hc, List.length_singleton, Trie.beq1, decide_true, cond_true, writeA, hg]
  cases k with
  | ro => exact absurd rfl hk
  | own => simp only [hb, cond_true, hov]
  | str => simp only [hb, cond_true, hov]

theorem wrap_small {x : Int} (h1 : -9223372036854775808 ≤ x) (h2 : x ≤ 9223372036854775807) : IntKind.wrap .i64 x = x := by
  rw [IntKind.wrap_i64]; omega
end
end Go.Am
