/- Parts of the proof by the abstract machine: Sim, Wp, NatA, DeferA, Dyn, Draw4. -/
import Derived.Test.YtnllflgijnloiaaAmGRDBack8
import Derived.Laws.LoneSync
namespace Go.Am
open Go.RowKit

section
variable {call : CallF} {P : Program} {ops : Array Oper} {dst : Option Tmp} {op : Op} {ty : TypeId} {pos : String} {after : Array Edge} {rest : List Oper} {e : List AV} {h : Heap}

theorem sim_nil : opsA call P ops [] e h = some (.normal, e, h) := rfl
/-- One operation's answer, handed on. -/
def stepR (call : CallF) (P : Program) (ops : Array Oper) (rest : List Oper) (dst : Option Tmp) (e : List AV) : Option CRes → Option (Out × List AV × Heap)
  | some (.ret v h') => opsA call P ops rest (putA e dst v) h'
  | some (.pan v h') => some (.pan v, e, h')
  | none => none
theorem sim_cons : opsA call P ops (⟨dst, op, ty, pos, after, none⟩ :: rest) e h = stepR call P ops rest dst e (opA call P e h op) := by
  simp only [opsA, wantedA]
  cases opA call P e h op with
  | none => rfl
  | some r => cases r <;> rfl
theorem stepR_ret {v : AV} {h' : Heap} {d : Tmp} : stepR call P ops rest (some d) e (some (.ret v h')) = opsA call P ops rest (e.set d v) h' := rfl
theorem stepR_none {v : AV} {h' : Heap} : stepR call P ops rest none e (some (.ret v h')) = opsA call P ops rest e h' := rfl
/-- A guarded operation: is it wanted? -/
def guardA (ops : Array Oper) (e : List AV) (j : Nat) (b : Bool) : Option Bool :=
  match (ops[j]?).bind (·.dst) with
  | none => some false
  | some d =>
    match nth e d with
    | .bool c => some (c == b)
    | .unk => none
    | _ => some false
def gstep (call : CallF) (P : Program) (ops : Array Oper) (rest : List Oper) (dst : Option Tmp) (op : Op) (e : List AV) (h : Heap) : Option Bool → Option (Out × List AV × Heap)
  | some true => stepR call P ops rest dst e (opA call P e h op)
  | some false => opsA call P ops rest (putA e dst (.tuple [])) h
  | none => none
theorem sim_guard {j : Nat} {b : Bool} : opsA call P ops (⟨dst, op, ty, pos, after, some (j, b)⟩ :: rest) e h = gstep call P ops rest dst op e h (guardA ops e j b) := by
  have hw : wantedA ops e ⟨dst, op, ty, pos, after, some (j, b)⟩ = guardA ops e j b := rfl
  simp only [opsA, hw]
  cases guardA ops e j b with
  | none => rfl
  | some t =>
    cases t with
    | false => rfl
    | true =>
      simp only [gstep]
      cases opA call P e h op with
      | none => rfl
      | some r => cases r <;> rfl
theorem gstep_true : gstep call P ops rest dst op e h (some true) = stepR call P ops rest dst e (opA call P e h op) := rfl
theorem gstep_false {d : Tmp} : gstep call P ops rest (some d) op e h (some false) = opsA call P ops rest (e.set d (.tuple [])) h := rfl
theorem guardA_at {j : Nat} {b c : Bool} {d : Tmp} (h1 : (ops[j]?).bind (·.dst) = some d) (h2 : nth e d = .bool c) : guardA ops e j b = some (c == b) := by
  simp only [guardA, h1, h2]

theorem nth_zero {x : AV} {xs : List AV} : nth (x :: xs) 0 = x := rfl
theorem nth_succ {x : AV} {xs : List AV} {n : Nat} : nth (x :: xs) (n + 1) = nth xs n := rfl
theorem ev_tmp {t : Tmp} : evalA P e (.tmp t) = nth e t := rfl
theorem ev_func {f : FuncId} : evalA P e (.func f) = .func (.func f) [] [] := rfl
theorem ev_int {k : IntKind} {n : Int} : evalA P e (.const (.int k n)) = .int k n := rfl
theorem ev_bool {b : Bool} : evalA P e (.const (.bool b)) = .bool b := rfl
theorem ev_nilptr : evalA P e (.const (.pointer none)) = .ptr none := rfl
theorem ev_nilslice : evalA P e (.const (.slice none 0 0)) = .slice none 0 (.exact 0) := rfl
theorem ev_nilIface : evalA P e (.const .nilIface) = .nilIface := rfl
theorem ev_nilFunc : evalA P e (.const .nilFunc) = .nilFunc := rfl
theorem ev_nilmap : evalA P e (.const (.map none)) = .map none := rfl

theorem op_move {x : Operand} : opA call P e h (.move x) = some (.ret (evalA P e x) h) := rfl
theorem op_assign {x : Operand} : opA call P e h (.assign x) = some (.ret (evalA P e x) h) := rfl
def pickA (c : AV) (a b : AV) (h : Heap) : Option CRes := match c with | .bool t => some (.ret (bif t then a else b) h) | _ => none
theorem op_pick {c a b : Operand} : opA call P e h (.pick c a b) = pickA (evalA P e c) (evalA P e a) (evalA P e b) h := by
  simp only [opA, aop]
  cases evalA P e c <;> rfl
theorem pickA_bool {t : Bool} {a b : AV} : pickA (.bool t) a b h = some (.ret (bif t then a else b) h) := rfl
theorem op_alloc {t : TypeId} : opA call P e h (.alloc t) = toRet (allocA P h t) := rfl
theorem op_box {t : TypeId} {x : Operand} : opA call P e h (.box t x) = toRet (boxA h (evalA P e x)) := rfl
theorem op_build {t : TypeId} {ps : Array (Nat × Operand)} : opA call P e h (.build t ps) = toRet (withH h (buildA P t (evalParts P e ps.toList))) := rfl
theorem op_buildSlice {t : TypeId} {n : Nat} {ps : Array (Nat × Operand)} : opA call P e h (.buildSlice t n ps) = toRet (buildSliceA P h t n (evalParts P e ps.toList)) := rfl
def loadR (P : Program) (h : Heap) (t : TypeId) (x : AV) : Option CRes := match x with | .ptr (some l) => toRet (withH h (loadA P h t l)) | _ => none
theorem op_load {t : TypeId} {a : Operand} : opA call P e h (.load t a) = loadR P h t (evalA P e a) := by
  simp only [opA, aop, loadR]
  split <;> simp_all [toRet]
theorem loadR_ptr {t : TypeId} {l : Loc} : loadR P h t (.ptr (some l)) = toRet (withH h (loadA P h t l)) := rfl
def storeR (P : Program) (h : Heap) (t : TypeId) (x v : AV) : Option CRes := match x with | .ptr (some l) => (match storeA P h t l v with | some h' => some (.ret (.tuple []) h') | none => none) | _ => none
theorem op_store {t : TypeId} {a x : Operand} : opA call P e h (.store t a x) = storeR P h t (evalA P e a) (evalA P e x) := by
  simp only [opA, aop, storeR]
  cases evalA P e a with
  | ptr l =>
    cases l with
    | none => rfl
    | some l =>
      simp only []
      cases storeA P h t l (evalA P e x) <;> rfl
  | _ => rfl
theorem storeR_ptr {t : TypeId} {l : Loc} {v : AV} {h' : Heap} (hs : storeA P h t l v = some h') : storeR P h t (.ptr (some l)) v = some (.ret (.tuple []) h') := by simp only [storeR, hs]
theorem op_nilCheck {x : Operand} : opA call P e h (.nilCheck x) = toRet (withH h (nilCheckA (evalA P e x))) := rfl
theorem op_binOp {o : BinOp} {t yt : TypeId} {x y : Operand} : opA call P e h (.binOp o t x y yt) = toRet (withH h (binA P h o t x y (evalA P e x) (evalA P e y))) := rfl
theorem op_unOp {o : UnOp} {t : TypeId} {x : Operand} : opA call P e h (.unOp o t x) = toRet (withH h (unA o (evalA P e x))) := rfl
theorem op_convert {s d : TypeId} {x : Operand} : opA call P e h (.convert s d x) = toRet (convertA P h s d (evalA P e x)) := rfl
theorem op_makeInterface {t : TypeId} {x : Operand} : opA call P e h (.makeInterface t x) = toRet (withH h (makeInterfaceA P t (evalA P e x))) := rfl
theorem op_makeFunc {fn : Fn} {a b : Array Operand} : opA call P e h (.makeFunc fn a b) = some (.ret (.func fn (evals P e a.toList) (evals P e b.toList)) h) := rfl
theorem op_makeSlice {t : TypeId} {l c : Operand} : opA call P e h (.makeSlice t l c) = toRet (makeSliceA P h t (evalA P e l) (evalA P e c)) := rfl
theorem op_slice {t : TypeId} {x : Operand} {lo hi mx : Option Operand} : opA call P e h (.slice t x lo hi mx) = toRet (withH h (sliceA P t (evalA P e x) (evalO P e lo) (evalO P e hi) (evalO P e mx))) := rfl
theorem op_fieldAddr {s : TypeId} {x : Operand} {f : Nat} : opA call P e h (.fieldAddr s x f) = toRet (withH h (fieldAddrA P s (evalA P e x) f)) := rfl
theorem op_field {s : TypeId} {x : Operand} {f : Nat} : opA call P e h (.field s x f) = toRet (withH h (fieldA P s (evalA P e x) f)) := rfl
theorem op_indexAddr {t : TypeId} {x i : Operand} : opA call P e h (.indexAddr t x i) = toRet (withH h (indexAddrA P t (evalA P e x) (evalA P e i))) := rfl
theorem op_index {t : TypeId} {x i : Operand} : opA call P e h (.index t x i) = toRet (withH h (indexA P t (evalA P e x) (evalA P e i))) := rfl
theorem op_typeAssert {x : Operand} {t a : TypeId} {ok : Bool} : opA call P e h (.typeAssert x t a ok) = toRet (withH h (typeAssertA P (evalA P e x) a ok)) := rfl
theorem op_extract {x : Operand} {i : Nat} : opA call P e h (.extract x i) = toRet (withH h (extractA (evalA P e x) i)) := rfl
theorem op_builtin {b : Builtin} {xs : Array Operand} {ats : Array TypeId} : opA call P e h (.call ⟨.builtin b, xs, ats⟩) = biA P h b ats.toList (evals P e xs.toList) := rfl
theorem bi_len {t : TypeId} {x : AV} : biA P h .len [t] [x] = toRet (withH h (lenA P h t x)) := rfl
theorem bi_append {t u : TypeId} {s x : AV} : biA P h .append [t, u] [s, x] = toRet (appendA P h t u s x) := rfl
theorem bi_copy {t u : TypeId} {d s : AV} : biA P h .copy [t, u] [d, s] = toRet (copyA P h t d s) := rfl
theorem bi_max2 {t u : TypeId} {x y : AV} : biA P h .max [t, u] [x, y] = toRet (withH h (maxA x [y])) := rfl
theorem bi_min2 {t u : TypeId} {x y : AV} : biA P h .min [t, u] [x, y] = toRet (withH h (minA x [y])) := rfl
theorem maxA_two {k k' : IntKind} {x y : Int} : maxA (.int k x) [.int k' y] = some (.int k (if y > x then y else x)) := rfl
theorem minA_two {k k' : IntKind} {x y : Int} : minA (.int k x) [.int k' y] = some (.int k (if y < x then y else x)) := rfl
def valR (call : CallF) (P : Program) (h : Heap) (f : AV) (args : List AV) : Option CRes := match f with | .func (.func g) first captured => callA call P h g ((first ++ args) ++ captured) | _ => none
theorem op_callv {f : Operand} {xs : Array Operand} {ats : Array TypeId} : opA call P e h (.call ⟨.value f, xs, ats⟩) = valR call P h (evalA P e f) (evals P e xs.toList) := by
  simp only [opA, valR]
  cases evalA P e f with
  | func g a b => cases g <;> rfl
  | _ => rfl
theorem valR_func {g : FuncId} {a b args : List AV} : valR call P h (.func (.func g) a b) args = callA call P h g ((a ++ args) ++ b) := rfl
theorem callA_of {f : FuncId} {fn : Func} {c : Code} {args : List AV} (_hf : P.funcs[f]? = some fn) (_hb : fn.body = some c) : callA call P h f args = call f args h := rfl
theorem callA_eq {f : FuncId} {args : List AV} : callA call P h f args = call f args h := rfl
theorem evals_nil : evals P e [] = [] := rfl
theorem evals_cons {x : Operand} {xs : List Operand} : evals P e (x :: xs) = evalA P e x :: evals P e xs := rfl
theorem parts_nil : evalParts P e [] = [] := rfl
theorem parts_cons {i : Nat} {x : Operand} {xs : List (Nat × Operand)} : evalParts P e ((i, x) :: xs) = (i, evalA P e x) :: evalParts P e xs := rfl
theorem evalO_none : evalO P e none = none := rfl
theorem evalO_some {x : Operand} : evalO P e (some x) = some (evalA P e x) := rfl

theorem withH_ret {v : AV} : withH h (some v) = some (v, h) := rfl
theorem toRet_ret {v : AV} {h' : Heap} : toRet (some (v, h')) = some (.ret v h') := rfl
theorem toRet_withH {v : AV} : toRet (withH h (some v)) = some (.ret v h) := rfl

theorem bin_add {t : TypeId} {xo yo : Operand} {k : IntKind} {a b : Int} : binA P h .add t xo yo (.int k a) (.int k b) = some (.int k (k.wrap (a + b))) := by simp [binA, intA]
theorem bin_sub {t : TypeId} {xo yo : Operand} {k : IntKind} {a b : Int} : binA P h .sub t xo yo (.int k a) (.int k b) = some (.int k (k.wrap (a - b))) := by simp [binA, intA]
theorem bin_mul {t : TypeId} {xo yo : Operand} {k : IntKind} {a b : Int} : binA P h .mul t xo yo (.int k a) (.int k b) = some (.int k (k.wrap (a * b))) := by simp [binA, intA]
theorem bin_eql {t : TypeId} {xo yo : Operand} {k : IntKind} {a b : Int} : binA P h .eql t xo yo (.int k a) (.int k b) = some (.bool (a == b)) := by simp [binA, intA]
theorem bin_neq {t : TypeId} {xo yo : Operand} {k : IntKind} {a b : Int} : binA P h .neq t xo yo (.int k a) (.int k b) = some (.bool (a != b)) := by simp [binA, intA]
theorem bin_lss {t : TypeId} {xo yo : Operand} {k : IntKind} {a b : Int} : binA P h .lss t xo yo (.int k a) (.int k b) = some (.bool (decide (a < b))) := by simp [binA, intA]
theorem bin_leq {t : TypeId} {xo yo : Operand} {k : IntKind} {a b : Int} : binA P h .leq t xo yo (.int k a) (.int k b) = some (.bool (decide (a ≤ b))) := by simp [binA, intA]
theorem bin_gtr {t : TypeId} {xo yo : Operand} {k : IntKind} {a b : Int} : binA P h .gtr t xo yo (.int k a) (.int k b) = some (.bool (decide (b < a))) := by simp [binA, intA]
theorem bin_geq {t : TypeId} {xo yo : Operand} {k : IntKind} {a b : Int} : binA P h .geq t xo yo (.int k a) (.int k b) = some (.bool (decide (b ≤ a))) := by simp [binA, intA]
theorem bin_rem {t : TypeId} {xo yo : Operand} {k : IntKind} {a b : Int} (hb : b ≠ 0) : binA P h .rem t xo yo (.int k a) (.int k b) = some (.int k (a.tmod b)) := by simp [binA, intA, hb]
theorem bin_quo {t : TypeId} {xo yo : Operand} {k : IntKind} {a b : Int} (hb : b ≠ 0) : binA P h .quo t xo yo (.int k a) (.int k b) = some (.int k (k.wrap (a.tdiv b))) := by simp [binA, intA, hb]
theorem bin_beq {t : TypeId} {xo yo : Operand} {a b : Bool} (hu : P.underlying t = some .bool) : binA P h .eql t xo yo (.bool a) (.bool b) = some (.bool (a == b)) := by simp [binA, eqA, hu]
theorem bin_bne {t : TypeId} {xo yo : Operand} {a b : Bool} (hu : P.underlying t = some .bool) : binA P h .neq t xo yo (.bool a) (.bool b) = some (.bool (a != b)) := by cases a <;> cases b <;> simp [binA, eqA, hu]
theorem bin_slnil {t el : TypeId} {xo yo : Operand} {l : Option Loc} {n m : Nat} {c d : Cap} (hu : P.underlying t = some (.slice el)) : binA P h .eql t xo yo (.slice l n c) (.slice none m d) = some (.bool l.isNone) := by
  cases l <;> simp [binA, eqA, hu]
theorem bin_slnil' {t el : TypeId} {xo yo : Operand} {l : Option Loc} {n m : Nat} {c d : Cap} (hu : P.underlying t = some (.slice el)) : binA P h .neq t xo yo (.slice l n c) (.slice none m d) = some (.bool (!l.isNone)) := by
  cases l <;> simp [binA, eqA, hu]
theorem bin_ptnil {t el : TypeId} {xo yo : Operand} {l : Option Loc} (hu : P.underlying t = some (.pointer el)) : binA P h .eql t xo yo (.ptr l) (.ptr none) = some (.bool l.isNone) := by
  cases l <;> simp [binA, eqA, hu]
theorem bin_ptnil' {t el : TypeId} {xo yo : Operand} {l : Option Loc} (hu : P.underlying t = some (.pointer el)) : binA P h .neq t xo yo (.ptr l) (.ptr none) = some (.bool (!l.isNone)) := by
  cases l <;> simp [binA, eqA, hu]
theorem un_not {b : Bool} : unA .not (.bool b) = some (.bool !b) := rfl

theorem nilCheck_ptr {l : Loc} : nilCheckA (.ptr (some l)) = some (.ptr (some l)) := rfl
theorem nilCheck_iface {t : TypeId} {v : AV} : nilCheckA (.iface t v) = some (.iface t v) := rfl
theorem nilCheck_func {f : FuncId} {a b : List AV} : nilCheckA (.func (.func f) a b) = some (.func (.func f) a b) := rfl
theorem lenA_slice {t el : TypeId} {l : Option Loc} {n : Nat} {c : Cap} (hu : P.underlying t = some (.slice el)) : lenA P h t (.slice l n c) = some (.int .i64 n) := by simp [lenA, hu]
theorem lenA_str {t : TypeId} {s : List UInt8} (hu : P.underlying t = some .string) : lenA P h t (.str s) = some (.int .i64 s.length) := by simp [lenA, hu]

theorem field_at {s ft : TypeId} {f : Nat} {l : Loc} {n : Nat} {fs : Array Field} {fl : Field} (hu : P.underlying s = some (.struct fs)) (hf : fs[f]? = some fl) (ht : fl.type = ft) (hs : sizeA P ft = some (n + 1)) : fieldAddrA P s (.ptr (some l)) f = some (.ptr (some ⟨l.id, l.off + fl.offset⟩)) := by
  subst ht
  simp [fieldAddrA, hu, hf, hs]
theorem index_at {t el : TypeId} {l : Loc} {n s : Nat} {c : Cap} {k : IntKind} {i : Nat} (hu : P.underlying t = some (.slice el)) (hs : sizeA P el = some s) (hi : i < n) : indexAddrA P t (.slice (some l) n c) (.int k (i : Int)) = some (.ptr (some ⟨l.id, l.off + i * s⟩)) := by
  have : (0 : Int) ≤ i ∧ (i : Int) < n := by omega
  simp only [indexAddrA, hu, hs, if_pos this, Int.toNat_natCast]
theorem load_cell {t : TypeId} {i o : Nat} {cs : List AV} {k : Kind} {v : AV} (ha : aggA P t = some false) (hg : h.get i = some (.cells cs k)) (hv : cs[o]? = some v) : loadA P h t ⟨i, o⟩ = some v := by
  have hlt := (List.getElem?_eq_some_iff.1 hv).1
  have hv2 := (List.getElem?_eq_some_iff.1 hv).2
  simp only [loadA, ha, readA, hg]
  rw [(ble_iff _ _).2 (by omega)]
  simp only [cond_true]
  rw [List.drop_eq_getElem_cons hlt, List.take_succ_cons, hv2]
  simp
theorem load_agg {t : TypeId} {i o n : Nat} {cs : List AV} {k : Kind} (ha : aggA P t = some true) (hs : sizeA P t = some n) (hg : h.get i = some (.cells cs k)) (hle : o + n ≤ cs.length) : loadA P h t ⟨i, o⟩ = some (.agg ((cs.drop o).take n)) := by
  simp only [loadA, ha, hs, readA, hg]
  rw [(ble_iff _ _).2 hle]
  rfl
theorem store_cell {t : TypeId} {i o : Nat} {cs : List AV} {k : Kind} {v : AV} (hs : sizeA P t = some 1) (hc : cellsA v = some [v]) (hok : cellOk v = true) (hg : h.get i = some (.cells cs k)) (hk : k ≠ .ro) (ho : o < cs.length) : storeA P h t ⟨i, o⟩ v = some (h.set i (.cells (cs.set o v) k)) := by
  have hov : over cs o [v] = cs.set o v := by
    rw [over_cons _ _ _ _ (by simp; omega), over_nil]
  have hb : (cellsOk [v] && Nat.ble (o + 1) cs.length) = true := by
    rw [Bool.and_eq_true, ble_iff]
    exact ⟨by simp [cellsOk, hok], by omega⟩
  simp only [storeA, hs, hc, List.length_singleton, Trie.beq1, decide_true, cond_true, writeA, hg]
  cases k with
  | ro => exact absurd rfl hk
  | own => simp only [hb, cond_true, hov]
  | str => simp only [hb, cond_true, hov]

theorem wrap_small {x : Int} (h1 : -9223372036854775808 ≤ x) (h2 : x ≤ 9223372036854775807) : IntKind.wrap .i64 x = x := by
  rw [IntKind.wrap_i64]; omega
end
end Go.Am

namespace Go.Am
open Go.RowKit

section
variable {ov : CallF} {P : Program}

abbrev Post := Out → List AV → Heap → Prop

def WP (ov : CallF) (P : Program) (c : Code) (e : List AV) (h : Heap) (K : Post) : Prop := ∃ o e' h', Runs ov P c e h (o, e', h') ∧ K o e' h'

/-- A region's outcome. -/
def W (K : Post) : Option (Out × List AV × Heap) → Prop
  | some (o, e, h) => K o e h
  | none => False
theorem W_none {K : Post} : W K none = False := rfl
theorem W_some {K : Post} {o : Out} {e : List AV} {h : Heap} : W K (some (o, e, h)) = K o e h := rfl

def seqK (ov : CallF) (P : Program) (b : Code) (K : Post) : Post
  | .normal, e, h => WP ov P b e h K
  | o, e, h => K o e h
def blockK (id : Nat) (K : Post) : Post
  | .exit i, e, h => bif Nat.beq i id then K .normal e h else K (.exit i) e h
  | o, e, h => K o e h
/-- What a loop's round may come to: out, or once more. -/
def loopK (I : List AV → Heap → Prop) (K : Post) : Post
  | .normal, e, h => I e h
  | o, e, h => K o e h

theorem WP.mono {c : Code} {e : List AV} {h : Heap} {K K' : Post} (hw : WP ov P c e h K) (hk : ∀ o e h, K o e h → K' o e h) : WP ov P c e h K' := by
  obtain ⟨o, e', h', h1, h2⟩ := hw
  exact ⟨o, e', h', h1, hk _ _ _ h2⟩
theorem WP.skip {e : List AV} {h : Heap} {K : Post} (hk : K .normal e h) : WP ov P .skip e h K := ⟨_, _, _, Runs.skip, hk⟩
theorem WP.label {l : Nat} {e : List AV} {h : Heap} {K : Post} (hk : K .normal e h) : WP ov P (.label l) e h K := ⟨_, _, _, Runs.label, hk⟩
theorem WP.exit {l : Nat} {e : List AV} {h : Heap} {K : Post} (hk : K (.exit l) e h) : WP ov P (.exit l) e h K := ⟨_, _, _, Runs.exit, hk⟩
theorem WP.ret {e : List AV} {h : Heap} {K : Post} (hk : K .ret e h) : WP ov P .ret e h K := ⟨_, _, _, Runs.ret, hk⟩
theorem WP.region {id : Nat} {ops : Array Oper} {e : List AV} {h : Heap} {K : Post} (hw : W K (opsA (callT ov P) P ops ops.toList e h)) : WP ov P (.region id ops false) e h K := by
  generalize hr : opsA (callT ov P) P ops ops.toList e h = r at hw
  match r, hw with
  | some (o, e', h'), hw => exact ⟨o, e', h', Runs.region hr, hw⟩
theorem WP.seq {a b : Code} {e : List AV} {h : Heap} {K : Post} (hw : WP ov P a e h (seqK ov P b K)) : WP ov P (.seq a b) e h K := by
  obtain ⟨o, e', h', h1, h2⟩ := hw
  cases o with
  | normal =>
    obtain ⟨o2, e2, h2', h3, h4⟩ := h2
    exact ⟨o2, e2, h2', Runs.seq h1 h3, h4⟩
  | exit i => exact ⟨_, _, _, Runs.seq_out h1 (by simp), h2⟩
  | ret => exact ⟨_, _, _, Runs.seq_out h1 (by simp), h2⟩
  | pan v => exact ⟨_, _, _, Runs.seq_out h1 (by simp), h2⟩
theorem WP.cond {c : Operand} {a b : Code} {e : List AV} {h : Heap} {K : Post} {t : Bool} (hc : evalA P e c = .bool t) (h1 : t = true → WP ov P a e h K) (h2 : t = false → WP ov P b e h K) : WP ov P (.cond c a b) e h K := by
  cases t with
  | true => obtain ⟨o, e', h', h3, h4⟩ := h1 rfl; exact ⟨o, e', h', Runs.cond_true hc h3, h4⟩
  | false => obtain ⟨o, e', h', h3, h4⟩ := h2 rfl; exact ⟨o, e', h', Runs.cond_false hc h3, h4⟩
theorem WP.block {id : Nat} {b : Code} {e : List AV} {h : Heap} {K : Post} (hw : WP ov P b e h (blockK id K)) : WP ov P (.block id b) e h K := by
  obtain ⟨o, e', h', h1, h2⟩ := hw
  cases o with
  | exit i =>
    by_cases hi : i = id
    · subst hi
      simp only [blockK, Trie.beq1, decide_true, _root_.cond_true] at h2
      exact ⟨_, _, _, Runs.block_exit h1, h2⟩
    · simp only [blockK, Trie.beq1, hi, decide_false, _root_.cond_false] at h2
      exact ⟨_, _, _, Runs.block h1 (by simpa using hi), h2⟩
  | normal => exact ⟨_, _, _, Runs.block h1 (by simp), h2⟩
  | ret => exact ⟨_, _, _, Runs.block h1 (by simp), h2⟩
  | pan v => exact ⟨_, _, _, Runs.block h1 (by simp), h2⟩
/-- A loop by an invariant that counts down. -/
theorem WP.loop {b : Code} {K : Post} (I : Nat → List AV → Heap → Prop) (step : ∀ n e h, I n e h → WP ov P b e h (loopK (fun e h => ∃ m, m < n ∧ I m e h) K)) : ∀ (n : Nat) (e : List AV) (h : Heap), I n e h → WP ov P (.loop b) e h K := by
  intro n
  induction n using Nat.strongRecOn with
  | ind n ih =>
    intro e h hI
    obtain ⟨o, e', h', h1, h2⟩ := step n e h hI
    cases o with
    | normal =>
      obtain ⟨m, hm, hI'⟩ := h2
      obtain ⟨o2, e2, h2', h3, h4⟩ := ih m hm e' h' hI'
      exact ⟨o2, e2, h2', Runs.loop h1 h3, h4⟩
    | exit i => exact ⟨_, _, _, Runs.loop_out h1 (by simp), h2⟩
    | ret => exact ⟨_, _, _, Runs.loop_out h1 (by simp), h2⟩
    | pan v => exact ⟨_, _, _, Runs.loop_out h1 (by simp), h2⟩

theorem seqK_normal {b : Code} {K : Post} {e : List AV} {h : Heap} : seqK ov P b K .normal e h = WP ov P b e h K := rfl
theorem seqK_exit {b : Code} {K : Post} {e : List AV} {h : Heap} {i : Nat} : seqK ov P b K (.exit i) e h = K (.exit i) e h := rfl
theorem seqK_ret {b : Code} {K : Post} {e : List AV} {h : Heap} : seqK ov P b K .ret e h = K .ret e h := rfl
theorem blockK_same {id : Nat} {K : Post} {e : List AV} {h : Heap} : blockK id K (.exit id) e h = K .normal e h := by
  simp only [blockK, Trie.beq1, decide_true, _root_.cond_true]
theorem blockK_ne {id i : Nat} (hn : i ≠ id) {K : Post} {e : List AV} {h : Heap} : blockK id K (.exit i) e h = K (.exit i) e h := by
  simp only [blockK, Trie.beq1, hn, decide_false, _root_.cond_false]
theorem blockK_normal {id : Nat} {K : Post} {e : List AV} {h : Heap} : blockK id K .normal e h = K .normal e h := rfl
theorem blockK_ret {id : Nat} {K : Post} {e : List AV} {h : Heap} : blockK id K .ret e h = K .ret e h := rfl
theorem loopK_normal {I : List AV → Heap → Prop} {K : Post} {e : List AV} {h : Heap} : loopK I K .normal e h = I e h := rfl
theorem loopK_exit {I : List AV → Heap → Prop} {K : Post} {e : List AV} {h : Heap} {i : Nat} : loopK I K (.exit i) e h = K (.exit i) e h := rfl
theorem loopK_ret {I : List AV → Heap → Prop} {K : Post} {e : List AV} {h : Heap} : loopK I K .ret e h = K .ret e h := rfl

@[congr] theorem W_congr {K : Post} {x y : Option (Out × List AV × Heap)} (h : x = y) : W K x = W K y := by rw [h]
@[congr] theorem WP_congr {c : Code} {K : Post} {e e' : List AV} {h h' : Heap} (he : e = e') (hh : h = h') : WP ov P c e h K = WP ov P c e' h' K := by rw [he, hh]
@[congr] theorem seqK_congr {b : Code} {K : Post} {o o' : Out} {e e' : List AV} {h h' : Heap} (ho : o = o') (he : e = e') (hh : h = h') : seqK ov P b K o e h = seqK ov P b K o' e' h' := by rw [ho, he, hh]
@[congr] theorem blockK_congr {id : Nat} {K : Post} {o o' : Out} {e e' : List AV} {h h' : Heap} (ho : o = o') (he : e = e') (hh : h = h') : blockK id K o e h = blockK id K o' e' h' := by rw [ho, he, hh]
@[congr] theorem loopK_congr {I : List AV → Heap → Prop} {K : Post} {o o' : Out} {e e' : List AV} {h h' : Heap} (ho : o = o') (he : e = e') (hh : h = h') : loopK I K o e h = loopK I K o' e' h' := by rw [ho, he, hh]

/-- A region that draws its order and needs no look at what it does. -/
theorem WP.draw {id : Nat} {ops : Array Oper} {e : List AV} {h : Heap} {K : Post} (hs : drawStatic P ops (masks ops.toList []) = true) (hn : needNot P (masks ops.toList []) (louds P ops.toList 0) ops.toList 0 = true)
    (hw : W (fun o e h => o = .normal ∧ K .normal e h) (opsA (callT ov P) P ops ops.toList e h)) : WP ov P (.region id ops true) e h K := by
  generalize hr : opsA (callT ov P) P ops ops.toList e h = r at hw
  match r, hw with
  | some (o, e', h'), hw =>
    obtain ⟨rfl, hk⟩ := hw
    refine ⟨.normal, e', h', Runs.draw ?_, hk⟩
    simp only [drawA, hs, cond_true, hr, hn, Bool.true_or]
theorem WP.drawDyn {id : Nat} {ops : Array Oper} {e : List AV} {h : Heap} {K : Post} (hs : drawStatic P ops (masks ops.toList []) = true) (hn : dynOk (callT ov P) P ops e h = true)
    (hw : W (fun o e h => o = .normal ∧ K .normal e h) (opsA (callT ov P) P ops ops.toList e h)) : WP ov P (.region id ops true) e h K := by
  generalize hr : opsA (callT ov P) P ops ops.toList e h = r at hw
  match r, hw with
  | some (o, e', h'), hw =>
    obtain ⟨rfl, hk⟩ := hw
    refine ⟨.normal, e', h', Runs.draw ?_, hk⟩
    simp only [drawA, hs, cond_true, hr, hn, Bool.or_true]

/-- A function's call. -/
theorem callT_wp {f : FuncId} {fn : Func} {c : Code} {a : List AV} {h : Heap} {Q : AV → Heap → Prop} (hov : ov f a h = none) (hf : P.funcs[f]? = some fn) (hb : fn.body = some c)
    (hw : WP ov P c (frameA fn a) h (fun o e h' => (o = .normal ∨ o = .ret) ∧ ∃ vs, resultsA P e h' fn.results.toList = some vs ∧ Q (single vs) h')) : ∃ v h', callT ov P f a h = some (.ret v h') ∧ Q v h' := by
  obtain ⟨o, e, h', h1, ho, vs, hv, hq⟩ := hw
  exact ⟨_, _, callT_ret hov hf hb h1 ho hv, hq⟩

/-! ### Frames by what they hold -/

theorem nth_set_eq : ∀ {e : List AV} {i : Nat} {v : AV}, i < e.length → nth (e.set i v) i = v
  | _ :: _, 0, _, _ => rfl
  | _ :: e, i + 1, v, h => by simp only [List.set_cons_succ, nth]; exact nth_set_eq (by simpa using h)
theorem nth_set_ne : ∀ {e : List AV} {i j : Nat} {v : AV}, i ≠ j → nth (e.set i v) j = nth e j
  | [], _, _, _, _ => rfl
  | _ :: _, 0, 0, _, h => absurd rfl h
  | _ :: _, 0, _ + 1, _, _ => rfl
  | _ :: _, _ + 1, 0, _, _ => rfl
  | _ :: e, i + 1, j + 1, v, h => by simp only [List.set_cons_succ, nth]; exact nth_set_ne (by omega)

/-! ### Memory by what it holds -/

def Wf (h : Heap) : Prop := ∀ i o, h.get i = some o → i < h.next
theorem Wf.set {h : Heap} (hw : Wf h) {i : Nat} (o : Obj) (hi : i < h.next) : Wf (h.set i o) := by
  intro j o' hj
  rw [Heap.next_set]
  by_cases hij : i = j
  · omega
  · rw [Heap.get_set_ne _ _ hij] at hj; exact hw _ _ hj
theorem Wf.alloc {h : Heap} (hw : Wf h) (o : Obj) : Wf (h.alloc o) := by
  intro j o' hj
  rw [Heap.next_alloc]
  by_cases hij : h.next = j
  · omega
  · rw [Heap.get_alloc_ne _ _ hij] at hj; have := hw _ _ hj; omega
theorem Wf.del {h : Heap} (hw : Wf h) (i : Nat) : Wf (h.del i) := by
  intro j o' hj
  rw [Heap.next_del]
  by_cases hij : i = j
  · subst hij; rw [Heap.get_del] at hj; cases hj
  · rw [Heap.get_del_ne _ hij] at hj; exact hw _ _ hj
theorem Wf.none {h : Heap} (hw : Wf h) {i : Nat} (hi : h.next ≤ i) : h.get i = none := by
  cases hg : h.get i with
  | none => rfl
  | some o => have := hw _ _ hg; omega

/-- Behind h0 all that was there is still there, but for some. -/
structure Keep (ex : List Nat) (h0 h : Heap) : Prop where
  wf0 : Wf h0
  wf : Wf h
  le : h0.next ≤ h.next
  get : ∀ i o, h0.get i = some o → i ∉ ex → h.get i = some o
theorem Keep.refl {ex : List Nat} {h : Heap} (hw : Wf h) : Keep ex h h := ⟨hw, hw, Nat.le_refl _, fun _ _ h _ => h⟩
theorem Keep.trans {ex : List Nat} {a b c : Heap} (h : Keep ex a b) (h' : Keep ex b c) : Keep ex a c := ⟨h.wf0, h'.wf, Nat.le_trans h.le h'.le, fun i o hi hx => h'.get i o (h.get i o hi hx) hx⟩
theorem Keep.more {ex ex' : List Nat} {a b : Heap} (h : Keep ex a b) (hx : ∀ i, i ∈ ex → i ∈ ex' ∨ a.next ≤ i) : Keep ex' a b := ⟨h.wf0, h.wf, h.le, fun i o hi hn => h.get i o hi (fun hm => by
  rcases hx i hm with h1 | h1
  · exact hn h1
  · have := h.wf0 _ _ hi; omega)⟩
theorem Keep.alloc {ex : List Nat} {h0 h : Heap} (hk : Keep ex h0 h) (o : Obj) : Keep ex h0 (h.alloc o) :=
  ⟨hk.wf0, hk.wf.alloc o, by rw [Heap.next_alloc]; have := hk.le; omega, fun i o' hi hx => by
    have h1 := hk.get i o' hi hx
    have := hk.wf _ _ h1
    rw [Heap.get_alloc_ne _ _ (by omega)]; exact h1⟩
theorem Keep.set {ex : List Nat} {h0 h : Heap} (hk : Keep ex h0 h) {i : Nat} (o : Obj) (hi : i < h.next) (hx : i ∈ ex ∨ h0.next ≤ i) : Keep ex h0 (h.set i o) :=
  ⟨hk.wf0, hk.wf.set o hi, hk.le, fun j o' hj hn => by
    have h1 := hk.get j o' hj hn
    have h2 := hk.wf0 _ _ hj
    rw [Heap.get_set_ne _ _ (by rintro rfl; rcases hx with hx | hx; exact hn hx; omega)]; exact h1⟩
theorem Keep.del {ex : List Nat} {h0 h : Heap} (hk : Keep ex h0 h) {i : Nat} (hx : i ∈ ex ∨ h0.next ≤ i) : Keep ex h0 (h.del i) :=
  ⟨hk.wf0, hk.wf.del i, hk.le, fun j o' hj hn => by
    have h1 := hk.get j o' hj hn
    have h2 := hk.wf0 _ _ hj
    rw [Heap.get_del_ne _ (by rintro rfl; rcases hx with hx | hx; exact hn hx; omega)]; exact h1⟩

/-- What is said of a capacity fits the length. -/
def capOk (n : Nat) : Cap → Prop
  | .exact m => n ≤ m
  | .tip e => e = 1
  | .dim => True
/-- What a slice of one-cell elements shows. -/
def Sl (h : Heap) (v : AV) (xs : List AV) : Prop :=
  match v with
  | .slice none n _ => n = 0 ∧ xs = []
  | .slice (some l) n c => (xs.length = n ∧ capOk n c) ∧ (n = 0 ∨ ∃ cs k, h.get l.id = some (.cells cs k) ∧ l.off + n ≤ cs.length ∧ (cs.drop l.off).take n = xs)
  | _ => False
/-- Its block (none where it shows nothing). -/
def idOf : AV → Option Nat
  | .slice (some l) _ _ => some l.id
  | .ptr (some l) => some l.id
  | _ => none

theorem Sl.keep {ex : List Nat} {h0 h : Heap} (hk : Keep ex h0 h) {v : AV} {xs : List AV} (hs : Sl h0 v xs) (hx : ∀ i, idOf v = some i → i ∉ ex) : Sl h v xs := by
  match v, hs with
  | .slice none n _, hs => exact hs
  | .slice (some l) n _, hs =>
    obtain ⟨h1, h2⟩ := hs
    refine ⟨h1, h2.imp id ?_⟩
    rintro ⟨cs, k, h3, h4⟩
    exact ⟨cs, k, hk.get _ _ h3 (hx _ rfl), h4⟩
theorem Sl.keep' {ex : List Nat} {h0 h : Heap} (hk : Keep ex h0 h) {v : AV} {xs : List AV} (hs : Sl h0 v xs) (hx : xs ≠ [] → ∀ i, idOf v = some i → i ∉ ex) : Sl h v xs := by
  match v, hs with
  | .slice none n _, hs => exact hs
  | .slice (some l) n _, hs =>
    obtain ⟨h1, h2⟩ := hs
    refine ⟨h1, ?_⟩
    rcases h2 with h2 | ⟨cs, k, h3, h4⟩
    · exact .inl h2
    · by_cases hn : n = 0
      · exact .inl hn
      · refine .inr ⟨cs, k, hk.get _ _ h3 (hx ?_ _ rfl), h4⟩
        intro hh
        rw [hh] at h1
        exact hn h1.1.symm
theorem Sl.lt {h : Heap} (hw : Wf h) {v : AV} {xs : List AV} (hs : Sl h v xs) (hne : xs ≠ []) {i : Nat} (hi : idOf v = some i) : i < h.next := by
  match v, hs with
  | .slice (some l) n _, hs =>
    cases hi
    obtain ⟨h1, h2 | ⟨cs, k, h3, h4⟩⟩ := hs
    · exact absurd (List.length_eq_zero_iff.1 (h1.1.trans h2)) hne
    · exact hw _ _ h3
theorem Sl.slice {h : Heap} {v : AV} {xs : List AV} (hs : Sl h v xs) : ∃ l c, v = .slice l xs.length c := by
  match v, hs with
  | .slice none n c, hs => obtain ⟨rfl, rfl⟩ := hs; exact ⟨none, c, rfl⟩
  | .slice (some l) n c, hs => obtain ⟨⟨rfl, _⟩, _⟩ := hs; exact ⟨some l, c, rfl⟩
theorem Sl.len {h : Heap} {v : AV} {xs : List AV} (hs : Sl h v xs) {t el : TypeId} (hu : P.underlying t = some (.slice el)) : lenA P h t v = some (.int .i64 xs.length) := by
  obtain ⟨l, c, rfl⟩ := hs.slice
  exact lenA_slice hu
theorem Sl.at {h : Heap} {v : AV} {xs : List AV} (hs : Sl h v xs) {t el : TypeId} (hu : P.underlying t = some (.slice el)) (h1 : sizeA P el = some 1) (ha : aggA P el = some false) {i : Nat} {x : AV} (hx : xs[i]? = some x) {k : IntKind} :
    ∃ l, indexAddrA P t v (.int k (i : Int)) = some (.ptr (some l)) ∧ loadA P h el l = some x ∧ idOf v = some l.id := by
  have hlt := (List.getElem?_eq_some_iff.1 hx).1
  match v, hs with
  | .slice none n c, hs => obtain ⟨rfl, rfl⟩ := hs; simp at hx
  | .slice (some l) n c, hs =>
    obtain ⟨⟨rfl, _⟩, h0 | ⟨cs, k', hg, hle, hd⟩⟩ := hs
    · omega
    · refine ⟨_, index_at hu h1 hlt, ?_, rfl⟩
      refine load_cell ha hg ?_
      rw [← hd, List.getElem?_take_of_lt hlt, List.getElem?_drop] at hx
      simpa using hx
theorem Sl.src {h : Heap} {v : AV} {xs : List AV} (hs : Sl h v xs) {t el : TypeId} (hu : P.underlying t = some (.slice el)) (hok : cellsOk xs = true) : srcA P h 1 t v = some (xs.length, xs) := by
  match v, hs with
  | .slice none n c, hs => obtain ⟨rfl, rfl⟩ := hs; simp [srcA, hu]
  | .slice (some l) n c, hs =>
    obtain ⟨⟨rfl, _⟩, h0⟩ := hs
    cases hn : xs.length with
    | zero =>
      have : xs = [] := List.length_eq_zero_iff.1 hn
      simp [srcA, hu, this]
    | succ n =>
      rcases h0 with h0 | ⟨cs, k', hg, hle, hd⟩
      · omega
      · simp only [srcA, hu, readA, Nat.mul_one, hg]
        rw [hn] at hle hd
        rw [(ble_iff _ _).2 hle]
        simp only [cond_true, hd, hok]

/-- A slice that is all of a block of the call's own. -/
def Own (h : Heap) (v : AV) (i : Nat) (xs : List AV) : Prop := ∃ c, (v = .slice (some ⟨i, 0⟩) xs.length c ∧ capOk xs.length c) ∧ h.get i = some (.cells xs .own)
theorem Own.sl {h : Heap} {v : AV} {i : Nat} {xs : List AV} (ho : Own h v i xs) : Sl h v xs := by
  obtain ⟨c, ⟨rfl, hcap⟩, hg⟩ := ho
  exact ⟨⟨rfl, hcap⟩, .inr ⟨xs, .own, hg, by simp, by simp⟩⟩
theorem Own.id {h : Heap} {v : AV} {i : Nat} {xs : List AV} (ho : Own h v i xs) : idOf v = some i := by
  obtain ⟨c, ⟨rfl, _⟩, hg⟩ := ho; rfl
theorem Own.keep {ex : List Nat} {h0 h : Heap} (hk : Keep ex h0 h) {v : AV} {i : Nat} {xs : List AV} (hs : Own h0 v i xs) (hx : i ∉ ex) : Own h v i xs := by
  obtain ⟨c, h1, h2⟩ := hs
  exact ⟨c, h1, hk.get _ _ h2 hx⟩
theorem Own.addr {h : Heap} {v : AV} {b : Nat} {xs : List AV} (hs : Own h v b xs) {t el : TypeId} (hu : P.underlying t = some (.slice el)) (h1 : sizeA P el = some 1) {i : Nat} (hi : i < xs.length) {k : IntKind} :
    indexAddrA P t v (.int k (i : Int)) = some (.ptr (some ⟨b, i⟩)) := by
  obtain ⟨c, ⟨rfl, hcap⟩, hg⟩ := hs
  rw [index_at hu h1 hi]; simp
theorem Own.load {h : Heap} {v : AV} {b : Nat} {xs : List AV} (hs : Own h v b xs) {el : TypeId} (ha : aggA P el = some false) {i : Nat} {x : AV} (hx : xs[i]? = some x) : loadA P h el ⟨b, i⟩ = some x := by
  obtain ⟨c, ⟨rfl, hcap⟩, hg⟩ := hs
  exact load_cell ha hg hx
theorem Own.store {h : Heap} {v : AV} {b : Nat} {xs : List AV} (hs : Own h v b xs) {el : TypeId} (h1 : sizeA P el = some 1) {i : Nat} (hi : i < xs.length) {x : AV} (hc : cellsA x = some [x]) (hok : cellOk x = true) :
    storeA P h el ⟨b, i⟩ x = some (h.set b (.cells (xs.set i x) .own)) ∧ Own (h.set b (.cells (xs.set i x) .own)) v b (xs.set i x) := by
  obtain ⟨c, ⟨rfl, hcap⟩, hg⟩ := hs
  exact ⟨store_cell h1 hc hok hg (by simp) hi, ⟨c, ⟨by simp, by simpa using hcap⟩, Heap.get_set _ _ _⟩⟩

/-- What is appended to, from nothing on, in blocks of the call's own. -/
def Acc (n0 : Nat) (h : Heap) (v : AV) (xs : List AV) : Prop :=
  (xs = [] ∧ ∃ l, v = .slice l 0 (.exact 0) ∧ ∀ x, l = some x → n0 ≤ x.id ∧ x.off = 0 ∧ ∃ cs, h.get x.id = some (.cells cs .own)) ∨ (∃ i, n0 ≤ i ∧ xs ≠ [] ∧ v = .slice (some ⟨i, 0⟩) xs.length (.tip 1) ∧ h.get i = some (.cells xs .own))
theorem Acc.nil {n0 : Nat} {h : Heap} : Acc n0 h (.slice none 0 (.exact 0)) [] := .inl ⟨rfl, none, rfl, fun _ hx => by cases hx⟩
theorem Acc.empty {n0 : Nat} {h : Heap} {i : Nat} {cs : List AV} (hi : n0 ≤ i) (hg : h.get i = some (.cells cs .own)) : Acc n0 h (.slice (some ⟨i, 0⟩) 0 (.exact 0)) [] := .inl ⟨rfl, _, rfl, fun _ hx => by cases hx; exact ⟨hi, rfl, cs, hg⟩⟩
theorem Acc.sl {n0 : Nat} {h : Heap} {v : AV} {xs : List AV} (ha : Acc n0 h v xs) : Sl h v xs := by
  rcases ha with ⟨rfl, l, rfl, hl⟩ | ⟨i, _, _, rfl, hg⟩
  · cases l with
    | none => exact ⟨rfl, rfl⟩
    | some x => exact ⟨⟨rfl, Nat.le_refl _⟩, .inl rfl⟩
  · exact ⟨⟨rfl, rfl⟩, .inr ⟨xs, .own, hg, by simp, by simp⟩⟩
theorem Acc.id {n0 : Nat} {h : Heap} {v : AV} {xs : List AV} (ha : Acc n0 h v xs) {i : Nat} (hi : idOf v = some i) : n0 ≤ i := by
  rcases ha with ⟨rfl, l, rfl, hl⟩ | ⟨j, h1, _, rfl, hg⟩
  · cases l with
    | none => cases hi
    | some x => cases hi; exact (hl x rfl).1
  · cases hi; exact h1
theorem Acc.keep {n0 : Nat} {ex : List Nat} {h0 h : Heap} (hk : Keep ex h0 h) {v : AV} {xs : List AV} (hs : Acc n0 h0 v xs) (hx : ∀ i ∈ ex, i < n0) : Acc n0 h v xs := by
  rcases hs with ⟨h1, l, h2, h3⟩ | ⟨j, h1, h2, h3, hg⟩
  · refine .inl ⟨h1, l, h2, fun x hx' => ?_⟩
    obtain ⟨h4, h5, cs, h6⟩ := h3 x hx'
    exact ⟨h4, h5, cs, hk.get _ _ h6 (fun hm => by have := hx _ hm; omega)⟩
  · exact .inr ⟨j, h1, h2, h3, hk.get _ _ hg (fun hm => by have := hx _ hm; omega)⟩
theorem cellsOk_append : ∀ {xs ys : List AV}, cellsOk (xs ++ ys) = (cellsOk xs && cellsOk ys)
  | [], _ => by simp [cellsOk]
  | x :: xs, ys => by simp [cellsOk, cellsOk_append, Bool.and_assoc]

/-- One more is appended. -/
theorem Acc.push {n0 : Nat} {ex : List Nat} {h0 h : Heap} {v : AV} {xs : List AV} (ha : Acc n0 h v xs) (hk : Keep ex h0 h) (hn : h0.next ≤ n0) (hn' : n0 ≤ h.next) {t el : TypeId} (hu : P.underlying t = some (.slice el)) (h1 : sizeA P el = some 1) (hroom : roomA P el (xs.length + 1) = true)
    {x y : AV} (hy : Sl h y [x]) (hok : cellOk x = true) : ∃ v' h', appendA P h t t v y = some (v', h') ∧ Acc n0 h' v' (xs ++ [x]) ∧ Keep ex h0 h' ∧ h.next ≤ h'.next := by
  have hsrc := hy.src (P := P) hu (by simp [cellsOk, hok])
  rcases ha with ⟨rfl, l, rfl, hl⟩ | ⟨i, hi, hne, rfl, hg⟩
  · simp only [List.length_nil, Nat.zero_add] at hroom
    refine ⟨.slice (some ⟨h.next, 0⟩) 1 (.tip 1), h.alloc (.cells [x] .own), ?_, .inr ⟨h.next, hn', by simp, by simp, Heap.get_alloc _ _⟩, hk.alloc _, by simp [Heap.next_alloc]⟩
    cases l with
    | none => simp only [appendA, hu, h1, hsrc, List.length_singleton, Nat.zero_add, hroom, cond_true]
    | some y =>
      obtain ⟨_, hx0, cs, hgx⟩ := hl y rfl
      have hb : Nat.ble 1 0 = false := rfl
      have hrd : readA h y (0 * 1) = some [] := by
        have : Nat.ble y.off cs.length = true := by rw [ble_iff, hx0]; omega
        simp [readA, hgx, this]
      simp only [appendA, hu, h1, hsrc, List.length_singleton, Nat.zero_add, hroom, cond_true, hb, cond_false, hrd, List.nil_append]
  · refine ⟨.slice (some ⟨h.next, 0⟩) (xs.length + 1) (.tip 1), (h.del i).alloc (.cells (xs ++ [x]) .own), ?_, .inr ⟨h.next, hn', by simp, by simp, Heap.get_alloc _ _⟩, (hk.del (.inr (by omega))).alloc _, by simp [Heap.next_alloc, Heap.next_del]⟩
    have hb : Nat.ble (0 + (xs.length + 1) * 1) xs.length = false := by
      cases hb : Nat.ble (0 + (xs.length + 1) * 1) xs.length with
      | false => rfl
      | true => rw [ble_iff] at hb; omega
    have hb2 : Nat.beq (0 + xs.length * 1) xs.length = true := by simp
    have hx : cellsOk [x] = true := by simp [cellsOk, hok]
    simp only [appendA, hu, h1, hsrc, List.length_singleton, hroom, cond_true, hg, hb, cond_false]
    rw [hb2]
    simp only [hx, Bool.and_true, cond_true, List.drop_zero]
    rfl

theorem room_of {e : TypeId} {i : TypeInfo} (hi : P.info? e = some i) {b n : Nat} (hb : i.bytes = b) (h1 : n * b ≤ 140737488355328) (h2 : n ≤ 9223372036854775807) {z : Value} (hz : i.zero = some z) (hzs : z.cells.size = i.size) (hsz : Nat.ble 1 i.size = true) : roomA P e n = true := by
  subst hb
  unfold roomA
  rw [hi]
  simp only [hz, hzs, hsz, (ble_iff _ _).2 h1, (ble_iff _ _).2 h2, Trie.beq1, decide_true, Bool.and_self]

/-- A list with one element, built. -/
theorem build_one {h : Heap} {t el : TypeId} (hu : P.underlying t = some (.slice el)) {i : TypeInfo} (hi : P.info? el = some i) {z : Value} (hz : i.zero = some z) (hzs : z.cells.size = 1) (hsz : i.size = 1) {za zc : AV} (hza : ofValue z = some za) (hzc : cellsA za = some [zc])
    {x : AV} (hx : cellsA x = some [x]) : buildSliceA P h t 1 [(0, x)] = some (.slice (some ⟨h.next, 0⟩) 1 (.exact 1), h.alloc (.cells [x] .own)) := by
  have hb : (Nat.beq z.cells.size i.size && Nat.ble 1 i.size && Nat.ble (1 * i.size) 16777216) = true := by rw [hzs, hsz]; rfl
  simp only [buildSliceA, hu, hi, hz, hb, cond_true, hza, hzc]
  rw [hsz]
  have hb3 : Nat.ble 1 1 = true := rfl
  simp [rep, fillA, hx, over, hb3]
theorem build_none {h : Heap} {t el : TypeId} (hu : P.underlying t = some (.slice el)) {i : TypeInfo} (hi : P.info? el = some i) {z : Value} (hz : i.zero = some z) (hzs : z.cells.size = i.size) (hsz : Nat.ble 1 i.size = true) {za : AV} {zc : List AV} (hza : ofValue z = some za) (hzc : cellsA za = some zc) :
    buildSliceA P h t 0 [] = some (.slice (some ⟨h.next, 0⟩) 0 (.exact 0), h.alloc (.cells [] .own)) := by
  have hb : (Nat.beq z.cells.size i.size && Nat.ble 1 i.size && Nat.ble (0 * i.size) 16777216) = true := by
    rw [hzs, Trie.beq1, hsz]
    simp
  simp only [buildSliceA, hu, hi, hz, hb, cond_true, hza, hzc]
  simp [rep, fillA]

/-- A copy in new memory: append to an empty list. -/
theorem Sl.clone {h : Heap} {v : AV} {xs : List AV} (hs : Sl h v xs) (hw : Wf h) {t el : TypeId} (hu : P.underlying t = some (.slice el)) (h1 : sizeA P el = some 1) (hroom : xs ≠ [] → roomA P el xs.length = true) (hok : cellsOk xs = true) :
    ∃ v' h' i, appendA P (h.alloc (.cells [] .own)) t t (.slice (some ⟨h.next, 0⟩) 0 (.exact 0)) v = some (v', h') ∧ Own h' v' i xs ∧ h.next ≤ i ∧ Keep [] h h' := by
  have hk0 := Keep.refl (ex := []) hw
  have hk := hk0.alloc (.cells [] .own)
  have hs' : Sl (h.alloc (.cells [] .own)) v xs := hs.keep hk (by simp)
  have hsrc := hs'.src (P := P) hu hok
  cases hn : xs.length with
  | zero =>
    have hxs : xs = [] := List.length_eq_zero_iff.1 hn
    subst hxs
    refine ⟨_, _, h.next, ?_, ⟨.exact 0, ⟨rfl, Nat.le_refl _⟩, Heap.get_alloc _ _⟩, Nat.le_refl _, hk⟩
    simp only [appendA, hu, h1, hsrc, List.length_nil]
  | succ n =>
    rw [hn] at hsrc hroom
    refine ⟨_, _, h.next + 1, ?_, ⟨.tip 1, ⟨by rw [hn], rfl⟩, ?_⟩, by omega, hk.alloc (.cells xs .own)⟩
    · have hb : Nat.ble (0 + (n + 1)) 0 = false := by simp [Nat.ble]
      have hr : roomA P el (0 + (n + 1)) = true := by rw [Nat.zero_add]; exact hroom (by intro h; simp [h] at hn)
      simp only [appendA, hu, h1, hsrc, hr, cond_true, hb, cond_false]
      have hread : readA (h.alloc (.cells [] .own)) ⟨h.next, 0⟩ (0 * 1) = some [] := by
        simp [readA, Heap.get_alloc, Nat.ble]
      simp only [hread, Heap.next_alloc, List.nil_append, Nat.zero_add]
    · have := Heap.get_alloc (h.alloc (.cells [] .own)) (.cells xs .own)
      simpa [Heap.next_alloc] using this

/-- Zeroes. -/
theorem make_zeros {h : Heap} {t el : TypeId} (hu : P.underlying t = some (.slice el)) {i : TypeInfo} (hi : P.info? el = some i) {z : Value} (hz : i.zero = some z) (hzs : z.cells.size = 1) (hsz : i.size = 1) {za zc : AV} (hza : ofValue z = some za) (hzc : cellsA za = some [zc])
    {n : Nat} (hn : i.bytes * n ≤ 281474976710656) (hn' : n ≤ 9223372036854775807) {k k' : IntKind} : makeSliceA P h t (.int k (n : Int)) (.int k' (n : Int)) = some (.slice (some ⟨h.next, 0⟩) n (.exact n), h.alloc (.cells (List.replicate n zc) .own)) := by
  have hc : 0 ≤ (n : Int) ∧ (n : Int) ≤ n ∧ (i.bytes : Int) * n ≤ 281474976710656 ∧ (n : Int) ≤ 9223372036854775807 ∧ z.cells.size = i.size ∧ 0 < i.size := by
    refine ⟨by omega, by omega, by rw [← Int.natCast_mul]; exact Int.ofNat_le.2 hn, by omega, by omega, by omega⟩
  unfold makeSliceA
  rw [hu]
  simp only []
  rw [hi]
  simp only []
  rw [hz]
  simp only []
  rw [if_pos hc]
  simp only [hza, hzc, Int.toNat_natCast, rep_one]

/-- Copying onto a list of the call's own. -/
theorem copy_own {h : Heap} {d s : AV} {b : Nat} {xs ys : List AV} (hd : Own h d b ys) (hs : Sl h s xs) (hx : cellsOk xs = true) {t el : TypeId} (hu : P.underlying t = some (.slice el)) (h1 : sizeA P el = some 1) :
    ∃ h', copyA P h t d s = some (.int .i64 (Nat.min xs.length ys.length : Nat), h') ∧ Own h' d b (xs.take ys.length ++ ys.drop xs.length) ∧ (h' = h ∨ h' = h.set b (.cells (xs.take ys.length ++ ys.drop xs.length) .own)) := by
  obtain ⟨c, ⟨rfl, hcap⟩, hg⟩ := hd
  have hlo : lenOfA s = some xs.length := by obtain ⟨l, c, rfl⟩ := hs.slice; rfl
  have htake : takeA h 1 s (Nat.min xs.length ys.length) = some (xs.take ys.length) := by
    cases hm : Nat.min xs.length ys.length with
    | zero =>
      have h0 : xs.take ys.length = [] := by
        apply List.length_eq_zero_iff.1
        rw [List.length_take]; simpa [Nat.min_comm] using hm
      simp [takeA, h0]
    | succ m =>
      have hm' : min xs.length ys.length = m + 1 := hm
      clear hlo
      match s, hs with
      | .slice none n c, hs => obtain ⟨_, rfl⟩ := hs; simp at hm'
      | .slice (some l) n c, hs =>
        obtain ⟨⟨rfl, _⟩, h0 | ⟨cs, k', hg', hle, hd⟩⟩ := hs
        · rw [h0] at hm'; simp at hm'
        · have hb : Nat.ble (m + 1) xs.length = true := by rw [ble_iff]; omega
          have hb2 : Nat.ble (l.off + (m + 1)) cs.length = true := by rw [ble_iff]; omega
          simp only [takeA, hb, cond_true, readA, hg', Nat.mul_one, hb2]
          have h5 : List.take ys.length xs = List.take (m + 1) (List.drop l.off cs) := by
            conv => lhs; rw [← hd]
            rw [List.take_take, Nat.min_comm, hm']
          rw [h5]
  have hlen : (xs.take ys.length).length = min xs.length ys.length := by simp [Nat.min_comm]
  cases hc : xs.take ys.length with
  | nil =>
    have hl2 : (List.nil ++ ys.drop xs.length).length = ys.length := by
      rw [hc] at hlen
      simp only [List.length_nil] at hlen
      have : ys.length = 0 ∨ xs.length = 0 := by omega
      rcases this with h0 | h0 <;> simp [h0]
    refine ⟨h, ?_, ⟨c, ⟨by rw [hl2], by rw [hl2]; exact hcap⟩, ?_⟩, .inl rfl⟩
    · simp only [copyA, hu, h1, hlo, htake, hc]
    · rw [hc] at hlen
      simp only [List.length_nil] at hlen
      have : ys.length = 0 ∨ xs.length = 0 := by omega
      rcases this with h0 | h0
      · have hy : ys = [] := List.length_eq_zero_iff.1 h0
        subst hy; simpa using hg
      · simpa [h0] using hg
  | cons a as =>
    have hne : 1 ≤ min xs.length ys.length := by rw [← hlen, hc]; simp
    have hb : Nat.ble 1 ys.length = true := by rw [ble_iff]; omega
    have hok : cellsOk (a :: as) = true := by
      rw [← hc]
      have := List.take_append_drop ys.length xs
      rw [← this, cellsOk_append, Bool.and_eq_true] at hx
      exact hx.1
    have hb2 : Nat.ble (0 + (a :: as).length) ys.length = true := by rw [ble_iff, ← hc, hlen]; omega
    have hover : over ys 0 (a :: as) = (a :: as) ++ ys.drop xs.length := by
      rw [← hc]
      simp only [over, List.take_zero, List.nil_append, Nat.zero_add, hlen]
      congr 1
      by_cases hle : xs.length ≤ ys.length
      · rw [Nat.min_eq_left hle]
      · rw [Nat.min_eq_right (by omega), List.drop_length, List.drop_eq_nil_of_le (by omega)]
    have hl2 : ((a :: as) ++ ys.drop xs.length).length = ys.length := by rw [← hc]; simp; omega
    refine ⟨h.set b (.cells ((a :: as) ++ ys.drop xs.length) .own), ?_, ⟨c, ⟨by rw [hl2], by rw [hl2]; exact hcap⟩, Heap.get_set _ _ _⟩, .inr rfl⟩
    · simp only [copyA, hu, h1, hlo, htake, hc, hb, cond_true, writeA, hg, hok, hb2, Bool.and_true, hover]

/-- What is behind the first. -/
theorem Sl.tail {h : Heap} {v x : AV} {xs : List AV} (hs : Sl h v (x :: xs)) {t el : TypeId} (hu : P.underlying t = some (.slice el)) (h1 : sizeA P el = some 1) {k : IntKind} :
    ∃ v', sliceA P t v (some (.int k 1)) none none = some v' ∧ Sl h v' xs ∧ (∀ i, idOf v' = some i → idOf v = some i) := by
  match v, hs with
  | .slice none n c, hs => obtain ⟨_, hh⟩ := hs; cases hh
  | .slice (some l) n c, hs =>
    obtain ⟨⟨rfl, hcap⟩, h0 | ⟨cs, k', hg, hle, hd⟩⟩ := hs
    · simp at h0
    · simp only [List.length_cons] at hcap hle hd
      have hd' : (cs.drop (l.off + 1)).take xs.length = xs := by
        have h2 : cs.drop l.off = (cs.drop l.off).headD .unk :: cs.drop (l.off + 1) := by
          rw [List.drop_eq_getElem_cons (by omega)]; rfl
        rw [h2, List.take_succ_cons] at hd
        exact (List.cons.inj hd).2
      have b1 : boundA none (xs.length + 1) (c.sure (xs.length + 1)) = some (xs.length + 1) := rfl
      have b2 : boundA (some (.int k 1)) 0 (xs.length + 1) = some 1 := by
        simp only [boundA]
        split
        · rfl
        · omega
      simp only [sliceA, hu, sliceOf, h1, List.length_cons, b1, b2]
      cases c with
      | exact m =>
        simp only [capOk] at hcap
        refine ⟨_, rfl, ⟨⟨by omega, by simp only [capOk]; omega⟩, ?_⟩, ?_⟩
        · by_cases hm : m = 1
          · left; omega
          · right
            have hb : Nat.beq m 1 = false := by rw [Trie.beq1]; simp [hm]
            simp only [hb, cond_false, locAdd, Nat.mul_one, Nat.add_sub_cancel]
            exact ⟨cs, k', hg, by omega, hd'⟩
        · intro i hi
          by_cases hm : m = 1
          · simp only [hm, Trie.beq1, decide_true, cond_true] at hi
            exact hi
          · have hb : Nat.beq m 1 = false := by rw [Trie.beq1]; simp [hm]
            simp only [hb, cond_false, locAdd] at hi
            exact hi
      | tip e =>
        simp only [capOk] at hcap
        subst hcap
        have hb0 : Nat.beq 1 0 = false := rfl
        have hb1 : Nat.beq 1 1 = true := rfl
        simp only [hb1, cond_true, hb0, cond_false]
        by_cases hx : 1 < xs.length + 1
        · rw [(blt_iff _ _).2 hx]
          simp only [cond_true, locAdd, Nat.mul_one, Nat.add_sub_cancel]
          exact ⟨_, rfl, ⟨⟨rfl, rfl⟩, .inr ⟨cs, k', hg, by simp only []; omega, hd'⟩⟩, fun i hi => hi⟩
        · have hb : Nat.blt 1 (xs.length + 1) = false := by
            cases hb : Nat.blt 1 (xs.length + 1) with
            | false => rfl
            | true => exact absurd ((blt_iff _ _).1 hb) hx
          rw [hb]
          simp only [cond_false]
          exact ⟨_, rfl, ⟨⟨by omega, trivial⟩, .inl rfl⟩, fun i hi => hi⟩
      | dim =>
        by_cases hx : 1 < xs.length + 1
        · rw [(blt_iff _ _).2 hx]
          simp only [cond_true, locAdd, Nat.mul_one, Nat.add_sub_cancel]
          exact ⟨_, rfl, ⟨⟨rfl, trivial⟩, .inr ⟨cs, k', hg, by simp only []; omega, hd'⟩⟩, fun i hi => hi⟩
        · have hb : Nat.blt 1 (xs.length + 1) = false := by
            cases hb : Nat.blt 1 (xs.length + 1) with
            | false => rfl
            | true => exact absurd ((blt_iff _ _).1 hb) hx
          rw [hb]
          simp only [cond_false]
          exact ⟨_, rfl, ⟨⟨by omega, trivial⟩, .inl rfl⟩, fun i hi => hi⟩
end
attribute [irreducible] WP W
end Go.Am

namespace Go.Am
open Go.RowKit

inductive NK where
  | mark0
  | marked
  | load (k : IntKind)
  | store
  | cas (k : IntKind)
  | add (k : IntKind)

def readI (h : Heap) (l : Loc) (k : IntKind) : Option Int :=
  match readA h l 1 with
  | some [.int k' n] => if k' = k then some n else none
  | _ => none
theorem readI_some {h : Heap} {l : Loc} {k : IntKind} {n : Int} (hr : readI h l k = some n) : readA h l 1 = some [.int k n] := by
  unfold readI at hr
  split at hr
  · rename_i k' m hx
    split at hr
    · rename_i hk; cases hr; rw [hx, hk]
    · cases hr
  · cases hr

def natA (h : Heap) (k : NK) (args : List AV) : Option CRes :=
  match k, args with
  | .mark0, [] => some (.ret (.tuple []) h)
  | .marked, [.ptr (some _)] => some (.ret (.tuple []) h)
  | .load k, [.ptr (some l)] => (match readI h l k with | some n => some (.ret (.int k n) h) | none => none)
  | .store, [.ptr (some l), .int k n] => (match readA h l 1, writeA h l [.int k n] with | some _, some h' => some (.ret (.tuple []) h') | _, _ => none)
  | .cas k, [.ptr (some l), .int k1 old, .int k2 new] => if k1 = k ∧ k2 = k then
      (match readI h l k, writeA h l [.int k new] with
      | some n, some h' => if n = old then some (.ret (.bool true) h') else some (.ret (.bool false) h)
      | _, _ => none) else none
  | .add k, [.ptr (some l), .int k2 y] => if k2 = k then
      (match readI h l k with
      | some n => (match writeA h l [.int k (k.wrap (n + y))] with | some h' => some (.ret (.int k (k.wrap (n + y))) h') | none => none)
      | none => none) else none
  | _, _ => none

def NatOk (P : Program) (f : FuncId) (k : NK) : Prop :=
  ∃ fn, P.funcs[f]? = some fn ∧ (fn.name == "runtime.NumGoroutine") = false ∧ fn.body.isNone = true ∧ Extern.findNext fn = none ∧
    (match k with
    | .mark0 => ∃ m, Extern.find fn = some (fun _ => do mark m; pure Extern.Race.none_)
    | .marked => ∃ m, Extern.find fn = some (Extern.Race.marked m)
    | .load k => Extern.find fn = some (Extern.Atomic.loadT (.int k))
    | .store => Extern.find fn = some Extern.Atomic.storeT
    | .cas k => Extern.find fn = some (Extern.Atomic.casT (.int k))
    | .add k => Extern.find fn = some (Extern.Atomic.update (Op.intArith .add) k true))

section
variable {P : Program} {φ : List Emb} {h : Heap} {w0 w : World}

theorem readA_one (hR : R P φ h w0 w) {l : Loc} {k : IntKind} {n : Int} (hr : readA h l 1 = some [.int k n]) : ∃ e, φ[l.id]? = some e ∧ w.cell? ⟨e.blk, e.off + l.off, none⟩ = some (.int k n) := by
  obtain ⟨e, vs, he, hv, hl, hc⟩ := read_cells hR hr
  refine ⟨e, he, ?_⟩
  match vs, hl, hv with
  | [v], _, hv =>
    rw [Vs_cons] at hv
    have h0 := hc 0 v rfl
    have h1 : v = .int k n := by simpa [V] using hv.1
    rw [h1] at h0
    simpa [Addr.add_lit] using h0
theorem writeA_one (hR : R P φ h w0 w) {l : Loc} {v : AV} {h' : Heap} (hw : writeA h l [v] = some h') {v' : Value} (hv : V φ v v') : ∃ e, φ[l.id]? = some e ∧ (w.cell? ⟨e.blk, e.off + l.off, none⟩).isSome = true ∧ w.frozen? ⟨e.blk, e.off + l.off, none⟩ = false ∧ R P φ h' w0 (w.setCell ⟨e.blk, e.off + l.off, none⟩ v') := by
  obtain ⟨e, w', he, _, hR', rfl, h1, h2, _⟩ := write_run (vs := [v']) hR hw (by rw [Vs_cons]; exact ⟨hv, by simp [Vs]⟩)
  refine ⟨e, he, by simpa using h1 0 (by simp), by simpa using h2 0 (by simp), ?_⟩
  simpa [World.setCells] using hR'

theorem natA_ok {f : FuncId} {k : NK} (hk : NatOk P f k) {args : List AV} {r : CRes} (hr : natA h k args = some r) : CallOk P f args h r := by
  obtain ⟨fn, hf, hname, hb, hn, he⟩ := hk
  intro φ w0 w args' hR hV
  right
  unfold natA at hr
  split at hr
  · cases hr
    obtain ⟨m, he⟩ := he
    have ha : args' = #[] := by rw [Vs_nil] at hV; exact Array.ext' (by simpa using hV)
    subst ha
    exact ⟨_, _, run_call_mark0 hf hname hb hn m he w, φ, _, rfl, Up.refl _, hR, undef_V φ⟩
  · cases hr
    obtain ⟨m, he⟩ := he
    simp only [Vs] at hV
    obtain ⟨y, ys, h1, h2, rfl⟩ := hV
    simp only [V] at h2
    obtain ⟨e, _, rfl⟩ := h2
    have ha : args' = #[Value.pointer (some ⟨e.blk, _, none⟩)] := Array.ext' (by simpa using h1)
    subst ha
    exact ⟨_, _, run_call_marked hf hname hb hn m he _ w, φ, _, rfl, Up.refl _, hR, undef_V φ⟩
  · rename_i k l
    split at hr
    · rename_i n hx
      cases hr
      simp only [Vs] at hV
      obtain ⟨y, ys, h1, h2, rfl⟩ := hV
      simp only [V] at h2
      obtain ⟨e, hel, rfl⟩ := h2
      have ha : args' = #[Value.pointer (some ⟨e.blk, e.off + l.off, none⟩)] := Array.ext' (by simpa using h1)
      subst ha
      obtain ⟨e', he', hc⟩ := readA_one hR (readI_some hx)
      rw [hel] at he'; cases he'
      exact ⟨_, _, run_call_load hf hname hb hn k he hc, φ, _, rfl, Up.refl _, hR, by simp [V]⟩
    · cases hr
  · rename_i l k n
    split at hr
    · rename_i x h' hx hw
      cases hr
      simp only [Vs] at hV
      obtain ⟨y, ys, h1, h2, y2, ys2, rfl, h3, rfl⟩ := hV
      simp only [V] at h2 h3
      obtain ⟨e, hel, rfl⟩ := h2
      subst h3
      have ha : args' = #[Value.pointer (some ⟨e.blk, e.off + l.off, none⟩), .int k n] := Array.ext' (by simpa using h1)
      subst ha
      obtain ⟨e', he', hc, hz, hR'⟩ := writeA_one hR hw (v' := .int k n) (by simp [V])
      rw [hel] at he'; cases he'
      obtain ⟨u, hu⟩ := Option.isSome_iff_exists.1 hc
      exact ⟨_, _, run_call_store hf hname hb hn he hu hz, φ, _, rfl, Up.refl _, hR', undef_V φ⟩
    · cases hr
  · rename_i k l k1 old k2 new
    split at hr
    · rename_i hkk
      obtain ⟨rfl, rfl⟩ := hkk
      split at hr
      · rename_i n h' hx hw
        simp only [Vs] at hV
        obtain ⟨y, ys, h1, h2, y2, ys2, rfl, h3, y4, ys4, rfl, h5, rfl⟩ := hV
        simp only [V] at h2 h3 h5
        obtain ⟨e, hel, rfl⟩ := h2
        subst h3 h5
        have ha : args' = #[Value.pointer (some ⟨e.blk, e.off + l.off, none⟩), .int k2 old, .int k2 new] := Array.ext' (by simpa using h1)
        subst ha
        obtain ⟨e', he', hc, hz, hR'⟩ := writeA_one hR hw (v' := .int k2 new) (by simp [V])
        rw [hel] at he'; cases he'
        obtain ⟨e', he', hc2⟩ := readA_one hR (readI_some hx)
        rw [hel] at he'; cases he'
        split at hr
        · rename_i hno
          subst hno
          cases hr
          exact ⟨_, _, run_call_cas_hit hf hname hb hn _ he hc2 hz, φ, _, rfl, Up.refl _, hR', by simp [V]⟩
        · rename_i hno
          cases hr
          exact ⟨_, _, run_call_cas_miss hf hname hb hn _ he hc2 hz hno, φ, _, rfl, Up.refl _, hR, by simp [V]⟩
      · cases hr
    · cases hr
  · rename_i k l k2 y
    split at hr
    · rename_i hkk
      subst hkk
      split at hr
      · rename_i n hx
        split at hr
        · rename_i h' hw
          cases hr
          simp only [Vs] at hV
          obtain ⟨y1, ys, h1, h2, y2, ys2, rfl, h3, rfl⟩ := hV
          simp only [V] at h2 h3
          obtain ⟨e, hel, rfl⟩ := h2
          subst h3
          have ha : args' = #[Value.pointer (some ⟨e.blk, e.off + l.off, none⟩), .int k2 y] := Array.ext' (by simpa using h1)
          subst ha
          obtain ⟨e', he', hc, hz, hR'⟩ := writeA_one hR hw (v' := .int k2 (k2.wrap (n + y))) (by simp [V])
          rw [hel] at he'; cases he'
          obtain ⟨e', he', hc2⟩ := readA_one hR (readI_some hx)
          rw [hel] at he'; cases he'
          exact ⟨_, _, run_call_add hf hname hb hn _ he hc2 hz (by rfl), φ, _, rfl, Up.refl _, hR', by simp [V]⟩
        · cases hr
      · cases hr
    · cases hr
  · cases hr

def natOf : List (FuncId × NK) → FuncId → Option NK
  | [], _ => none
  | (g, k) :: r, f => bif Nat.beq f g then some k else natOf r f
def natCall (ns : List (FuncId × NK)) : CallF := fun f args h => match natOf ns f with | some k => natA h k args | none => none
def NatsOk (P : Program) (ns : List (FuncId × NK)) : Prop := ∀ x ∈ ns, NatOk P x.1 x.2
theorem natOf_mem {f : FuncId} {k : NK} : ∀ {ns : List (FuncId × NK)}, natOf ns f = some k → (f, k) ∈ ns
  | [], h => by simp [natOf] at h
  | (g, k') :: r, h => by
    simp only [natOf] at h
    cases hb : Nat.beq f g with
    | true => simp only [hb, cond_true, Option.some.injEq] at h; have := Nat.eq_of_beq_eq_true hb; subst this; subst h; exact List.mem_cons_self
    | false => simp only [hb, cond_false] at h; exact List.mem_cons_of_mem _ (natOf_mem h)
theorem natCall_ok {ns : List (FuncId × NK)} (hn : NatsOk P ns) : CallsOk P (natCall ns) := by
  intro f args h r hr
  unfold natCall at hr
  split at hr
  · rename_i k hk; exact natA_ok (hn _ (natOf_mem hk)) hr
  · cases hr

/-- One that knows, else another. -/
def orCall (c d : CallF) : CallF := fun f a h => match c f a h with | some r => some r | none => d f a h
theorem orCall_ok {c d : CallF} (hc : CallsOk P c) (hd : CallsOk P d) : CallsOk P (orCall c d) := by
  intro f a h r hr
  unfold orCall at hr
  split at hr
  · rename_i r' hx; cases hr; exact hc f a h _ hx
  · exact hd f a h r hr
end
section
variable {P : Program} {f : FuncId} {fn : Func}
theorem natMark0 (m : Mark) (hf : P.funcs[f]? = some fn) (h1 : (fn.name == "runtime.NumGoroutine") = false) (h2 : fn.body.isNone = true) (h3 : Extern.findNext fn = none) (h4 : Extern.find fn = some (fun _ => do mark m; pure Extern.Race.none_)) : NatOk P f .mark0 := ⟨fn, hf, h1, h2, h3, m, h4⟩
theorem natMarked (m : Addr → Mark) (hf : P.funcs[f]? = some fn) (h1 : (fn.name == "runtime.NumGoroutine") = false) (h2 : fn.body.isNone = true) (h3 : Extern.findNext fn = none) (h4 : Extern.find fn = some (Extern.Race.marked m)) : NatOk P f .marked := ⟨fn, hf, h1, h2, h3, m, h4⟩
theorem natLoad {k : IntKind} (hf : P.funcs[f]? = some fn) (h1 : (fn.name == "runtime.NumGoroutine") = false) (h2 : fn.body.isNone = true) (h3 : Extern.findNext fn = none) (h4 : Extern.find fn = some (Extern.Atomic.loadT (.int k))) : NatOk P f (.load k) := ⟨fn, hf, h1, h2, h3, h4⟩
theorem natStore (hf : P.funcs[f]? = some fn) (h1 : (fn.name == "runtime.NumGoroutine") = false) (h2 : fn.body.isNone = true) (h3 : Extern.findNext fn = none) (h4 : Extern.find fn = some Extern.Atomic.storeT) : NatOk P f .store := ⟨fn, hf, h1, h2, h3, h4⟩
theorem natCas {k : IntKind} (hf : P.funcs[f]? = some fn) (h1 : (fn.name == "runtime.NumGoroutine") = false) (h2 : fn.body.isNone = true) (h3 : Extern.findNext fn = none) (h4 : Extern.find fn = some (Extern.Atomic.casT (.int k))) : NatOk P f (.cas k) := ⟨fn, hf, h1, h2, h3, h4⟩
theorem natAdd {k : IntKind} (hf : P.funcs[f]? = some fn) (h1 : (fn.name == "runtime.NumGoroutine") = false) (h2 : fn.body.isNone = true) (h3 : Extern.findNext fn = none) (h4 : Extern.find fn = some (Extern.Atomic.update (Op.intArith .add) k true)) : NatOk P f (.add k) := ⟨fn, hf, h1, h2, h3, h4⟩
end
end Go.Am

namespace Go.Am
open Go.RowKit

structure DV where
  f : FuncId
  args : List AV
  cap : List AV
def Ds (φ : List Emb) : List DV → List Deferred → Prop
  | [], l => l = []
  | d :: ds, l => ∃ x xs cap, l = x :: xs ∧ x.target = .fn (.func d.f) cap ∧ Vs φ d.cap cap.toList ∧ Vs φ d.args x.args.toList ∧ Ds φ ds xs
theorem Ds.up {φ φ' : List Emb} (hu : Up φ φ') : ∀ {ds : List DV} {l : List Deferred}, Ds φ ds l → Ds φ' ds l
  | [], _, h => h
  | d :: ds, l, h => by
    obtain ⟨x, xs, cap, h1, h2, h3, h4, h5⟩ := h
    exact ⟨x, xs, cap, h1, h2, Vs.up hu _ _ h3, Vs.up hu _ _ h4, Ds.up hu h5⟩

def QOut (φ : List Emb) (Q : Exit → Act → World → Prop) (o : Out) (a : Act) (w : World) : Prop :=
  match o with
  | .normal => Q .normal a w
  | .exit id => Q (.exit id) a w
  | .ret => Q .ret a w
  | .pan v => ∀ v', V φ v v' → Q (.panic [{ v := v', recovered := false }]) a w

abbrev PostD := Out → List AV → Heap → List DV → Prop
/-- What a piece of code comes to, deferred calls with it. -/
def WPD (P : Program) (c : Code) (e : List AV) (h : Heap) (ds : List DV) (K : PostD) : Prop :=
  ∀ (w0 : World) (φ : List Emb) (w : World) (a : Act) (Q : Exit → Act → World → Prop), R P φ h w0 w → Vs φ e a.tmps.toList → Ds φ ds a.defers →
    (∀ o e' h' ds', K o e' h' ds' → ∀ φ' w' a', Up φ φ' → R P φ' h' w0 w' → Vs φ' e' a'.tmps.toList → Ds φ' ds' a'.defers → QOut φ' Q o a' w') → c.wp P Q a w

section
variable {P : Program} {ov : CallF} {e : List AV} {h : Heap} {ds : List DV} {K : PostD}

theorem WPD.plain (hF : Fns P) (hm : P.follows .mixedOrders = true) (hov : CallsOk P ov) {c : Code} (hw : WP ov P c e h (fun o e' h' => K o e' h' ds)) : WPD P c e h ds K := by
  unfold WP at hw
  obtain ⟨o, e', h', ⟨n, hr⟩, hk⟩ := hw
  intro w0 φ w a Q hR he hd hq
  refine execA_wp hF (drawA_ok hF hm) (callT_ok ov P hF hm hov) c Q φ e h w a _ hR he hr ?_
  intro φ' w' a' hu hR' he' hd'
  have := hq o e' h' ds hk φ' w' a' hu hR' he' (by rw [hd']; exact hd.up hu)
  cases o <;> exact this
theorem WPD.mono {c : Code} {K' : PostD} (hw : WPD P c e h ds K) (hk : ∀ o e h ds, K o e h ds → K' o e h ds) : WPD P c e h ds K' :=
  fun w0 φ w a Q hR he hd hq => hw w0 φ w a Q hR he hd (fun o e' h' ds' hx => hq o e' h' ds' (hk _ _ _ _ hx))
def seqD (P : Program) (b : Code) (K : PostD) : PostD
  | .normal, e, h, ds => WPD P b e h ds K
  | o, e, h, ds => K o e h ds
theorem WPD.seq {a b : Code} (hw : WPD P a e h ds (seqD P b K)) : WPD P (.seq a b) e h ds K := by
  intro w0 φ w ac Q hR he hd hq
  refine wp_seq (hw w0 φ w ac _ hR he hd ?_)
  intro o e' h' ds' hk φ' w' a' hu hR' he' hd'
  cases o with
  | normal => exact hk w0 φ' w' a' Q hR' he' hd' (fun o e'' h'' ds'' hk' φ'' w'' a'' hu' => hq o e'' h'' ds'' hk' φ'' w'' a'' (hu.trans hu'))
  | exit i => exact hq _ e' h' ds' hk φ' w' a' hu hR' he' hd'
  | ret => exact hq _ e' h' ds' hk φ' w' a' hu hR' he' hd'
  | pan v => exact hq _ e' h' ds' hk φ' w' a' hu hR' he' hd'
theorem WPD.skip (hk : K .normal e h ds) : WPD P .skip e h ds K := fun _ φ w a _ hR he hd hq => wp_skip (hq _ e h ds hk φ w a (Up.refl _) hR he hd)
theorem WPD.ret (hk : K .ret e h ds) : WPD P .ret e h ds K := fun _ φ w a _ hR he hd hq => wp_ret (hq _ e h ds hk φ w a (Up.refl _) hR he hd)
theorem WPD.cond {c : Operand} {x y : Code} {t : Bool} (hc : evalA P e c = .bool t) (h1 : t = true → WPD P x e h ds K) (h2 : t = false → WPD P y e h ds K) : WPD P (.cond c x y) e h ds K := by
  intro w0 φ w a Q hR he hd hq
  have hv := evalA_V hR he c
  rw [hc] at hv
  simp only [V] at hv
  cases t with
  | true => exact wp_cond_true hv (h1 rfl w0 φ w a Q hR he hd hq)
  | false => exact wp_cond_false hv (h2 rfl w0 φ w a Q hR he hd hq)

/-- A region's operations, deferred calls with them. -/
def opsD (call : CallF) (P : Program) (ops : Array Oper) : List Oper → List AV → Heap → List DV → Option (Out × List AV × Heap × List DV)
  | [], e, h, ds => some (.normal, e, h, ds)
  | o :: rest, e, h, ds =>
    match wantedA ops e o with
    | some true =>
      (match o.op with
      | .defer ⟨.value f, xs, _⟩ =>
        (match evalA P e f with
        | .func (.func g) first captured => opsD call P ops rest (putA e o.dst (.tuple [])) h (⟨g, first ++ evals P e xs.toList, captured⟩ :: ds)
        | _ => none)
      | _ => (match opA call P e h o.op with
        | some (.ret v h') => opsD call P ops rest (putA e o.dst v) h' ds
        | _ => none))
    | some false => opsD call P ops rest (putA e o.dst (.tuple [])) h ds
    | none => none

theorem opsD_wp (hF : Fns P) {call : CallF} (hcall : CallsOk P call) {ops : Array Oper} {w0 : World} {Q : Exit → Act → World → Prop} {r : Out × List AV × Heap × List DV} : ∀ (rest : List Oper) (k : Nat), ops.toList.drop k = rest → ∀ (φ : List Emb) (e : List AV) (h : Heap) (ds : List DV) (w : World) (a : Act),
    R P φ h w0 w → Vs φ e a.tmps.toList → Ds φ ds a.defers → opsD call P ops rest e h ds = some r →
    (∀ φ' w' a', Up φ φ' → R P φ' r.2.2.1 w0 w' → Vs φ' r.2.1 a'.tmps.toList → Ds φ' r.2.2.2 a'.defers → QOut φ' Q r.1 a' w') → wpOps P ops Q (List.range' k rest.length) a w
  | [], k, hk, φ, e, h, ds, w, a, hR, he, hd, hr, hf => by
    simp only [opsD, Option.some.injEq] at hr
    subst hr
    exact hf φ w a (Up.refl _) hR he hd
  | o :: rest, k, hk, φ, e, h, ds, w, a, hR, he, hd, hr, hf => by
    have hok : ops[k]? = some o := by
      have : (ops.toList.drop k)[0]? = some o := by rw [hk]; rfl
      rw [List.getElem?_drop, Nat.add_zero, Array.getElem?_toList] at this
      exact this
    have hk' : ops.toList.drop (k + 1) = rest := by
      rw [← List.drop_drop, hk]; rfl
    have ih := opsD_wp hF hcall (w0 := w0) (Q := Q) (r := r) rest (k + 1) hk'
    have hρ := fun x => evalA_V hR he x
    have hguard : ∀ t, wantedA ops e o = some t → Region.wanted o (yielded ops a.tmps) = t := fun t ht =>
      wantedA_eq (φ := φ) ht fun j b d _ _ => by
        have := nth_V he d
        simpa [Array.getD_eq_getD_getElem?, List.getD_eq_getElem?_getD] using this
    simp only [List.length_cons, List.range'_succ, wpOps, hok]
    simp only [opsD] at hr
    split at hr
    · rename_i hw
      rw [hguard true hw]
      simp only [if_true]
      left
      split at hr
      · rename_i f xs ats hop
        split at hr
        · rename_i g first captured hfv
          have hfv' := hρ f
          rw [hfv] at hfv'
          simp only [V] at hfv'
          obtain ⟨x, y, hxy, hx, hy⟩ := hfv'
          have hv := evals_V hρ xs.toList
          obtain ⟨dst, op, type, pos, after, guard⟩ := o
          simp only at hop hr
          subst hop
          unfold Oper.wp
          have hrun : (execOp a.eval ⟨dst, .defer ⟨.value f, xs, ats⟩, type, pos, after, guard⟩).run P w = .ok (.defer { target := .fn (.func g) y, args := x ++ xs.map a.eval }) w := by
            have e1 : execOp a.eval ⟨dst, .defer ⟨.value f, xs, ats⟩, type, pos, after, guard⟩ = (do pure (.defer (← resolve a.eval ⟨.value f, xs, ats⟩ type))) := rfl
            rw [e1]
            simp only [resolve, hxy, Deferred.ofValue, Sem.run_bind, Sem.run_pure, Result.andThen_ok]
          rw [hrun, Oper.upon_defer]
          refine ih φ _ h _ w _ hR ?_ ?_ hr hf
          · cases dst with
            | none => exact he
            | some d => simpa [putA, Act.put] using he.set d (undef_V φ)
          · rw [put_defers']
            refine ⟨_, _, y, rfl, rfl, hy, ?_, hd⟩
            simp only [Array.toList_append, Array.toList_map]
            exact hx.append hv
        · cases hr
      · split at hr
        · rename_i v h' ho
          refine opA_wp hF hcall hR hρ ho ?_
          intro φ' w' v' hu hR' hv
          refine ih φ' _ h' ds w' _ hR' (putA_V (Vs.up hu _ _ he) o.dst hv) ?_ hr (fun φ'' w'' a'' hu' => hf φ'' w'' a'' (hu.trans hu'))
          rw [put_defers']
          exact hd.up hu
        · cases hr
    · rename_i hw
      rw [hguard false hw]
      simp only [Bool.false_eq_true, if_false]
      refine ih φ _ h ds w _ hR (putA_V he o.dst (undef_V φ)) ?_ hr hf
      rw [put_defers']
      exact hd
    · cases hr

def WD (K : PostD) : Option (Out × List AV × Heap × List DV) → Prop
  | some (o, e, h, ds) => K o e h ds
  | none => False
theorem WD_some {o : Out} : WD K (some (o, e, h, ds)) = K o e h ds := rfl
@[congr] theorem WD_congr {x y : Option (Out × List AV × Heap × List DV)} (hxy : x = y) : WD K x = WD K y := by rw [hxy]
theorem WPD.region (hF : Fns P) (hm : P.follows .mixedOrders = true) (hov : CallsOk P ov) {id : Nat} {ops : Array Oper} (hw : WD K (opsD (callT ov P) P ops ops.toList e h ds)) : WPD P (.region id ops false) e h ds K := by
  generalize hr : opsD (callT ov P) P ops ops.toList e h ds = r at hw
  match r, hw with
  | some (o, e', h', ds'), hw =>
    intro w0 φ w a Q hR he hd hq
    refine wp_region ?_
    have := opsD_wp hF (callT_ok ov P hF hm hov) (w0 := w0) (Q := Q) ops.toList 0 rfl φ e h ds w a hR he hd hr (fun φ' w' a' => hq o e' h' ds' hw φ' w' a')
    rw [Array.length_toList] at this
    rw [List.range_eq_range']
    exact this

/-- The deferred calls, one behind the other; then the results. -/
def LeaveT (ov : CallF) (P : Program) (fn : Func) (e : List AV) : List DV → Heap → CRes → Prop
  | [], h, r => ∃ vs, resultsA P e h fn.results.toList = some vs ∧ r = .ret (single vs) h
  | d :: ds, h, r => ∃ v h1, ov d.f (d.args ++ d.cap) h = none ∧ callT ov P d.f (d.args ++ d.cap) h = some (.ret v h1) ∧ LeaveT ov P fn e ds h1 r

theorem callBody_wp (hF : Fns P) {draw : DrawF} (hD : DrawOk P draw) {call : CallF} (hcall : CallsOk P call) {n : Nat} {fn : Func} {c : Code} (hb : fn.body = some c) {args : List AV} {v : AV} {h1 : Heap} (hr : callBody (execA draw call P n) P fn args h = some (.ret v h1))
    {φ : List Emb} {w0 w : World} {args' : Array Value} (hR : R P φ h w0 w) (ha : Vs φ args args'.toList) :
    c.wp P (bodyPost P fn (PostC P φ w0 (.ret v h1))) { tmps := args' ++ Array.replicate (fn.ntmps - args'.size) undef, defers := [] } w := by
  unfold callBody at hr
  rw [hb] at hr
  simp only at hr
  have hlen : args'.size = args.length := by rw [← Array.length_toList, ha.length]
  have hframe : Vs φ (frameA fn args) (args' ++ Array.replicate (fn.ntmps - args'.size) undef).toList := by
    simp only [frameA, Array.toList_append, Array.toList_replicate]
    refine ha.append (Vs.of_get (by simp [hlen]) fun i a v h1 h2 => ?_)
    rw [List.getElem?_replicate] at h1 h2
    split at h1
    · cases h1
      split at h2
      · cases h2; exact undef_V φ
      · cases h2
    · cases h1
  have fin : ∀ e h', (match resultsA P e h' fn.results.toList with | some vs => some (CRes.ret (single vs) h') | none => none) = some (.ret v h1) → ∀ φ' w' (a' : Act), Up φ φ' → R P φ' h' w0 w' → Vs φ' e a'.tmps.toList → a'.defers = [] →
      a'.defers = [] ∧ ∃ u, (results fn a'.tmps).run P w' = .ok u w' ∧ PostC P φ w0 (.ret v h1) (.returned u) w' := by
    intro e h' hres φ' w' a' hu hR' he' hd
    split at hres
    · rename_i vs hvs
      cases hres
      obtain ⟨u, h1, h2⟩ := results_run hR' he' hvs
      exact ⟨hd, u, h1, φ', u, rfl, hu, hR', h2⟩
    · cases hres
  split at hr
  · rename_i e h' hx
    exact execA_wp hF hD hcall c _ φ _ h w _ _ hR hframe hx (fun φ' w' a' hu hR' he' hd => fin e h' hr φ' w' a' hu hR' he' hd)
  · rename_i e h' hx
    exact execA_wp hF hD hcall c _ φ _ h w _ _ hR hframe hx (fun φ' w' a' hu hR' he' hd => fin e h' hr φ' w' a' hu hR' he' hd)
  · cases hr
  · cases hr

theorem leaveT_leaves (hF : Fns P) (hm : P.follows .mixedOrders = true) (hov : CallsOk P ov) {fn : Func} {tmps : Array Value} {φ0 : List Emb} {w0 : World} {r : CRes} : ∀ (ds : List DV) (l : List Deferred) (φ : List Emb) (h : Heap) (w : World), Up φ0 φ → R P φ h w0 w → Vs φ e tmps.toList → Ds φ ds l → LeaveT ov P fn e ds h r →
    Leaves P fn tmps (PostC P φ0 w0 r) l .returning w
  | [], l, φ, h, w, hu, hR, he, hd, hl => by
    simp only [Ds] at hd
    subst hd
    obtain ⟨vs, hvs, rfl⟩ := hl
    obtain ⟨u, h1, h2⟩ := results_run hR he hvs
    exact ⟨u, h1, φ, u, rfl, hu, hR, h2⟩
  | d :: ds, l, φ, h, w, hu, hR, he, hd, hl => by
    obtain ⟨⟨tg, dargs⟩, xs, cap, rfl, ht, hcap, hargs, hds⟩ := hd
    simp only at ht hargs
    subst ht
    obtain ⟨v, h1, hno, hcall, hrest⟩ := hl
    obtain ⟨N, hN⟩ := (callT_iff ov P _ _ _ _).1 hcall
    cases N with
    | zero => simp only [callN] at hN; rw [hno] at hN; cases hN
    | succ N =>
      simp only [callN, hno] at hN
      split at hN
      · cases hN
      · rename_i fd hfd
        have hb : ∃ c, fd.body = some c := by
          cases hb : fd.body with
          | none => simp [callBody, hb] at hN
          | some c => exact ⟨c, rfl⟩
        obtain ⟨c, hb⟩ := hb
        have hall : Vs φ (d.args ++ d.cap) (dargs ++ cap).toList := by
          simp only [Array.toList_append]; exact hargs.append hcap
        have hwp := callBody_wp hF (drawA_ok hF hm) (callN_ok hF (drawA_ok hF hm) hov (n := N + 1) N) hb hN hR hall
        refine leaves_cons (by simp) (by simp only [invoke]; exact callFunc_run hF hfd hb _ _) ?_
        refine (callsD_of_wp hfd hb hwp).mono ?_
        rintro e1 u' w' ⟨rfl, φ', v', rfl, hu', hR', hv'⟩
        simp only [settle]
        exact leaveT_leaves hF hm hov ds xs φ' h1 w' (hu.trans hu') hR' (Vs.up hu' _ _ he) (hds.up hu') hrest

/-- A function with deferred calls. -/
theorem callD (hF : Fns P) (hm : P.follows .mixedOrders = true) (hov : CallsOk P ov) {f : FuncId} {fn : Func} {c : Code} (hf : P.funcs[f]? = some fn) (hb : fn.body = some c) {args : List AV} {r : CRes}
    (hw : WPD P c (frameA fn args) h [] (fun o e h' ds => (o = .normal ∨ o = .ret) ∧ LeaveT ov P fn e ds h' r)) : CallOk P f args h r := by
  intro φ w0 w args' hR ha
  refine .inl ⟨callFunc_run hF hf hb _ _, calls_of_wp_defers hf hb ?_⟩
  have hlen : args'.size = args.length := by rw [← Array.length_toList, ha.length]
  have hframe : Vs φ (frameA fn args) (args' ++ Array.replicate (fn.ntmps - args'.size) undef).toList := by
    simp only [frameA, Array.toList_append, Array.toList_replicate]
    refine ha.append (Vs.of_get (by simp [hlen]) fun i a v h1 h2 => ?_)
    rw [List.getElem?_replicate] at h1 h2
    split at h1
    · cases h1
      split at h2
      · cases h2; exact undef_V φ
      · cases h2
    · cases h1
  refine hw w0 φ w _ _ hR hframe (by simp [Ds]) ?_
  rintro o e' h' ds ⟨ho, hl⟩ φ' w' a' hu hR' he' hd'
  rcases ho with rfl | rfl
  · exact leaveT_leaves hF hm hov ds a'.defers φ' h' w' hu hR' he' hd' hl
  · exact leaveT_leaves hF hm hov ds a'.defers φ' h' w' hu hR' he' hd' hl
end

/-! ### Calls that are known by what is said of them -/
section
variable {P : Program}
noncomputable def specCall (P : Program) (S : FuncId → List AV → Heap → CRes → Prop) : CallF := fun f a h => by
  classical exact if hx : ∃ r, CallOk P f a h r ∧ S f a h r then some hx.choose else none
theorem specCall_ok (S : FuncId → List AV → Heap → CRes → Prop) : CallsOk P (specCall P S) := by
  intro f a h r hr
  unfold specCall at hr
  split at hr
  · rename_i hx
    cases hr
    exact hx.choose_spec.1
  · cases hr
theorem specCall_get {S : FuncId → List AV → Heap → CRes → Prop} {f : FuncId} {a : List AV} {h : Heap} {r : CRes} (hc : CallOk P f a h r) (hs : S f a h r) : ∃ r', specCall P S f a h = some r' ∧ S f a h r' := by
  have hx : ∃ r, CallOk P f a h r ∧ S f a h r := ⟨r, hc, hs⟩
  exact ⟨hx.choose, by unfold specCall; rw [dif_pos hx], hx.choose_spec.2⟩
theorem specCall_none {S : FuncId → List AV → Heap → CRes → Prop} {f : FuncId} {a : List AV} {h : Heap} (hs : ∀ r, ¬ S f a h r) : specCall P S f a h = none := by
  unfold specCall
  rw [dif_neg]
  rintro ⟨r, _, h2⟩
  exact hs r h2
end
end Go.Am

namespace Go.Am
open Go.RowKit

section
variable {call : CallF} {P : Program} {ops : Array Oper} {dst : Option Tmp} {op : Op} {ty : TypeId} {pos : String} {after : Array Edge} {rest : List Oper} {e : List AV} {h : Heap}

def tcons (x : TR) : Option (List TR) → Option (List TR)
  | some tr => some (x :: tr)
  | none => none
theorem tcons_some {x : TR} {tr : List TR} : tcons x (some tr) = some (x :: tr) := rfl
def tstep (call : CallF) (P : Program) (ops : Array Oper) (rest : List Oper) (dst : Option Tmp) (e : List AV) (h : Heap) : Option CRes → Option (List TR)
  | some (.ret v h') => tcons ⟨e, h, v, true⟩ (traceA call P ops rest (putA e dst v) h')
  | _ => none
theorem tstep_ret {v : AV} {h' : Heap} {d : Tmp} : tstep call P ops rest (some d) e h (some (.ret v h')) = tcons ⟨e, h, v, true⟩ (traceA call P ops rest (e.set d v) h') := rfl
theorem tstep_none {v : AV} {h' : Heap} : tstep call P ops rest none e h (some (.ret v h')) = tcons ⟨e, h, v, true⟩ (traceA call P ops rest e h') := rfl
theorem trace_nil : traceA call P ops [] e h = some [⟨e, h, .unk, false⟩] := rfl
theorem trace_cons : traceA call P ops (⟨dst, op, ty, pos, after, none⟩ :: rest) e h = tstep call P ops rest dst e h (opA call P e h op) := by
  simp only [traceA, wantedA]
  cases opA call P e h op with
  | none => rfl
  | some r => cases r <;> rfl
def tguard (call : CallF) (P : Program) (ops : Array Oper) (rest : List Oper) (dst : Option Tmp) (op : Op) (e : List AV) (h : Heap) : Option Bool → Option (List TR)
  | some true => tstep call P ops rest dst e h (opA call P e h op)
  | some false => tcons ⟨e, h, .tuple [], false⟩ (traceA call P ops rest (putA e dst (.tuple [])) h)
  | none => none
theorem tguard_true : tguard call P ops rest dst op e h (some true) = tstep call P ops rest dst e h (opA call P e h op) := rfl
theorem tguard_false {d : Tmp} : tguard call P ops rest (some d) op e h (some false) = tcons ⟨e, h, .tuple [], false⟩ (traceA call P ops rest (e.set d (.tuple [])) h) := rfl
theorem trace_guard {j : Nat} {b : Bool} : traceA call P ops (⟨dst, op, ty, pos, after, some (j, b)⟩ :: rest) e h = tguard call P ops rest dst op e h (guardA ops e j b) := by
  have hw : wantedA ops e ⟨dst, op, ty, pos, after, some (j, b)⟩ = guardA ops e j b := rfl
  simp only [traceA, hw]
  cases guardA ops e j b with
  | none => rfl
  | some t =>
    cases t with
    | false => rfl
    | true =>
      simp only [tguard]
      cases opA call P e h op with
      | none => rfl
      | some r => cases r <;> rfl

mutual
theorem beqV_refl : ∀ v : AV, beqV v v = true
  | .unk => rfl
  | .bool b => by simp [beqV]
  | .int k n => by simp [beqV]
  | .str s => by simp [beqV]
  | .ptr none => rfl
  | .ptr (some a) => by simp [beqV]
  | .slice none n c => by simp [beqV, beqCap_refl c]
  | .slice (some a) n c => by simp [beqV, beqCap_refl c]
  | .map none => rfl
  | .map (some a) => by simp [beqV]
  | .chan none => rfl
  | .chan (some a) => by simp [beqV]
  | .func f a b => by simp [beqV, beqVs_refl a, beqVs_refl b]
  | .nilFunc => rfl
  | .iface t a => by simp [beqV, beqV_refl a]
  | .nilIface => rfl
  | .agg a => by simp [beqV, beqVs_refl a]
  | .tuple a => by simp [beqV, beqVs_refl a]
theorem beqVs_refl : ∀ vs : List AV, beqVs vs vs = true
  | [] => rfl
  | v :: vs => by simp [beqVs, beqV_refl v, beqVs_refl vs]
theorem beqCap_refl : ∀ c : Cap, beqCap c c = true
  | .exact n => by simp [beqCap]
  | .tip n => by simp [beqCap]
  | .dim => rfl
end

/-- One reading at one heap. -/
def sameV (P : Program) (e : List AV) (h : Heap) (op : Op) (v : AV) : Bool := match aop P e h op with | some (u, _) => beqV u v | none => false
theorem sameV_of {op : Op} {v : AV} (hx : opA call P e h op = some (.ret v h)) (hop : ∀ x, opA call P e h op = x → x = toRet (aop P e h op)) : sameV P e h op v = true := by
  have := hop _ rfl
  rw [hx] at this
  unfold sameV
  cases ha : aop P e h op with
  | none => rw [ha] at this; cases this
  | some r =>
    obtain ⟨u, h'⟩ := r
    rw [ha] at this
    simp only [toRet, Option.some.injEq, CRes.ret.injEq] at this
    simp only []
    rw [← this.1]
    exact beqV_refl v
/-- All readings, at all heaps where they may be done: by a list of places, reckoned from the text alone. -/
def places (P : Program) (bs ls : List Nat) : List Oper → Nat → List (Nat × Nat)
  | [], _ => []
  | o :: os, i => (bif readsA P o.op && !loudA P o.op then (ls.filter fun p => mayAt bs i p ls).map fun p => (i, p) else []) ++ places P bs ls os (i + 1)
theorem sameAt_of {bs ls : List Nat} {full : List TR} {i : Nat} {o : Oper} {x : TR} : ∀ {ps : List Nat}, (∀ p, p ∈ ps → mayAt bs i p ls = true → ∃ y, full[p]? = some y ∧ sameV P x.env y.heap o.op x.val = true) → sameAt P bs ls full i o x ps = true
  | [], _ => rfl
  | p :: ps, hp => by
    simp only [sameAt]
    have h2 := sameAt_of (ps := ps) (fun q hq => hp q (List.mem_cons_of_mem _ hq))
    rw [h2, Bool.and_true]
    cases hm : mayAt bs i p ls with
    | false => rfl
    | true =>
      obtain ⟨y, hy, hs⟩ := hp p List.mem_cons_self hm
      simp only [cond_true, hy]
      exact hs
theorem dynAll_of {bs ls : List Nat} {full : List TR} : ∀ {os : List Oper} {xs : List TR} {i : Nat}, (∀ j o x p, os[j]? = some o → xs[j]? = some x → x.on = true → (i + j, p) ∈ places P bs ls os i → ∃ y, full[p]? = some y ∧ sameV P x.env y.heap o.op x.val = true) → dynAll P bs ls full os xs i = true
  | [], _, _, _ => by simp [dynAll]
  | _ :: _, [], _, _ => by simp [dynAll]
  | o :: os, x :: xs, i, hp => by
    simp only [dynAll]
    have h2 := dynAll_of (os := os) (xs := xs) (i := i + 1) (fun j o' x' p ho hx hon hm => by
      refine hp (j + 1) o' x' p (by simpa using ho) (by simpa using hx) hon ?_
      simp only [places, List.mem_append]
      right
      have : i + (j + 1) = i + 1 + j := by omega
      rw [this]; exact hm)
    rw [h2, Bool.and_true]
    cases hc : (x.on && readsA P o.op && !loudA P o.op) with
    | false => rfl
    | true =>
      simp only [Bool.and_eq_true] at hc
      simp only [cond_true]
      refine sameAt_of fun p hpl hm => ?_
      refine hp 0 o x p rfl rfl hc.1.1 ?_
      simp only [places, List.mem_append]
      left
      have : (readsA P o.op && !loudA P o.op) = true := by rw [hc.1.2, hc.2]; rfl
      rw [this]
      simp only [cond_true, List.mem_map, List.mem_filter]
      exact ⟨p, ⟨hpl, hm⟩, rfl⟩

/-- What is asked of the readings, place by place. -/
def pairsOk (P : Program) (ops : List Oper) (tr : List TR) : List (Nat × Nat) → Prop
  | [] => True
  | (i, p) :: r => (match ops[i]?, tr[i]?, tr[p]? with
    | some o, some x, some y => x.on = true → sameV P x.env y.heap o.op x.val = true
    | _, _, _ => False) ∧ pairsOk P ops tr r
theorem pairsOk_mem {os : List Oper} {tr : List TR} : ∀ {pl : List (Nat × Nat)}, pairsOk P os tr pl → ∀ i p, (i, p) ∈ pl → ∀ o x, os[i]? = some o → tr[i]? = some x → x.on = true → ∃ y, tr[p]? = some y ∧ sameV P x.env y.heap o.op x.val = true
  | [], _, i, p, hm, _, _, _, _, _ => by simp at hm
  | (a, b) :: r, hp, i, p, hm, o, x, ho, hx, hon => by
    simp only [pairsOk] at hp
    rcases List.mem_cons.1 hm with he | hm
    · simp only [Prod.mk.injEq] at he
      obtain ⟨rfl, rfl⟩ := he
      have h1 := hp.1
      rw [ho, hx] at h1
      cases hy : tr[p]? with
      | none => rw [hy] at h1; exact h1.elim
      | some y => rw [hy] at h1; exact ⟨y, rfl, h1 hon⟩
    · exact pairsOk_mem hp.2 i p hm o x ho hx hon
theorem dynOk_of {tr : List TR} {pl : List (Nat × Nat)} (ht : traceA call P ops ops.toList e h = some tr) (hpl : places P (masks ops.toList []) (louds P ops.toList 0) ops.toList 0 = pl) (hp : pairsOk P ops.toList tr pl) : dynOk call P ops e h = true := by
  simp only [dynOk, ht]
  refine dynAll_of fun j o x p ho hx hon hm => ?_
  rw [Nat.zero_add, hpl] at hm
  exact pairsOk_mem hp j p hm o x ho hx hon

theorem sameV_load {t : TypeId} {a : Operand} {v : AV} {l : Loc} (ha : evalA P e a = .ptr (some l)) (hl : loadA P h t l = some v) : sameV P e h (.load t a) v = true := by
  have : aop P e h (.load t a) = some (v, h) := by simp only [aop, ha, hl, withH]
  simp only [sameV, this, beqV_refl]

def TW (K : List TR → Prop) : Option (List TR) → Prop
  | some tr => K tr
  | none => False
theorem TW_some {K : List TR → Prop} {tr : List TR} : TW K (some tr) = K tr := rfl
@[congr] theorem TW_congr {K : List TR → Prop} {x y : Option (List TR)} (h : x = y) : TW K x = TW K y := by rw [h]
theorem dynOk_tw {pl : List (Nat × Nat)} (hpl : places P (masks ops.toList []) (louds P ops.toList 0) ops.toList 0 = pl) (hp : TW (fun tr => pairsOk P ops.toList tr pl) (traceA call P ops ops.toList e h)) : dynOk call P ops e h = true := by
  generalize ht : traceA call P ops ops.toList e h = x at hp
  match x, hp with
  | some tr, hp => exact dynOk_of ht hpl hp
def loadSame (P : Program) (h : Heap) (t : TypeId) (a v : AV) : Bool := match a with
  | .ptr (some l) => (match loadA P h t l with | some u => beqV u v | none => false)
  | _ => false
theorem sameV_load' {t : TypeId} {a : Operand} {v : AV} : sameV P e h (.load t a) v = loadSame P h t (evalA P e a) v := by
  simp only [sameV, aop, loadSame]
  cases evalA P e a with
  | ptr l =>
    cases l with
    | none => rfl
    | some l =>
      simp only [withH]
      cases loadA P h t l <;> rfl
  | _ => rfl
end
end Go.Am

namespace Go.Am
open Go.RowKit

/-- A way to look at every order: what is quiet is done as soon as it may be; of what is loud each may be the next. -/
inductive Plan where
  | done
  | quiet (i : Nat) (p : Plan)
  | alt (i : Nat) (cs : List Nat) (p q : Plan)
  | stop

def strictOk (ops : Array Oper) (bs : List Nat) : Bool :=
  allFrom (fun j y => (y.after.toList.all fun e => !bindsA e || Nat.blt e.on j) &&
    allFrom (fun i x => (Nat.beq i j || dstOk x y) && (match x.dst with | some d => !(usesA ops y).contains d || Nat.testBit (bs.getD j 0) i | none => true)) ops.toList 0) ops.toList 0
def subOk (ops : Array Oper) (bs : List Nat) (i : Nat) (L : List Nat) : Bool := allFrom (fun j _ => !Nat.testBit (bs.getD i 0) j || L.contains j) ops.toList 0
def planOk (P : Program) (ops : Array Oper) (bs : List Nat) : Plan → List Nat → List Nat → Bool
  | .done, L, _ => allFrom (fun i _ => L.contains i) ops.toList 0
  | .quiet i p, L, _ => (match ops[i]? with | some o => !loudA P o.op | none => false) && !L.contains i && subOk ops bs i L && planOk P ops bs p (i :: L) []
  | .alt i cs p q, L, as => Nat.blt i ops.size && !L.contains i && subOk ops bs i L && allFrom (fun s x => !L.contains s || Nat.testBit (bs.getD i 0) s || loudA P x.op || !readsA P x.op || cs.contains s) ops.toList 0 &&
      planOk P ops bs p (i :: L) [] && planOk P ops bs q L (i :: as)
  | .stop, L, as => !as.isEmpty && allFrom (fun i _ => L.contains i || !subOk ops bs i L || as.contains i) ops.toList 0

def chk1 (P : Program) (ops : Array Oper) (o : Oper) (e : List AV) (h : Heap) : Prop :=
  match wantedA ops e o with
  | some true => (match o.dst with | some d => sameV P e h o.op (nth e d) = true | none => False)
  | some false => True
  | none => False
def chkO (P : Program) (ops : Array Oper) (e : List AV) (h : Heap) : Option Oper → Prop
  | some o => chk1 P ops o e h
  | none => True
def chkAll (P : Program) (ops : Array Oper) : List Nat → List AV → Heap → Prop
  | [], _, _ => True
  | s :: cs, e, h => chkO P ops e h ops[s]? ∧ chkAll P ops cs e h
/-- One operation. -/
def stepO (call : CallF) (P : Program) (ops : Array Oper) (K : List AV → Heap → Prop) (e : List AV) (h : Heap) : Option Oper → Prop
  | some o => W (fun x e' h' => x = .normal ∧ K e' h') (opsA call P ops [o] e h)
  | none => False
def TP (call : CallF) (P : Program) (ops : Array Oper) : Plan → List AV → Heap → (List AV → Heap → Prop) → Prop
  | .done, e, h, K => K e h
  | .quiet i p, e, h, K => stepO call P ops (fun e' h' => TP call P ops p e' h' K) e h ops[i]?
  | .alt i cs p q, e, h, K => stepO call P ops (fun e' h' => chkAll P ops cs e' h' ∧ TP call P ops p e' h' K) e h ops[i]? ∧ TP call P ops q e h K
  | .stop, _, _, _ => True

structure Strict (ops : Array Oper) (bs : List Nat) : Prop where
  edge : ∀ (j : Nat) (y : Oper), ops[j]? = some y → ∀ e ∈ y.after.toList, bindsA e = true → e.on < j
  dst : ∀ (i j : Nat) (x y : Oper) (d : Tmp), i ≠ j → ops[i]? = some x → ops[j]? = some y → x.dst = some d → y.dst ≠ some d
  use : ∀ (i j : Nat) (x y : Oper) (d : Tmp), ops[i]? = some x → ops[j]? = some y → x.dst = some d → d ∈ usesA ops y → Nat.testBit (bs.getD j 0) i = true
theorem strict_of {ops : Array Oper} {bs : List Nat} (h : strictOk ops bs = true) : Strict ops bs := by
  have h1 := allFrom_at h
  have h2 : ∀ (i j : Nat) (x y : Oper), ops[i]? = some x → ops[j]? = some y → ((Nat.beq i j || dstOk x y) && (match x.dst with | some d => !(usesA ops y).contains d || Nat.testBit (bs.getD j 0) i | none => true)) = true := by
    intro i j x y hi hj
    have h3 := h1 j y (by rw [Array.getElem?_toList]; exact hj)
    rw [Bool.and_eq_true] at h3
    have h4 := allFrom_at h3.2 i x (by rw [Array.getElem?_toList]; exact hi)
    simpa only [Nat.zero_add] using h4
  refine ⟨fun j y hj e he hb => ?_, fun i j x y d hij hi hj hx hy => ?_, fun i j x y d hi hj hx hd => ?_⟩
  · have h3 := h1 j y (by rw [Array.getElem?_toList]; exact hj)
    rw [Bool.and_eq_true, List.all_eq_true] at h3
    have h4 := h3.1 e he
    rw [hb, Nat.zero_add] at h4
    simpa using (blt_iff _ _).1 (by simpa using h4)
  · have h3 := h2 i j x y hi hj
    rw [Bool.and_eq_true, Bool.or_eq_true] at h3
    rcases h3.1 with h4 | h4
    · exact hij (Nat.eq_of_beq_eq_true h4)
    · simp only [dstOk, hx, hy] at h4
      simp at h4
  · have h3 := h2 i j x y hi hj
    rw [Bool.and_eq_true] at h3
    have h4 := h3.2
    simp only [hx] at h4
    have : (usesA ops y).contains d = true := by simpa using hd
    rw [this] at h4
    simpa using h4
theorem sub_of {ops : Array Oper} {bs : List Nat} {i : Nat} {L : List Nat} (h : subOk ops bs i L = true) {j : Nat} (hj : j < ops.size) (hb : Nat.testBit (bs.getD i 0) j = true) : j ∈ L := by
  have h1 := allFrom_at h j ops[j] (by rw [Array.getElem?_toList]; exact Array.getElem?_eq_getElem hj)
  rw [Nat.zero_add, hb] at h1
  simpa using h1
theorem allFrom_of {p : Nat → Oper → Bool} : ∀ {l : List Oper} {k : Nat}, (∀ (i : Nat) (o : Oper), l[i]? = some o → p (k + i) o = true) → allFrom p l k = true
  | [], _, _ => rfl
  | o :: os, k, h => by
    simp only [allFrom, Bool.and_eq_true]
    refine ⟨by simpa using h 0 o rfl, allFrom_of fun i x hi => ?_⟩
    have := h (i + 1) x (by simpa using hi)
    rw [show k + 1 + i = k + (i + 1) by omega]; exact this
theorem sub_mk {ops : Array Oper} {bs : List Nat} {i : Nat} {L : List Nat} (h : ∀ j, Nat.testBit (bs.getD i 0) j = true → j ∈ L) : subOk ops bs i L = true := by
  refine allFrom_of fun j o _ => ?_
  rw [Nat.zero_add]
  cases hb : Nat.testBit (bs.getD i 0) j with
  | false => rfl
  | true => simpa using h j hb

/-! ### One operation -/
section
variable {P : Program} {call : CallF} {ops : Array Oper}
def Exec1 (call : CallF) (P : Program) (ops : Array Oper) (o : Oper) (e : List AV) (h : Heap) (v : AV) (h' : Heap) : Prop :=
  (wantedA ops e o = some true ∧ opA call P e h o.op = some (.ret v h')) ∨ (wantedA ops e o = some false ∧ v = .tuple [] ∧ h' = h)
theorem stepO_some {K : List AV → Heap → Prop} {e : List AV} {h : Heap} {o : Oper} (hs : stepO call P ops K e h (some o)) : ∃ v h', Exec1 call P ops o e h v h' ∧ K (putA e o.dst v) h' := by
  unfold stepO at hs
  simp only [opsA] at hs
  split at hs
  · rename_i hw
    split at hs
    · rename_i v h' ho
      rw [W_some] at hs
      exact ⟨v, h', .inl ⟨hw, ho⟩, hs.2⟩
    · rw [W_some] at hs
      exact absurd hs.1 (by simp)
    · rw [W_none] at hs
      exact absurd hs id
  · rename_i hw
    rw [W_some] at hs
    exact ⟨_, h, .inr ⟨hw, rfl, rfl⟩, hs.2⟩
  · rw [W_none] at hs
    exact absurd hs id
theorem uses_guard {o : Oper} {j : Nat} {b : Bool} {d : Tmp} (hg : o.guard = some (j, b)) (hd : (ops[j]?).bind (·.dst) = some d) : d ∈ usesA ops o := by
  unfold usesA
  refine List.mem_append.2 (.inr ?_)
  rw [hg]
  simp only [hd]
  simp
theorem uses_tmp {o : Oper} {t : Tmp} (h : .tmp t ∈ o.op.operands.toList) : t ∈ usesA ops o := by
  unfold usesA
  refine List.mem_append.2 (.inl ?_)
  rw [List.mem_filterMap]
  exact ⟨.tmp t, h, rfl⟩
theorem wanted_congr {o : Oper} {e e' : List AV} (h : ∀ t ∈ usesA ops o, nth e t = nth e' t) : wantedA ops e o = wantedA ops e' o := by
  unfold wantedA
  split
  · rfl
  · rename_i j b hg
    split
    · rfl
    · rename_i d hd
      rw [h d (uses_guard hg hd)]
theorem opA_uses {o : Oper} {e e' : List AV} (h : ∀ t ∈ usesA ops o, nth e t = nth e' t) (hh : Heap) : opA call P e hh o.op = opA call P e' hh o.op := by
  refine opA_congr fun x hx => ?_
  cases x with
  | tmp t => exact h t (uses_tmp hx)
  | _ => rfl
theorem Exec1.congr {o : Oper} {e e' : List AV} {h h' : Heap} {v : AV} (hx : Exec1 call P ops o e h v h') (hu : ∀ t ∈ usesA ops o, nth e t = nth e' t) : Exec1 call P ops o e' h v h' := by
  unfold Exec1
  rw [← wanted_congr hu, ← opA_uses hu]
  exact hx
/-- What is quiet is the pure machine's. -/
theorem opA_quiet {e : List AV} {h : Heap} {op : Op} (hl : loudA P op = false) : opA call P e h op = toRet (aop P e h op) := by
  cases op with
  | call c =>
    obtain ⟨callee, args, ats⟩ := c
    cases callee with
    | value f => simp [loudA] at hl
    | invoke r n => simp [loudA] at hl
    | builtin b =>
      simp only [opA]
      have hb : b ≠ .panic := by rintro rfl; simp [loudA] at hl
      unfold biA
      split
      · exact absurd rfl hb
      · rfl
  | panic x => simp [loudA] at hl
  | _ => rfl
theorem Exec1.heap {o : Oper} (hl : loudA P o.op = false) {e : List AV} {h h' : Heap} {v : AV} (hx : Exec1 call P ops o e h v h') : h' = h := by
  rcases hx with ⟨_, h2⟩ | ⟨_, _, rfl⟩
  · obtain ⟨u, h3, _⟩ := quiet_same hl h2
    cases h3; rfl
  · rfl
theorem Exec1.free {o : Oper} (hl : loudA P o.op = false) (hr : readsA P o.op = false) {e : List AV} {h : Heap} {v : AV} (hx : Exec1 call P ops o e h v h) (h2 : Heap) : Exec1 call P ops o e h2 v h2 := by
  rcases hx with ⟨h1, h3⟩ | ⟨h1, h3, _⟩
  · obtain ⟨u, h4, h5⟩ := quiet_same hl h3
    cases h4
    refine .inl ⟨h1, ?_⟩
    rw [opA_quiet hl, quiet_free hl hr h5 h2]; rfl
  · exact .inr ⟨h1, h3, rfl⟩
theorem Exec1.check {o : Oper} (hl : loudA P o.op = false) {e : List AV} {h h2 : Heap} {v : AV} (hx : Exec1 call P ops o e h v h) (hc : chk1 P ops o e h2) (hd : ∀ d, o.dst = some d → nth e d = v) : Exec1 call P ops o e h2 v h2 := by
  rcases hx with ⟨h1, h3⟩ | ⟨h1, h3, _⟩
  · refine .inl ⟨h1, ?_⟩
    unfold chk1 at hc
    rw [h1] at hc
    simp only at hc
    split at hc
    · rename_i d hdd
      rw [hd d hdd] at hc
      unfold sameV at hc
      split at hc
      · rename_i u k ha
        have hb := beqV_eq _ _ hc
        subst hb
        have h4 : opA call P e h2 o.op = some (.ret u k) := by rw [opA_quiet hl, ha]; rfl
        obtain ⟨u', h5, _⟩ := quiet_same hl h4
        cases h5
        exact h4
      · cases hc
    · exact absurd hc id
  · exact .inr ⟨h1, h3, rfl⟩

theorem wp_exec1 (hF : Fns P) (hcall : CallsOk P call) {w0 : World} {Q : Exit → Act → World → Prop} {φ : List Emb} {h h' : Heap} {w : World} (hR : R P φ h w0 w) {e : List AV} {a : Act} {i : Nat} {o : Oper} (ho : ops[i]? = some o) {v : AV} (hx : Exec1 call P ops o e h v h')
    (hV : ∀ t ∈ usesA ops o, V φ (nth e t) (a.tmps.getD t undef)) {K : Act → World → Prop} (hK : ∀ (φ' : List Emb) (w' : World) (v' : Value), Up φ φ' → R P φ' h' w0 w' → V φ' v v' → K (a.put o.dst v') w') : wpOp P ops Q i K a w := by
  let env : List AV := (List.range e.length).map fun t => if t ∈ usesA ops o then nth e t else .unk
  have henv : ∀ t, nth env t = if t ∈ usesA ops o then nth e t else .unk := by
    intro t
    by_cases htl : t < e.length
    · have : env[t]? = some (if t ∈ usesA ops o then nth e t else .unk) := by simp [env, htl]
      rw [nth_list _ _ _ this]
    · rw [nth_big env t (by simp [env]; omega), nth_big e t (by omega)]
      simp
  have hVenv : ∀ t, V φ (nth env t) (a.tmps.getD t undef) := by
    intro t
    rw [henv]
    split
    · rename_i hh; exact hV t hh
    · simp [V]
  have hρ : ∀ x, V φ (evalA P env x) (a.eval x) := by
    intro x
    cases x with
    | tmp t => exact hVenv t
    | const v =>
      simp only [evalA, Act.eval]
      split
      · rename_i b hb; exact ofValue_V hb
      · simp [V]
    | global g =>
      simp only [evalA, Act.eval]
      cases hb : Nat.blt g P.globals.size with
      | true =>
        obtain ⟨n, hn⟩ := hR.glob g ((blt_iff _ _).1 hb)
        simp only [cond_true, V]
        exact ⟨_, hn, by simp⟩
      | false => simp [V]
    | func f => simp [evalA, Act.eval, V, Vs]
  have hag : ∀ t ∈ usesA ops o, nth e t = nth env t := fun t ht => by rw [henv, if_pos ht]
  have hwant : ∀ b, wantedA ops e o = some b → Region.wanted o (yielded ops a.tmps) = b := fun b hb =>
    wantedA_eq (φ := φ) hb fun j c d hg hd => hV d (uses_guard hg hd)
  unfold wpOp
  rw [ho]
  simp only
  rcases hx with ⟨h1, h2⟩ | ⟨h1, rfl, rfl⟩
  · rw [hwant true h1]
    simp only [if_true]
    left
    rw [opA_uses hag] at h2
    refine opA_wp hF hcall hR hρ h2 ?_
    intro φ' w' v' hu hR' hv
    exact hK φ' w' v' hu hR' hv
  · rw [hwant false h1]
    simp only [Bool.false_eq_true, if_false]
    exact hK φ w undef (Up.refl _) hR (undef_V φ)

theorem mask_lt (S : Strict ops (masks ops.toList [])) : ∀ (i : Nat) (o : Oper), ops[i]? = some o → ∀ j, Nat.testBit ((masks ops.toList []).getD i 0) j = true → j < i := by
  intro i
  induction i using Nat.strongRecOn with
  | _ i ih =>
    intro o ho j hj
    obtain ⟨pre, h1, h2, h3⟩ := masks_at ops.toList [] i o (by rw [Array.getElem?_toList]; exact ho)
    simp only [List.length_nil, Nat.zero_add] at h1 h2
    rw [h2] at hj
    obtain ⟨ed, hed, hb, hh⟩ := maskOf_bit hj
    have hlt := S.edge i o ho ed hed hb
    rcases hh with rfl | hh
    · exact hlt
    · rw [h3 _ (by omega)] at hh
      have hil : i < ops.size := (Array.getElem?_eq_some_iff.1 ho).1
      have ho2 : ops[ed.on]? = some ops[ed.on] := Array.getElem?_eq_getElem (by omega)
      have := ih ed.on hlt ops[ed.on] ho2 j hh
      omega

/-! ### Every order -/

/-- What is done for the abstract machine (L), against what is done indeed (listed). -/
structure St (call : CallF) (P : Program) (ops : Array Oper) (φ : List Emb) (listed : Array Bool) (a : Act) (L : List Nat) (e : List AV) (h : Heap) : Prop where
  lt : ∀ i ∈ L, i < ops.size
  sub : ∀ i, listed.getD i false = true → i ∈ L
  cl : ∀ i ∈ L, ∀ j, Nat.testBit ((masks ops.toList []).getD i 0) j = true → j ∈ L
  pend : ∀ i ∈ L, listed.getD i false = false → ∀ o, ops[i]? = some o → loudA P o.op = false ∧ ∃ v, Exec1 call P ops o e h v h ∧ ∀ d, o.dst = some d → d < e.length → nth e d = v
  val : ∀ t, (∀ j ∈ L, listed.getD j false = false → ∀ y, ops[j]? = some y → y.dst ≠ some t) → V φ (nth e t) (a.tmps.getD t undef)
  len : a.tmps.size = e.length

/-- What is quiet is done ahead. -/
theorem St.ahead (S : Strict ops (masks ops.toList [])) {φ : List Emb} {listed : Array Bool} {a : Act} {L : List Nat} {e : List AV} {h h' : Heap} (I : St call P ops φ listed a L e h) {q : Nat} {o : Oper} (ho : ops[q]? = some o) (hl : loudA P o.op = false) (hq : q ∉ L)
    (hsub : ∀ j, Nat.testBit ((masks ops.toList []).getD q 0) j = true → j ∈ L) {v : AV} (hx : Exec1 call P ops o e h v h') : h' = h ∧ St call P ops φ listed a (q :: L) (putA e o.dst v) h := by
  have hh := hx.heap hl
  subst hh
  have hql := (Array.getElem?_eq_some_iff.1 ho).1
  have huses : ∀ i ∈ q :: L, ∀ y, ops[i]? = some y → ∀ t ∈ usesA ops y, nth e t = nth (putA e o.dst v) t := by
    intro i hi y hy t ht
    rw [nth_putA, if_neg]
    rintro ⟨hd, _⟩
    have hb := S.use q i o y t ho hy hd ht
    rcases List.mem_cons.1 hi with rfl | hi
    · exact hq (hsub _ hb)
    · exact hq (I.cl i hi q hb)
  refine ⟨rfl, ?_⟩
  exact {
    lt := fun i hi => by
      rcases List.mem_cons.1 hi with rfl | hi
      · exact hql
      · exact I.lt i hi
    sub := fun i hi => List.mem_cons_of_mem _ (I.sub i hi)
    cl := fun i hi j hj => by
      rcases List.mem_cons.1 hi with rfl | hi
      · exact List.mem_cons_of_mem _ (hsub j hj)
      · exact List.mem_cons_of_mem _ (I.cl i hi j hj)
    pend := fun i hi hil y hy => by
      have hu := huses i hi y hy
      rcases List.mem_cons.1 hi with rfl | hi
      · rw [ho] at hy
        cases hy
        exact ⟨hl, v, hx.congr hu, fun d hd hdl => by rw [nth_putA, if_pos ⟨hd, by rwa [putA_length] at hdl⟩]⟩
      · obtain ⟨h1, u, h2, h3⟩ := I.pend i hi hil y hy
        refine ⟨h1, u, h2.congr hu, fun d hd hdl => ?_⟩
        rw [putA_length] at hdl
        rw [nth_putA, if_neg, h3 d hd hdl]
        rintro ⟨hd2, _⟩
        exact S.dst q i o y d (by rintro rfl; exact hq hi) ho hy hd2 hd
    val := fun t ht => by
      have hqn : listed.getD q false = false := by
        cases hc : listed.getD q false with
        | false => rfl
        | true => exact absurd (I.sub q hc) hq
      rw [nth_putA, if_neg]
      · exact I.val t fun j hj hjl y hy => ht j (List.mem_cons_of_mem _ hj) hjl y hy
      · rintro ⟨hd, _⟩
        exact ht q List.mem_cons_self hqn o ho hd
    len := by rw [putA_length]; exact I.len }

/-- The next one, wherever the plan has it. -/
theorem plan_next (S : Strict ops (masks ops.toList [])) {φ : List Emb} {listed : Array Bool} {a : Act} {h : Heap} {K : List AV → Heap → Prop} {x : Nat} {o : Oper} (ho : ops[x]? = some o) (hxd : ∀ j, Nat.testBit ((masks ops.toList []).getD x 0) j = true → listed.getD j false = true) :
    ∀ (pl : Plan) (L as : List Nat) (e : List AV), planOk P ops (masks ops.toList []) pl L as = true → TP call P ops pl e h K → x ∉ L → x ∉ as → St call P ops φ listed a L e h →
      (∃ L' e' p, x ∈ L' ∧ planOk P ops (masks ops.toList []) p L' [] = true ∧ TP call P ops p e' h K ∧ St call P ops φ listed a L' e' h) ∨
      (∃ L' e' cs p, x ∉ L' ∧ planOk P ops (masks ops.toList []) p (x :: L') [] = true ∧ (∀ s ∈ L', ∀ y, ops[s]? = some y → Nat.testBit ((masks ops.toList []).getD x 0) s = false → loudA P y.op = false → readsA P y.op = true → s ∈ cs) ∧
        stepO call P ops (fun e2 h2 => chkAll P ops cs e2 h2 ∧ TP call P ops p e2 h2 K) e' h (some o) ∧ St call P ops φ listed a L' e' h)
  | .done, L, as, e, hp, ht, hxL, hxa, I => by
    have := allFrom_at hp x o (by rw [Array.getElem?_toList]; exact ho)
    rw [Nat.zero_add] at this
    exact absurd (by simpa using this) hxL
  | .stop, L, as, e, hp, ht, hxL, hxa, I => by
    simp only [planOk, Bool.and_eq_true] at hp
    have := allFrom_at hp.2 x o (by rw [Array.getElem?_toList]; exact ho)
    rw [Nat.zero_add, sub_mk (fun j hj => I.sub j (hxd j hj))] at this
    simp only [Bool.not_true, Bool.or_false, Bool.or_eq_true, List.contains_eq_mem, decide_eq_true_eq] at this
    rcases this with h1 | h1
    · exact absurd h1 hxL
    · exact absurd h1 hxa
  | .quiet i p, L, as, e, hp, ht, hxL, hxa, I => by
    simp only [planOk, Bool.and_eq_true] at hp
    obtain ⟨⟨⟨h1, h2⟩, h3⟩, h4⟩ := hp
    simp only [TP] at ht
    cases hoi : ops[i]? with
    | none => rw [hoi] at h1; cases h1
    | some oi =>
      rw [hoi] at h1 ht
      simp only [Bool.not_eq_true'] at h1
      obtain ⟨v, h', hx, hT⟩ := stepO_some ht
      have hiL : i ∉ L := by simpa using h2
      have hsub : ∀ j, Nat.testBit ((masks ops.toList []).getD i 0) j = true → j ∈ L := fun j hj => by
        have hjl : j < ops.size := by
          have hil := (Array.getElem?_eq_some_iff.1 hoi).1
          have := mask_lt S i oi hoi j hj
          omega
        exact sub_of h3 hjl hj
      obtain ⟨rfl, I'⟩ := I.ahead S hoi h1 hiL hsub hx
      by_cases hxi : x = i
      · subst hxi
        exact .inl ⟨_, _, p, List.mem_cons_self, h4, hT, I'⟩
      · exact plan_next S ho hxd p (i :: L) [] _ h4 hT (by simp [hxi, hxL]) (by simp) I'
  | .alt i cs p q, L, as, e, hp, ht, hxL, hxa, I => by
    simp only [planOk, Bool.and_eq_true] at hp
    obtain ⟨⟨⟨⟨⟨h1, h2⟩, h3⟩, h4⟩, h5⟩, h6⟩ := hp
    simp only [TP] at ht
    by_cases hxi : x = i
    · subst hxi
      refine .inr ⟨L, e, cs, p, hxL, h5, fun s hs y hy hb hly hry => ?_, by rw [← ho]; exact ht.1, I⟩
      have := allFrom_at h4 s y (by rw [Array.getElem?_toList]; exact hy)
      rw [Nat.zero_add, hb, hly, hry] at this
      simpa [hs] using this
    · exact plan_next S ho hxd q L (i :: as) e h6 ht.2 hxL (by simp [hxi, hxa]) I

theorem closed_bit' (S : Strict ops (masks ops.toList [])) {listed : Array Bool} (hc : Closed ops listed) : ∀ (i : Nat) (o : Oper), ops[i]? = some o → (∀ e ∈ o.after.toList, bindsA e = true → listed.getD e.on false = true) → ∀ j, Nat.testBit ((masks ops.toList []).getD i 0) j = true → listed.getD j false = true := by
  intro i
  induction i using Nat.strongRecOn with
  | _ i ih =>
    intro o ho he j hj
    obtain ⟨pre, h1, h2, h3⟩ := masks_at ops.toList [] i o (by rw [Array.getElem?_toList]; exact ho)
    simp only [List.length_nil, Nat.zero_add] at h1 h2
    rw [h2] at hj
    obtain ⟨ed, hed, hb, hh⟩ := maskOf_bit hj
    have hlt := S.edge i o ho ed hed hb
    have hl := he ed hed hb
    rcases hh with rfl | hh
    · exact hl
    · rw [h3 _ (by omega)] at hh
      have hil : i < ops.size := (Array.getElem?_eq_some_iff.1 ho).1
      have ho2 : ops[ed.on]? = some ops[ed.on] := Array.getElem?_eq_getElem (by omega)
      exact ih ed.on hlt ops[ed.on] ho2 (hc ed.on _ ho2 hl) j hh
theorem put_get {e : List AV} {a : Act} (hsz : a.tmps.size = e.length) (o : Oper) (v' : Value) (t : Tmp) : (a.put o.dst v').tmps.getD t undef = if o.dst = some t ∧ t < e.length then v' else a.tmps.getD t undef := by
  cases hd : o.dst with
  | none => simp [Act.put]
  | some d =>
    simp only [Act.put, Option.some.injEq]
    by_cases hdt : d = t
    · subst hdt
      by_cases htl : d < e.length
      · simp [Array.getD_eq_getD_getElem?, hsz, htl]
      · simp [Array.getD_eq_getD_getElem?, hsz, htl]
    · simp [Array.getD_eq_getD_getElem?, Array.getElem?_setIfInBounds_ne hdt, hdt]
theorem chkAll_mem : ∀ {cs : List Nat} {e : List AV} {h : Heap}, chkAll P ops cs e h → ∀ s ∈ cs, ∀ y, ops[s]? = some y → chk1 P ops y e h
  | [], _, _, _, s, hs, _, _ => by cases hs
  | c :: cs, e, h, hc, s, hs, y, hy => by
    simp only [chkAll] at hc
    rcases List.mem_cons.1 hs with rfl | hs
    · have := hc.1
      rw [hy] at this
      exact this
    · exact chkAll_mem hc.2 s hs y hy

theorem tree_wp (hF : Fns P) (hcall : CallsOk P call) (S : Strict ops (masks ops.toList [])) {n : Nat} (hdst : ∀ (i : Nat) (o : Oper) (d : Tmp), ops[i]? = some o → o.dst = some d → d < n) {w0 : World} {Q : Exit → Act → World → Prop} {ds : List Deferred} {K : List AV → Heap → Prop} : ∀ (fuel : Nat) (listed : Array Bool) (φ : List Emb) (a : Act) (w : World) (pl : Plan) (L : List Nat) (e : List AV) (h : Heap),
    e.length = n → listed.size = ops.size → Closed ops listed → todo ops.size listed ≤ fuel → planOk P ops (masks ops.toList []) pl L [] = true → TP call P ops pl e h K → St call P ops φ listed a L e h → R P φ h w0 w → a.defers = ds →
    (∀ e' h', e'.length = n → K e' h' → Final P φ w0 ds Q (.normal, e', h')) → wpAny P .any ops Q fuel listed a w := by
  have getDs : ∀ (listed : Array Bool) (i : Nat), listed.size = ops.size → i < ops.size → listed.getD i true = listed.getD i false := by
    intro listed i hs hi
    simp [Array.getD_eq_getD_getElem?, Array.getElem?_eq_getElem (show i < listed.size by omega)]
  have allDone : ∀ (listed : Array Bool), listed.size = ops.size → Region.ready .any ops listed = [] → ∀ i, i < ops.size → listed.getD i false = true := by
    intro listed hs hr i
    induction i using Nat.strongRecOn with
    | _ i ih =>
      intro hi
      cases hl : listed.getD i false with
      | true => rfl
      | false =>
        have ho : ops[i]? = some ops[i] := Array.getElem?_eq_getElem hi
        have : i ∈ Region.ready .any ops listed := by
          rw [ready_iff]
          refine ⟨_, ho, by rw [getDs listed i hs hi]; exact hl, fun ed hed hb => ?_⟩
          have := S.edge i _ ho ed hed hb
          exact ih ed.on this (by omega)
        rw [hr] at this
        cases this
  have finish : ∀ (listed : Array Bool) (φ : List Emb) (a : Act) (w : World) (pl : Plan) (L : List Nat) (e : List AV) (h : Heap), e.length = n → (∀ i, i < ops.size → listed.getD i false = true) → planOk P ops (masks ops.toList []) pl L [] = true → TP call P ops pl e h K → St call P ops φ listed a L e h → R P φ h w0 w → a.defers = ds →
      (∀ e' h', e'.length = n → K e' h' → Final P φ w0 ds Q (.normal, e', h')) → Q .normal a w := by
    intro listed φ a w pl L e h hen hall hp ht I hR hds hK
    have hL : ∀ i, i < ops.size → i ∈ L := fun i hi => I.sub i (hall i hi)
    cases pl with
    | done =>
      simp only [TP] at ht
      refine hK e h hen ht φ w a (Up.refl _) hR ?_ hds
      refine Vs.of_get (by rw [Array.length_toList, I.len]) fun t b v hb hv => ?_
      have hgd : a.tmps.getD t undef = v := by
        rw [Array.getElem?_toList] at hv
        simp [Array.getD_eq_getD_getElem?, hv]
      have hnb := nth_list e t b hb
      rw [← hgd, ← hnb]
      refine I.val t fun j hj hjl _ _ => ?_
      rw [hall j (I.lt j hj)] at hjl
      cases hjl
    | quiet i p =>
      simp only [planOk, Bool.and_eq_true] at hp
      obtain ⟨⟨⟨h1, h2⟩, h3⟩, h4⟩ := hp
      cases hoi : ops[i]? with
      | none => rw [hoi] at h1; cases h1
      | some oi =>
        have := hL i (Array.getElem?_eq_some_iff.1 hoi).1
        simp [this] at h2
    | alt i cs p q =>
      simp only [planOk, Bool.and_eq_true] at hp
      obtain ⟨⟨⟨⟨⟨h1, h2⟩, h3⟩, h4⟩, h5⟩, h6⟩ := hp
      have := hL i ((blt_iff _ _).1 h1)
      simp [this] at h2
    | stop =>
      simp [planOk] at hp
  intro fuel
  induction fuel with
  | zero =>
    intro listed φ a w pl L e h hen hs hc htodo hp ht I hR hds hK
    have hall : ∀ i, i < ops.size → listed.getD i false = true := fun i hi => by
      rw [← getDs listed i hs hi]; exact todo_zero (Nat.le_zero.1 htodo) i hi
    refine ⟨?_, finish listed φ a w pl L e h hen hall hp ht I hR hds hK⟩
    rw [List.eq_nil_iff_forall_not_mem]
    intro i hi
    rw [ready_iff] at hi
    obtain ⟨o, ho, h1, _⟩ := hi
    have hil := (Array.getElem?_eq_some_iff.1 ho).1
    rw [getDs listed i hs hil, hall i hil] at h1
    cases h1
  | succ fuel ih =>
    intro listed φ a w pl L e h hen hs hc htodo hp ht I hR hds hK
    refine ⟨fun hr => finish listed φ a w pl L e h hen (allDone listed hs hr) hp ht I hR hds hK, ?_⟩
    intro x hx
    rw [ready_iff] at hx
    obtain ⟨o, ho, hxl, hedges⟩ := hx
    have hin := (Array.getElem?_eq_some_iff.1 ho).1
    have hxl' : listed.getD x false = false := by rw [← getDs listed x hs hin]; exact hxl
    have hbit := closed_bit' S hc x o ho hedges
    -- behind the operation
    let listed' := listed.setIfInBounds x true
    have hs' : listed'.size = ops.size := by simp [listed', hs]
    have hget : ∀ j, listed'.getD j false = if j = x then true else listed.getD j false := by
      intro j
      by_cases hj : j = x
      · subst hj; simp [listed', Array.getD_eq_getD_getElem?, hs, hin]
      · simp [listed', Array.getD_eq_getD_getElem?, Array.getElem?_setIfInBounds_ne (Ne.symm hj), hj]
    have hc' : Closed ops listed' := by
      intro j y hy hlj ed hed hb
      rw [hget] at hlj ⊢
      by_cases hj : j = x
      · subst hj
        rw [ho] at hy; cases hy
        have := hedges ed hed hb
        rw [this]; simp
      · rw [if_neg hj] at hlj
        have := hc j y hy hlj ed hed hb
        rw [this]; simp
    have htodo' : todo ops.size listed' ≤ fuel := by
      have := todo_set hin hs hxl
      show todo ops.size (listed.setIfInBounds x true) ≤ fuel
      omega
    -- what is looked at is there
    have look : ∀ (L : List Nat) (e : List AV), St call P ops φ listed a L e h → ∀ t ∈ usesA ops o, V φ (nth e t) (a.tmps.getD t undef) := by
      intro L e I t ht
      refine I.val t fun j hj hjl y hy hd => ?_
      have := hbit j (S.use j x y o t hy ho hd ht)
      rw [this] at hjl
      cases hjl
    -- what was done ahead is done
    have late : ∀ (L : List Nat) (e : List AV) (p : Plan), e.length = n → x ∈ L → planOk P ops (masks ops.toList []) p L [] = true → TP call P ops p e h K → St call P ops φ listed a L e h → wpOp P ops Q x (wpAny P .any ops Q fuel listed') a w := by
      intro L e p hen hxL hp ht I
      obtain ⟨hl, v, hx1, hd1⟩ := I.pend x hxL hxl' o ho
      refine wp_exec1 hF hcall hR ho hx1 (look L e I) ?_
      intro φ' w' v' hu hR' hv
      refine ih listed' φ' _ w' p L e h hen hs' hc' htodo' hp ht ?_ hR' (by rw [put_defers']; exact hds) (fun e' h' h1 h2 => (hK e' h' h1 h2).up hu)
      exact {
        lt := I.lt
        sub := fun i hi => by
          rw [hget] at hi
          by_cases hix : i = x
          · subst hix; exact hxL
          · rw [if_neg hix] at hi; exact I.sub i hi
        cl := I.cl
        pend := fun i hi hil y hy => by
          rw [hget] at hil
          by_cases hix : i = x
          · rw [if_pos hix] at hil; cases hil
          · rw [if_neg hix] at hil; exact I.pend i hi hil y hy
        val := fun t ht => by
          rw [put_get I.len]
          by_cases hd : o.dst = some t ∧ t < e.length
          · rw [if_pos hd, hd1 t hd.1 hd.2]; exact hv
          · rw [if_neg hd]
            refine V.up hu _ _ ?_
            by_cases htl : t < e.length
            · refine I.val t fun j hj hjl y hy hyd => ?_
              by_cases hjx : j = x
              · subst hjx
                rw [ho] at hy; cases hy
                exact hd ⟨hyd, htl⟩
              · exact ht j hj (by rw [hget, if_neg hjx]; exact hjl) y hy hyd
            · rw [nth_big e t (Nat.le_of_not_lt htl)]; simp [V]
        len := by cases hd : o.dst <;> simp [Act.put, I.len] }
    by_cases hxL : x ∈ L
    · exact late L e pl hen hxL hp ht I
    · have hlen : ∀ {L' : List Nat} {e' : List AV}, St call P ops φ listed a L' e' h → e'.length = n := fun I' => by rw [← I'.len, I.len, hen]
      rcases plan_next S ho hbit pl L [] e hp ht hxL (by simp) I with ⟨L', e', p, hxL', hp', ht', I'⟩ | ⟨L', e', cs, p, hxL', hp', hcs, hst, I'⟩
      · exact late L' e' p (hlen I') hxL' hp' ht' I'
      · obtain ⟨v, h2, hx1, hchk, hT⟩ := stepO_some hst
        refine wp_exec1 hF hcall hR ho hx1 (look L' e' I') ?_
        intro φ' w' v' hu hR' hv
        refine ih listed' φ' _ w' p (x :: L') (putA e' o.dst v) h2 (by rw [putA_length]; exact hlen I') hs' hc' htodo' hp' hT ?_ hR' (by rw [put_defers']; exact hds) (fun e' h' h1 h2 => (hK e' h' h1 h2).up hu)
        have huses : ∀ i ∈ L', ∀ y, ops[i]? = some y → ∀ t ∈ usesA ops y, nth e' t = nth (putA e' o.dst v) t := by
          intro i hi y hy t ht
          rw [nth_putA, if_neg]
          rintro ⟨hd, _⟩
          exact hxL' (I'.cl i hi x (S.use x i o y t ho hy hd ht))
        exact {
          lt := fun i hi => by
            rcases List.mem_cons.1 hi with rfl | hi
            · exact hin
            · exact I'.lt i hi
          sub := fun i hi => by
            rw [hget] at hi
            by_cases hix : i = x
            · subst hix; exact List.mem_cons_self
            · rw [if_neg hix] at hi; exact List.mem_cons_of_mem _ (I'.sub i hi)
          cl := fun i hi j hj => by
            rcases List.mem_cons.1 hi with rfl | hi
            · exact List.mem_cons_of_mem _ (I'.sub j (hbit j hj))
            · exact List.mem_cons_of_mem _ (I'.cl i hi j hj)
          pend := fun i hi hil y hy => by
            rw [hget] at hil
            by_cases hix : i = x
            · rw [if_pos hix] at hil; cases hil
            · rw [if_neg hix] at hil
              have hi : i ∈ L' := by
                rcases List.mem_cons.1 hi with h1 | h1
                · exact absurd h1 hix
                · exact h1
              obtain ⟨h1, u, h3, h4⟩ := I'.pend i hi hil y hy
              have hnd : ∀ d, y.dst = some d → d < (putA e' o.dst v).length → nth (putA e' o.dst v) d = u := fun d hd hdl => by
                rw [putA_length] at hdl
                rw [nth_putA, if_neg, h4 d hd hdl]
                rintro ⟨hd2, _⟩
                exact S.dst x i o y d (fun hh => hix hh.symm) ho hy hd2 hd
              have h5 := h3.congr (huses i hi y hy)
              have hb : Nat.testBit ((masks ops.toList []).getD x 0) i = false := by
                cases hb : Nat.testBit ((masks ops.toList []).getD x 0) i with
                | false => rfl
                | true => rw [hbit i hb] at hil; cases hil
              refine ⟨h1, u, ?_, hnd⟩
              cases hr : readsA P y.op with
              | false => exact h5.free h1 hr h2
              | true => exact h5.check h1 (chkAll_mem hchk i (hcs i hi y hy hb h1 hr) y hy) (fun d hd => hnd d hd (by rw [putA_length, hlen I']; exact hdst i y d hy hd))
          val := fun t ht => by
            rw [put_get I'.len, nth_putA]
            by_cases hd : o.dst = some t ∧ t < e'.length
            · rw [if_pos hd, if_pos hd]; exact hv
            · rw [if_neg hd, if_neg hd]
              refine V.up hu _ _ (I'.val t fun j hj hjl y hy hyd => ?_)
              have hjx : j ≠ x := by rintro rfl; exact hxL' hj
              exact ht j (List.mem_cons_of_mem _ hj) (by rw [hget, if_neg hjx]; exact hjl) y hy hyd
          len := by rw [putA_length]; cases hd : o.dst <;> simp [Act.put, I'.len] }

def dstsOk (ops : Array Oper) (n : Nat) : Bool := allFrom (fun _ o => match o.dst with | some d => Nat.blt d n | none => true) ops.toList 0
/-- A region whose orders are all looked at. -/
theorem tree_region (hF : Fns P) (hm : P.follows .mixedOrders = true) (hcall : CallsOk P call) {n : Nat} (hst : strictOk ops (masks ops.toList []) = true) (hds : dstsOk ops n = true) {pl : Plan} (hp : planOk P ops (masks ops.toList []) pl [] [] = true) {id : Nat} {w0 : World} {Q : Exit → Act → World → Prop} {φ : List Emb} {e : List AV} {h : Heap} {w : World} {a : Act} {K : List AV → Heap → Prop}
    (hR : R P φ h w0 w) (he : Vs φ e a.tmps.toList) (hen : e.length = n) (ht : TP call P ops pl e h K) (hK : ∀ e' h', e'.length = n → K e' h' → Final P φ w0 a.defers Q (.normal, e', h')) : (Code.region id ops true).wp P Q a w := by
  have S := strict_of hst
  refine wp_region_any hm ?_
  have hfalse : ∀ i, (Array.replicate ops.size false).getD i false = false := by
    intro i
    simp [Array.getD_eq_getD_getElem?, Array.getElem?_replicate]
    split <;> rfl
  refine tree_wp hF hcall S (n := n) (fun i o d ho hd => ?_) ops.size _ φ a _ pl [] e h hen (by simp) ?_ ?_ hp ht ?_ (hR.drew rfl rfl rfl rfl) rfl hK
  · have := allFrom_at hds i o (by rw [Array.getElem?_toList]; exact ho)
    rw [hd] at this
    exact (blt_iff _ _).1 this
  · intro i o ho hl; rw [hfalse] at hl; cases hl
  · unfold todo
    refine Nat.le_trans (List.countP_le_length) (by simp)
  · exact {
      lt := by simp
      sub := fun i hi => by rw [hfalse] at hi; cases hi
      cl := by simp
      pend := by simp
      val := fun t _ => by
        have := nth_V he t
        simpa [Array.getD_eq_getD_getElem?, List.getD_eq_getElem?_getD] using this
      len := by rw [← Array.length_toList, he.length] }
end
end Go.Am
