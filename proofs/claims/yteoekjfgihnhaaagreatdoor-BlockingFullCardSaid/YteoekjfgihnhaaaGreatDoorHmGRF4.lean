/- The abstract machine's operations that touch no memory, each with what the model does. -/
import Derived.Test.YteoekjfgihnhaaaGreatDoorHmGRF2
import Derived.Laws.Entries
import Derived.DeepKeys
set_option linter.all false
noncomputable section
namespace Go.Am
open Go.RowKit

/-! ### Closed values -/

def ofScalar : Value → Option AV
  | .bool b => some (.bool b)
  | .int k n => some (.int k n)
  | .string s => some (.str s.data.toList)
  | .pointer none => some (.ptr none)
  | .slice none n c => bif Nat.beq n 0 && Nat.beq c 0 then some (.slice none 0 (.exact 0)) else none
  | .map none => some (.map none)
  | .chan none => some (.chan none)
  | .nilFunc => some .nilFunc
  | .nilIface => some .nilIface
  | _ => none

def ofScalars : List Value → Option (List AV)
  | [] => some []
  | v :: vs => match ofScalar v, ofScalars vs with
    | some a, some as => some (a :: as)
    | _, _ => none

def ofValue : Value → Option AV
  | .agg cs => (ofScalars cs.toList).map .agg
  | .iface t v => (ofScalar v).map (.iface t)
  | .func fn a b => if a.size = 0 ∧ b.size = 0 then some (.func fn [] []) else none
  | v => ofScalar v

theorem ofScalar_V {φ : List Emb} {v : Value} {a : AV} (h : ofScalar v = some a) : V φ a v := by
  cases v with
  | slice l n c =>
    cases l with
    | none =>
      simp only [ofScalar, beq1, ← Bool.decide_and] at h
      by_cases hz : n = 0 ∧ c = 0
      · obtain ⟨rfl, rfl⟩ := hz; simp at h; subst h; simp [V]
      · simp [hz] at h
    | some l => simp [ofScalar] at h
  | pointer l => cases l <;> simp [ofScalar] at h <;> subst h <;> simp [V]
  | map l => cases l <;> simp [ofScalar] at h <;> subst h <;> simp [V]
  | chan l => cases l <;> simp [ofScalar] at h <;> subst h <;> simp [V]
  | _ => simp [ofScalar] at h <;> subst h <;> simp [V]

theorem ofScalars_V {φ : List Emb} : ∀ {vs : List Value} {as : List AV}, ofScalars vs = some as → Vs φ as vs
  | [], as, h => by simp [ofScalars] at h; subst h; simp [Vs]
  | v :: vs, as, h => by
    simp only [ofScalars] at h
    split at h
    · rename_i a as' h1 h2
      cases h
      rw [Vs_cons]
      exact ⟨ofScalar_V h1, ofScalars_V h2⟩
    · cases h

theorem ofValue_V {φ : List Emb} {v : Value} {a : AV} (h : ofValue v = some a) : V φ a v := by
  cases v with
  | agg cs =>
    simp only [ofValue, Option.map_eq_some_iff] at h
    obtain ⟨as, h1, rfl⟩ := h
    simp only [V]
    exact ⟨cs, rfl, ofScalars_V h1⟩
  | iface t x =>
    simp only [ofValue, Option.map_eq_some_iff] at h
    obtain ⟨y, h1, rfl⟩ := h
    simp only [V]
    exact ⟨x, rfl, ofScalar_V h1⟩
  | func fn x y =>
    simp only [ofValue] at h
    split at h
    · rename_i hs
      cases h
      simp only [V]
      exact ⟨x, y, rfl, by rw [Array.eq_empty_of_size_eq_zero hs.1]; simp [Vs], by rw [Array.eq_empty_of_size_eq_zero hs.2]; simp [Vs]⟩
    · cases h
  | _ => exact ofScalar_V h

/-! ### Frames -/

def nth : List AV → Nat → AV
  | [], _ => .unk
  | x :: _, 0 => x
  | _ :: xs, n + 1 => nth xs n

theorem nth_V {φ : List Emb} : ∀ {env : List AV} {vs : List Value} (_ : Vs φ env vs) (t : Nat), V φ (nth env t) (vs.getD t undef)
  | [], vs, h, t => by simp [nth, V]
  | a :: env, vs, h, 0 => by
    simp only [Vs] at h
    obtain ⟨y, ys, rfl, h1, _⟩ := h
    simpa [nth] using h1
  | a :: env, vs, h, t + 1 => by
    simp only [Vs] at h
    obtain ⟨y, ys, rfl, _, h2⟩ := h
    simpa [nth] using nth_V h2 t

def evalA (P : Program) (env : List AV) : Operand → AV
  | .tmp t => nth env t
  | .const v => match ofValue v with | some a => a | none => .unk
  | .global g => bif Nat.blt g P.globals.size then .ptr (some ⟨g, 0⟩) else .unk
  | .func f => .func (.func f) [] []

theorem evalA_V {P : Program} {φ : List Emb} {h : Heap} {w0 w : World} (hR : R P φ h w0 w) {env : List AV} {a : Act} (he : Vs φ env a.tmps.toList) (x : Operand) : V φ (evalA P env x) (a.eval x) := by
  cases x with
  | tmp t =>
    have := nth_V he t
    simpa [evalA, Act.eval, Array.getD_eq_getD_getElem?, List.getD_eq_getElem?_getD] using this
  | const v =>
    simp only [evalA, Act.eval]
    split
    · rename_i a h; exact ofValue_V h
    · simp [V]
  | global g =>
    simp only [evalA, Act.eval]
    cases hb : Nat.blt g P.globals.size with
    | true =>
      simp [Nat.blt] at hb
      obtain ⟨n, hn⟩ := hR.glob g (by omega)
      simp only [cond_true, V]
      exact ⟨_, hn, by simp⟩
    | false => simp [V]
  | func f => simp [evalA, Act.eval, V, Vs]

/-! ### Types -/

def sizeA (P : Program) (t : TypeId) : Option Nat := match P.info? t with | some i => some i.size | none => none
def aggA (P : Program) (t : TypeId) : Option Bool :=
  match P.underlying t with
  | some (.struct _) | some (.array _ _) => some true
  | some _ => some false
  | none => none
def zeroA (P : Program) (t : TypeId) : Option AV := match P.info? t with | some i => (match i.zero with | some z => ofValue z | none => none) | none => none

theorem run_sizeA {P : Program} {t : TypeId} {n : Nat} (h : sizeA P t = some n) (w : World) : (sizeOf t).run P w = .ok n w := by
  unfold sizeA at h
  split at h
  · rename_i i hi; cases h; simp [sizeOf, typeInfo, hi]
  · cases h
theorem run_aggA {P : Program} {t : TypeId} {b : Bool} (h : aggA P t = some b) (w : World) : (isAgg t).run P w = .ok b w := by
  unfold aggA at h
  unfold isAgg
  cases hu : P.underlying t with
  | none => simp [hu] at h
  | some d => cases d <;> simp [hu] at h <;> subst h <;> simp [run_underlying hu]
theorem run_zeroA {P : Program} {t : TypeId} {a : AV} (h : zeroA P t = some a) (w : World) : ∃ z, (zeroValue t).run P w = .ok z w ∧ (∀ φ, V φ a z) := by
  unfold zeroA at h
  split at h
  · rename_i i hi
    split at h
    · rename_i z hz
      exact ⟨z, by simp [zeroValue, typeInfo, hi, hz], fun φ => ofValue_V h⟩
    · cases h
  · cases h

/-- An abstract value's cells. -/
def cellsA : AV → Option (List AV)
  | .agg cs => some cs
  | .unk => none
  | .tuple _ => none
  | v => some [v]
theorem cellsA_V {φ : List Emb} {a : AV} {cs : List AV} {v : Value} (hc : cellsA a = some cs) (hv : V φ a v) : Vs φ cs v.cells.toList := by
  cases a with
  | agg xs =>
    simp only [cellsA, Option.some.injEq] at hc
    subst hc
    simp only [V] at hv
    obtain ⟨x, rfl, h⟩ := hv
    simpa [Value.cells] using h
  | unk => simp [cellsA] at hc
  | tuple _ => simp [cellsA] at hc
  | ptr l => cases l with
    | none => simp only [cellsA, Option.some.injEq] at hc; subst hc; have h2 := hv; simp only [V] at hv; subst hv; simpa [Value.cells, Vs_cons, Vs_nil] using h2
    | some l => simp only [cellsA, Option.some.injEq] at hc; subst hc; have h2 := hv; simp only [V] at hv; obtain ⟨e, he, rfl⟩ := hv; simpa [Value.cells, Vs_cons, Vs_nil] using h2
  | slice l n c => cases l with
    | none => simp only [cellsA, Option.some.injEq] at hc; subst hc; have h2 := hv; simp only [V] at hv; obtain ⟨_, rfl, _⟩ := hv; simpa [Value.cells, Vs_cons, Vs_nil] using h2
    | some l => simp only [cellsA, Option.some.injEq] at hc; subst hc; have h2 := hv; simp only [V] at hv; obtain ⟨e, cap, ad, _, rfl, _⟩ := hv; simpa [Value.cells, Vs_cons, Vs_nil] using h2
  | map l => cases l with
    | none => simp only [cellsA, Option.some.injEq] at hc; subst hc; have h2 := hv; simp only [V] at hv; subst hv; simpa [Value.cells, Vs_cons, Vs_nil] using h2
    | some l => simp only [cellsA, Option.some.injEq] at hc; subst hc; have h2 := hv; simp only [V] at hv; obtain ⟨e, he, rfl⟩ := hv; simpa [Value.cells, Vs_cons, Vs_nil] using h2
  | chan l => cases l with
    | none => simp only [cellsA, Option.some.injEq] at hc; subst hc; have h2 := hv; simp only [V] at hv; subst hv; simpa [Value.cells, Vs_cons, Vs_nil] using h2
    | some l => simp only [cellsA, Option.some.injEq] at hc; subst hc; have h2 := hv; simp only [V] at hv; obtain ⟨e, he, rfl⟩ := hv; simpa [Value.cells, Vs_cons, Vs_nil] using h2
  | func fn x y => simp only [cellsA, Option.some.injEq] at hc; subst hc; have h2 := hv; simp only [V] at hv; obtain ⟨_, _, rfl, _⟩ := hv; simpa [Value.cells, Vs_cons, Vs_nil] using h2
  | iface t x => simp only [cellsA, Option.some.injEq] at hc; subst hc; have h2 := hv; simp only [V] at hv; obtain ⟨_, rfl, _⟩ := hv; simpa [Value.cells, Vs_cons, Vs_nil] using h2
  | yield k => simp only [cellsA, Option.some.injEq] at hc; subst hc; have h2 := hv; simp only [V] at hv; obtain ⟨e, he, rfl⟩ := hv; simpa [Value.cells, Vs_cons, Vs_nil] using h2
  | _ => simp only [cellsA, Option.some.injEq] at hc; subst hc; have h2 := hv; simp only [V] at hv; subst hv; simpa [Value.cells, Vs_cons, Vs_nil] using h2

/-- May a cell hold it? -/
def cellOk : AV → Bool
  | .agg _ | .tuple _ | .unk => false
  | _ => true
def cellsOk : List AV → Bool
  | [] => true
  | a :: as => cellOk a && cellsOk as
theorem cellOk_one {φ : List Emb} {a : AV} {v : Value} (hc : cellOk a = true) (hv : V φ a v) : v.oneCell' = true := by
  cases a with
  | agg _ => simp [cellOk] at hc
  | tuple _ => simp [cellOk] at hc
  | unk => simp [cellOk] at hc
  | ptr l => cases l <;> simp only [V] at hv <;> first | (subst hv; rfl) | (obtain ⟨e, he, rfl⟩ := hv; rfl)
  | slice l n c => cases l <;> simp only [V] at hv <;> first | (obtain ⟨_, rfl, _⟩ := hv; rfl) | (obtain ⟨e, cap, ad, _, rfl, _⟩ := hv; rfl)
  | map l => cases l <;> simp only [V] at hv <;> first | (subst hv; rfl) | (obtain ⟨e, he, rfl⟩ := hv; rfl)
  | chan l => cases l <;> simp only [V] at hv <;> first | (subst hv; rfl) | (obtain ⟨e, he, rfl⟩ := hv; rfl)
  | func fn x y => simp only [V] at hv; obtain ⟨_, _, rfl, _⟩ := hv; rfl
  | iface t x => simp only [V] at hv; obtain ⟨_, rfl, _⟩ := hv; rfl
  | yield k => simp only [V] at hv; obtain ⟨e, he, rfl⟩ := hv; rfl
  | _ => simp only [V] at hv; subst hv; rfl
theorem cellsOk_one {φ : List Emb} : ∀ {as : List AV} {vs : List Value}, cellsOk as = true → Vs φ as vs → ∀ v ∈ vs, v.oneCell' = true
  | [], _, _, h => by simp [Vs] at h; subst h; simp
  | a :: as, _, hc, h => by
    simp only [Vs] at h
    obtain ⟨y, ys, rfl, h1, h2⟩ := h
    simp only [cellsOk, Bool.and_eq_true] at hc
    intro v hv
    rcases List.mem_cons.1 hv with rfl | hv
    · exact cellOk_one hc.1 h1
    · exact cellsOk_one hc.2 h2 v hv

/-! ### Operators -/

def intA (op : BinOp) (k : IntKind) (a b : Int) : Option AV :=
  match op with
  | .add => some (.int k (k.wrap (a + b)))
  | .sub => some (.int k (k.wrap (a - b)))
  | .mul => some (.int k (k.wrap (a * b)))
  | .quo => if b = 0 then none else some (.int k (k.wrap (a.tdiv b)))
  | .rem => if b = 0 then none else some (.int k (a.tmod b))
  | .and => some (.int k (k.wrap (BitVec.ofInt k.bits a &&& BitVec.ofInt k.bits b).toNat))
  | .or => some (.int k (k.wrap (BitVec.ofInt k.bits a ||| BitVec.ofInt k.bits b).toNat))
  | .xor => some (.int k (k.wrap (BitVec.ofInt k.bits a ^^^ BitVec.ofInt k.bits b).toNat))
  | .andNot => some (.int k (k.wrap (BitVec.ofInt k.bits a &&& ~~~(BitVec.ofInt k.bits b)).toNat))
  | .eql => some (.bool (a == b))
  | .neq => some (.bool (a != b))
  | .lss => some (.bool (decide (a < b)))
  | .leq => some (.bool (decide (a ≤ b)))
  | .gtr => some (.bool (decide (a > b)))
  | .geq => some (.bool (decide (a ≥ b)))
  | .shl => none
  | .shr => none

def shiftA (op : BinOp) (k : IntKind) (a b : Int) : Option AV :=
  if b < 0 then none else
  match op with
  | .shl => some (.int k (k.wrap (a * 2 ^ (min b.toNat k.bits))))
  | .shr => some (.int k (a.fdiv (2 ^ (min b.toNat k.bits))))
  | _ => none

def strA (op : BinOp) (a b : List UInt8) : Option AV :=
  match op with
  | .add => if ((a.length + b.length : Nat) : Int) > IntKind.i64.max then none else some (.str (a ++ b))
  | .eql => some (.bool (a == b))
  | .neq => some (.bool !(a == b))
  | .lss => some (.bool (Op.bytesLess a b))
  | .leq => some (.bool (Op.bytesLess a b || a == b))
  | .gtr => some (.bool !(Op.bytesLess a b || a == b))
  | .geq => some (.bool !(Op.bytesLess a b))
  | _ => none

/-- Is the operand the literal nil? -/
def isConst : Operand → Bool
  | .const _ => true
  | _ => false

def livePtr (h : Heap) (l : Loc) : Bool :=
  match h.get l.id with
  | some (.cells _ (.own _)) => true
  | some (.cells _ (.var _)) => true
  | _ => false

/-- One pointer within two interface values of one type. -/
def samePtrA (P : Program) (t1 : TypeId) (a : Loc) (t2 : TypeId) (b : Loc) : Option Bool :=
  match P.underlying t1, P.info? t1 with
  | some (.pointer e), some i =>
    match sizeA P e with
    | some (_ + 1) => bif i.comparable && Nat.beq t1 t2 && Nat.beq a.id b.id && Nat.beq a.off b.off then some true else none
    | _ => none
  | _, _ => none
/-- Equality at a type, of what the machine knows. -/
def eqA (P : Program) (h : Heap) (t : TypeId) (x y : AV) : Option Bool :=
  match P.underlying t, x, y with
  | some .bool, .bool a, .bool b => some (a == b)
  | some (.int _), .int k a, .int k' b => if k = k' then some (a == b) else none
  | some .string, .str a, .str b => some (a == b)
  | some (.pointer _), .ptr none, .ptr b => some b.isNone
  | some (.pointer _), .ptr _, .ptr none => some false
  | some (.pointer e), .ptr (some a), .ptr (some b) =>
    match sizeA P e with
    | some (_ + 1) => if livePtr h a && livePtr h b then some (Nat.beq a.id b.id && Nat.beq a.off b.off) else none
    | _ => none
  | some (.interface _), .nilIface, .nilIface => some true
  | some (.interface _), .nilIface, .iface _ _ => some false
  | some (.interface _), .iface _ _, .nilIface => some false
  | some (.interface _), .iface t1 (.ptr (some a)), .iface t2 (.ptr (some b)) => samePtrA P t1 a t2 b
  | some (.slice _), .slice none _ _, .slice b _ _ => some b.isNone
  | some (.slice _), .slice _ _ _, .slice none _ _ => some false
  | some (.map _ _), .map none, .map b => some b.isNone
  | some (.map _ _), .map _, .map none => some false
  | some (.func _ _ _), .nilFunc, .nilFunc => some true
  | some (.func _ _ _), .nilFunc, .func _ _ _ => some false
  | some (.func _ _ _), .func _ _ _, .nilFunc => some false
  | _, _, _ => none

/-- A flag, a number, a string. -/
def scalarV : AV → Option Value
  | .bool b => some (.bool b)
  | .int k n => some (.int k n)
  | .str s => some (.string ⟨s.toArray⟩)
  | _ => none
def scalarVs : List AV → Option (List Value)
  | [] => some []
  | a :: as => match scalarV a, scalarVs as with
    | some v, some vs => some (v :: vs)
    | _, _ => none
def litEq : Lit → Lit → Bool
  | .bool a, .bool b => a == b
  | .int k n, .int k' m => decide (k = k') && decide (n = m)
  | .string a, .string b => a == b
  | _, _ => false
def litsEq : List Lit → List Lit → Option Bool
  | [], [] => some true
  | a :: as, b :: bs => match litOk a, litsEq as bs with
    | true, some r => some (litEq a b && r)
    | _, _ => none
  | [], _ :: _ => some false
  | _ :: _, [] => some false
where litOk : Lit → Bool
  | .bool _ | .int _ _ | .string _ => true
  | _ => false
theorem litEq_iff {a b : Lit} (h : litsEq.litOk a = true) : litEq a b = true ↔ a = b := by
  cases a <;> cases b <;> simp_all [litEq, litsEq.litOk]
theorem litsEq_iff : ∀ {as bs : List Lit} {r : Bool}, litsEq as bs = some r → (r = true ↔ as = bs)
  | [], [], r, h => by simp only [litsEq, Option.some.injEq] at h; simp [← h]
  | a :: as, b :: bs, r, h => by
    simp only [litsEq] at h
    split at h
    · rename_i r' h1 h2
      cases h
      have ih := litsEq_iff h2
      rw [Bool.and_eq_true, litEq_iff h1, ih, List.cons.injEq]
    · cases h
  | [], _ :: _, r, h => by simp only [litsEq, Option.some.injEq] at h; simp [← h]
  | _ :: _, [], r, h => by simp only [litsEq, Option.some.injEq] at h; simp [← h]
/-- Equality of arrays and structs of flags, numbers and strings. -/
def eqAggA (P : Program) (t : TypeId) (xs ys : List AV) : Option Bool :=
  match scalarVs xs, scalarVs ys with
  | some us, some vs =>
    bif P.keyTypeAt 100 t && !(P.eqGuardType P.depth t) && (Value.agg us.toArray).formed P t && (Value.agg vs.toArray).formed P t then
      match P.keyLits 100 t us, P.keyLits 100 t vs with
      | some la, some lb => litsEq la lb
      | _, _ => none
    else none
  | _, _ => none
theorem scalarV_V {φ : List Emb} {a : AV} {v u : Value} (h : scalarV a = some v) (hu : V φ a u) : u = v := by
  cases a <;> simp only [scalarV] at h <;> first | (cases h; done) | skip
  all_goals (cases h; simpa only [V] using hu)
theorem scalarVs_V {φ : List Emb} : ∀ {as : List AV} {vs us : List Value}, scalarVs as = some vs → Vs φ as us → us = vs
  | [], vs, us, h, hu => by simp only [scalarVs, Option.some.injEq] at h; subst h; simpa only [Vs] using hu
  | a :: as, vs, us, h, hu => by
    simp only [scalarVs] at h
    split at h
    · rename_i v vs' h1 h2
      cases h
      simp only [Vs] at hu
      obtain ⟨y, ys, rfl, h3, h4⟩ := hu
      rw [scalarV_V h1 h3, scalarVs_V h2 h4]
    · cases h
theorem eqAggA_run {P : Program} {w : World} {φ : List Emb} {t : TypeId} {xs ys : List AV} {b : Bool} (h : eqAggA P t xs ys = some b) {X Y : Array Value} (hx : Vs φ xs X.toList) (hy : Vs φ ys Y.toList) :
    P.eqGuardType P.depth t = false ∧ (Op.equalIn 10000 t (.agg X) (.agg Y)).run P w = .ok b w := by
  unfold eqAggA at h
  split at h
  · rename_i us vs h1 h2
    have hX : X = us.toArray := by rw [← scalarVs_V h1 hx]
    have hY : Y = vs.toArray := by rw [← scalarVs_V h2 hy]
    cases hc : (P.keyTypeAt 100 t && !(P.eqGuardType P.depth t) && (Value.agg us.toArray).formed P t && (Value.agg vs.toArray).formed P t) with
    | false => rw [hc] at h; cases h
    | true =>
      rw [hc, cond_true] at h
      simp only [Bool.and_eq_true, Bool.not_eq_true'] at hc
      obtain ⟨⟨⟨c1, c2⟩, c3⟩, c4⟩ := hc
      split at h
      · rename_i la lb h3 h4
        have hli := litsEq_iff h
        subst hX hY
        refine ⟨c2, ?_⟩
        obtain ⟨r, hr, hiff⟩ := run_equalIn_deep 9900 100 t c1 w 100 100 (.agg us.toArray) (.agg vs.toArray) la lb c3 c4 (by simpa [Value.cells] using h3) (by simpa [Value.cells] using h4)
        rw [show 10000 = 9900 + 100 from rfl, hr]
        congr 1
        rw [Bool.eq_iff_iff, hiff, hli]
      · cases h
  · cases h

def binA (P : Program) (h : Heap) (op : BinOp) (t : TypeId) (xo yo : Operand) (x y : AV) : Option AV :=
  match x, y with
  | .int k a, .int k' b =>
    match op with
    | .shl | .shr => shiftA op k a b
    | _ => if k = k' then intA op k a b else none
  | .str a, .str b => strA op a b
  | .nilIface, .nilIface => if isConst xo || isConst yo then (match op with | .eql => (eqA P h t x y).map .bool | .neq => (eqA P h t x y).map fun b => .bool !b | _ => none) else none
  | .agg xs, .agg ys =>
    match op with
    | .eql => (eqAggA P t xs ys).map .bool
    | .neq => (eqAggA P t xs ys).map fun b => .bool !b
    | _ => none
  | .agg _, _ => none
  | _, _ =>
    match op with
    | .eql => (eqA P h t x y).map .bool
    | .neq => (eqA P h t x y).map fun b => .bool !b
    | _ => none

def unA (op : UnOp) (x : AV) : Option AV :=
  match op, x with
  | .neg, .int k n => some (.int k (k.wrap (0 - n)))
  | .xor, .int k n => some (.int k (k.wrap (BitVec.ofInt k.bits (if k.signed then -1 else k.max) ^^^ BitVec.ofInt k.bits n).toNat))
  | .not, .bool b => some (.bool !b)
  | _, _ => none
end Go.Am
