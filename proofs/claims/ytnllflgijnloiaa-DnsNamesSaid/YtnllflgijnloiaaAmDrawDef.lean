/- Regions that draw their order: which may be run in the text's order. -/
import Derived.Test.YtnllflgijnloiaaAmRun
namespace Go.Am
open Go.RowKit

/-- Does it write or make memory (or may it)? -/
def loudA (P : Program) : Op → Bool
  | .move _ | .assign _ | .pick .. | .build .. | .load .. | .nilCheck _ | .binOp .. | .unOp .. | .makeInterface .. | .makeFunc .. | .slice .. | .fieldAddr .. | .field .. | .indexAddr .. | .index .. | .typeAssert .. | .extract .. => false
  | .convert _ dst _ => (match P.underlying dst with | some (.slice _) => true | _ => false)
  | .call c => (match c.callee with | .builtin .len | .builtin .max | .builtin .min => false | _ => true)
  | _ => true

/-- Does its answer hang on memory? (Of those that are not loud.) -/
def readsA (P : Program) : Op → Bool
  | .load .. => true
  | .binOp _ t _ _ _ => (match P.underlying t with | some (.pointer _) => true | _ => false)
  | .convert src _ _ => (match P.underlying src with | some (.slice _) => true | some (.pointer _) => true | _ => false)
  | .call c => (match c.callee, c.argTypes.toList with | .builtin .len, [t] => (match P.underlying t with | some (.map _ _) => true | _ => false) | _, _ => false)
  | _ => false

def bindsA (e : Edge) : Bool := Region.binds .any e

def maskOf (bs : List Nat) : List Edge → Nat
  | [] => 0
  | e :: es => bif bindsA e then (1 <<< e.on) ||| bs.getD e.on 0 ||| maskOf bs es else maskOf bs es

def masks : List Oper → List Nat → List Nat
  | [], acc => acc
  | o :: os, acc => masks os (acc ++ [maskOf acc o.after.toList])

def usesA (ops : Array Oper) (o : Oper) : List Tmp :=
  (o.op.operands.toList.filterMap fun | .tmp t => some t | _ => none) ++
  (match o.guard with
   | some (g, _) => ((ops[g]?).bind (·.dst)).toList
   | none => [])

/-- Of the operations i and j, i ahead of j in the text: may nothing be said of their order? Then they must not touch. -/
def pairOk (P : Program) (ops : Array Oper) (x y : Oper) (before : Bool) : Bool :=
  before ||
  (!(loudA P x.op && loudA P y.op) &&
   (match x.dst with | some d => !(usesA ops y).contains d | none => true) &&
   (match y.dst with | some d => !(usesA ops x).contains d | none => true))

def dstOk (x y : Oper) : Bool :=
  match x.dst, y.dst with
  | some c, some d => !Nat.beq c d
  | _, _ => true

def allFrom (p : Nat → Oper → Bool) : List Oper → Nat → Bool
  | [], _ => true
  | o :: os, i => p i o && allFrom p os (i + 1)

def drawStatic (P : Program) (ops : Array Oper) (bs : List Nat) : Bool :=
  allFrom (fun j y =>
    (y.after.toList.all fun e => !bindsA e || Nat.blt e.on j) &&
    allFrom (fun i x => !Nat.blt i j || (dstOk x y && pairOk P ops x y (Nat.testBit (bs.getD j 0) i))) ops.toList 0) ops.toList 0

/-- Which operations are loud; behind them the end. -/
def louds (P : Program) : List Oper → Nat → List Nat
  | [], i => [i]
  | o :: os, i => bif loudA P o.op then i :: louds P os (i + 1) else louds P os (i + 1)

/-- May operation i be done when p is the first loud one that is still to be done? -/
def mayAt (bs : List Nat) (i p : Nat) : List Nat → Bool
  | [] => !Nat.testBit (bs.getD i 0) p
  | q :: qs => (bif Nat.blt q p then !Nat.testBit (bs.getD q 0) i else true) && mayAt bs i p qs

mutual
def beqV : AV → AV → Bool
  | .unk, .unk => true
  | .bool a, .bool b => a == b
  | .int k a, .int k' b => decide (k = k') && decide (a = b)
  | .str a, .str b => decide (a = b)
  | .ptr none, .ptr none => true
  | .ptr (some a), .ptr (some b) => Nat.beq a.id b.id && Nat.beq a.off b.off
  | .slice none n c, .slice none m d => Nat.beq n m && beqCap c d
  | .slice (some a) n c, .slice (some b) m d => Nat.beq a.id b.id && Nat.beq a.off b.off && Nat.beq n m && beqCap c d
  | .map none, .map none => true
  | .map (some a), .map (some b) => Nat.beq a b
  | .chan none, .chan none => true
  | .chan (some a), .chan (some b) => Nat.beq a b
  | .func f a b, .func g c d => decide (f = g) && beqVs a c && beqVs b d
  | .nilFunc, .nilFunc => true
  | .iface t a, .iface u b => Nat.beq t u && beqV a b
  | .nilIface, .nilIface => true
  | .agg a, .agg b => beqVs a b
  | .tuple a, .tuple b => beqVs a b
  | _, _ => false
def beqVs : List AV → List AV → Bool
  | [], [] => true
  | a :: as, b :: bs => beqV a b && beqVs as bs
  | _, _ => false
def beqCap : Cap → Cap → Bool
  | .exact a, .exact b => Nat.beq a b
  | .tip a, .tip b => Nat.beq a b
  | .dim, .dim => true
  | _, _ => false
end

structure TR where
  env : List AV
  heap : Heap
  val : AV
  on : Bool

def traceA (call : CallF) (P : Program) (ops : Array Oper) : List Oper → List AV → Heap → Option (List TR)
  | [], e, h => some [⟨e, h, .unk, false⟩]
  | o :: rest, e, h =>
    match wantedA ops e o with
    | some true =>
      (match opA call P e h o.op with
      | some (.ret v h') => (match traceA call P ops rest (putA e o.dst v) h' with | some tr => some (⟨e, h, v, true⟩ :: tr) | none => none)
      | _ => none)
    | some false => (match traceA call P ops rest (putA e o.dst (.tuple [])) h with | some tr => some (⟨e, h, .tuple [], false⟩ :: tr) | none => none)
    | none => none

/-- A reading answers alike wherever it may be done. -/
def sameAt (P : Program) (bs ls : List Nat) (full : List TR) (i : Nat) (o : Oper) (x : TR) : List Nat → Bool
  | [] => true
  | p :: ps =>
    (bif mayAt bs i p ls then
      (match full[p]? with
       | some y => (match aop P x.env y.heap o.op with | some (v, _) => beqV v x.val | none => false)
       | none => false)
     else true) && sameAt P bs ls full i o x ps

def dynAll (P : Program) (bs ls : List Nat) (full : List TR) : List Oper → List TR → Nat → Bool
  | o :: os, x :: xs, i => (bif x.on && readsA P o.op && !loudA P o.op then sameAt P bs ls full i o x ls else true) && dynAll P bs ls full os xs (i + 1)
  | _, _, _ => true

/-- Is there a reading that is done at different times? -/
def only (bs ls : List Nat) (i : Nat) : List Nat → Bool
  | [] => true
  | p :: ps => (!mayAt bs i p ls || (Nat.blt i p && ls.all fun q => !(Nat.blt i q && Nat.blt q p))) && only bs ls i ps
def needNot (P : Program) (bs ls : List Nat) : List Oper → Nat → Bool
  | [], _ => true
  | o :: os, i => (bif readsA P o.op && !loudA P o.op then only bs ls i ls else true) && needNot P bs ls os (i + 1)

def dynOk (call : CallF) (P : Program) (ops : Array Oper) (e : List AV) (h : Heap) : Bool :=
  match traceA call P ops ops.toList e h with
  | some tr => dynAll P (masks ops.toList []) (louds P ops.toList 0) tr ops.toList tr 0
  | none => false

def drawA (P : Program) : DrawF := fun call ops e h =>
  bif drawStatic P ops (masks ops.toList []) then
    (match opsA call P ops ops.toList e h with
    | some (.normal, e', h') => bif needNot P (masks ops.toList []) (louds P ops.toList 0) ops.toList 0 || dynOk call P ops e h then some (.normal, e', h') else none
    | _ => none)
  else none
end Go.Am
