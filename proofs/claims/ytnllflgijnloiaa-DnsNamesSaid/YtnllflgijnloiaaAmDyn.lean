/- Laws for the look at drawing regions' readings. -/
import Derived.Test.YtnllflgijnloiaaAmWp
namespace Go.Am
open Go.RowKit

section
variable {call : CallF} {P : Program} {ops : Array Oper} {dst : Option Tmp} {op : Op} {ty : TypeId} {pos : String} {after : Array Edge} {rest : List Oper} {e : List AV} {h : Heap}

def tcons (x : TR) : Option (List TR) → Option (List TR)
  | some tr => some (x :: tr)
  | none => none
theorem tcons_some {x : TR} {tr : List TR} : tcons x (some tr) = some (x :: tr) := rfl
def tstep (call : CallF) (P : Program) (ops : Array Oper) (rest : List Oper) (dst : Option Tmp) (e : List AV) (h : Heap) : Option CRes → Option (List TR)
  | some (.ret v h') => tcons ⟨e, h, v, true⟩ (traceA call P ops rest (putA e dst v) h')
  | _ => none
theorem tstep_ret {v : AV} {h' : Heap} {d : Tmp} : tstep call P ops rest (some d) e h (some (.ret v h')) = tcons ⟨e, h, v, true⟩ (traceA call P ops rest (e.set d v) h') := rfl
theorem tstep_none {v : AV} {h' : Heap} : tstep call P ops rest none e h (some (.ret v h')) = tcons ⟨e, h, v, true⟩ (traceA call P ops rest e h') := rfl
theorem trace_nil : traceA call P ops [] e h = some [⟨e, h, .unk, false⟩] := rfl
theorem trace_cons : traceA call P ops (⟨dst, op, ty, pos, after, none⟩ :: rest) e h = tstep call P ops rest dst e h (opA call P e h op) := by
  simp only [traceA, wantedA]
  cases opA call P e h op with
  | none => rfl
  | some r => cases r <;> rfl
def tguard (call : CallF) (P : Program) (ops : Array Oper) (rest : List Oper) (dst : Option Tmp) (op : Op) (e : List AV) (h : Heap) : Option Bool → Option (List TR)
  | some true => tstep call P ops rest dst e h (opA call P e h op)
  | some false => tcons ⟨e, h, .tuple [], false⟩ (traceA call P ops rest (putA e dst (.tuple [])) h)
  | none => none
theorem tguard_true : tguard call P ops rest dst op e h (some true) = tstep call P ops rest dst e h (opA call P e h op) := rfl
theorem tguard_false {d : Tmp} : tguard call P ops rest (some d) op e h (some false) = tcons ⟨e, h, .tuple [], false⟩ (traceA call P ops rest (e.set d (.tuple [])) h) := rfl
theorem trace_guard {j : Nat} {b : Bool} : traceA call P ops (⟨dst, op, ty, pos, after, some (j, b)⟩ :: rest) e h = tguard call P ops rest dst op e h (guardA ops e j b) := by
  have hw : wantedA ops e ⟨dst, op, ty, pos, after, some (j, b)⟩ = guardA ops e j b := rfl
  simp only [traceA, hw]
  cases guardA ops e j b with
  | none => rfl
  | some t =>
    cases t with
    | false => rfl
    | true =>
      simp only [tguard]
      cases opA call P e h op with
      | none => rfl
      | some r => cases r <;> rfl

mutual
theorem beqV_refl : ∀ v : AV, beqV v v = true
  | .unk => rfl
  | .bool b => by simp [beqV]
  | .int k n => by simp [beqV]
  | .str s => by simp [beqV]
  | .ptr none => rfl
  | .ptr (some a) => by simp [beqV]
  | .slice none n c => by simp [beqV, beqCap_refl c]
  | .slice (some a) n c => by simp [beqV, beqCap_refl c]
  | .map none => rfl
  | .map (some a) => by simp [beqV]
  | .chan none => rfl
  | .chan (some a) => by simp [beqV]
  | .func f a b => by simp [beqV, beqVs_refl a, beqVs_refl b]
  | .nilFunc => rfl
  | .iface t a => by simp [beqV, beqV_refl a]
  | .nilIface => rfl
  | .agg a => by simp [beqV, beqVs_refl a]
  | .tuple a => by simp [beqV, beqVs_refl a]
theorem beqVs_refl : ∀ vs : List AV, beqVs vs vs = true
  | [] => rfl
  | v :: vs => by simp [beqVs, beqV_refl v, beqVs_refl vs]
theorem beqCap_refl : ∀ c : Cap, beqCap c c = true
  | .exact n => by simp [beqCap]
  | .tip n => by simp [beqCap]
  | .dim => rfl
end

/-- One reading at one heap. -/
def sameV (P : Program) (e : List AV) (h : Heap) (op : Op) (v : AV) : Bool := match aop P e h op with | some (u, _) => beqV u v | none => false
theorem sameV_of {op : Op} {v : AV} (hx : opA call P e h op = some (.ret v h)) (hop : ∀ x, opA call P e h op = x → x = toRet (aop P e h op)) : sameV P e h op v = true := by
  have := hop _ rfl
  rw [hx] at this
  unfold sameV
  cases ha : aop P e h op with
  | none => rw [ha] at this; cases this
  | some r =>
    obtain ⟨u, h'⟩ := r
    rw [ha] at this
    simp only [toRet, Option.some.injEq, CRes.ret.injEq] at this
    simp only []
    rw [← this.1]
    exact beqV_refl v
/-- All readings, at all heaps where they may be done: by a list of places, reckoned from the text alone. -/
def places (P : Program) (bs ls : List Nat) : List Oper → Nat → List (Nat × Nat)
  | [], _ => []
  | o :: os, i => (bif readsA P o.op && !loudA P o.op then (ls.filter fun p => mayAt bs i p ls).map fun p => (i, p) else []) ++ places P bs ls os (i + 1)
theorem sameAt_of {bs ls : List Nat} {full : List TR} {i : Nat} {o : Oper} {x : TR} : ∀ {ps : List Nat}, (∀ p, p ∈ ps → mayAt bs i p ls = true → ∃ y, full[p]? = some y ∧ sameV P x.env y.heap o.op x.val = true) → sameAt P bs ls full i o x ps = true
  | [], _ => rfl
  | p :: ps, hp => by
    simp only [sameAt]
    have h2 := sameAt_of (ps := ps) (fun q hq => hp q (List.mem_cons_of_mem _ hq))
    rw [h2, Bool.and_true]
    cases hm : mayAt bs i p ls with
    | false => rfl
    | true =>
      obtain ⟨y, hy, hs⟩ := hp p List.mem_cons_self hm
      simp only [cond_true, hy]
      exact hs
theorem dynAll_of {bs ls : List Nat} {full : List TR} : ∀ {os : List Oper} {xs : List TR} {i : Nat}, (∀ j o x p, os[j]? = some o → xs[j]? = some x → x.on = true → (i + j, p) ∈ places P bs ls os i → ∃ y, full[p]? = some y ∧ sameV P x.env y.heap o.op x.val = true) → dynAll P bs ls full os xs i = true
  | [], _, _, _ => by simp [dynAll]
  | _ :: _, [], _, _ => by simp [dynAll]
  | o :: os, x :: xs, i, hp => by
    simp only [dynAll]
    have h2 := dynAll_of (os := os) (xs := xs) (i := i + 1) (fun j o' x' p ho hx hon hm => by
      refine hp (j + 1) o' x' p (by simpa using ho) (by simpa using hx) hon ?_
      simp only [places, List.mem_append]
      right
      have : i + (j + 1) = i + 1 + j := by omega
      rw [this]; exact hm)
    rw [h2, Bool.and_true]
    cases hc : (x.on && readsA P o.op && !loudA P o.op) with
    | false => rfl
    | true =>
      simp only [Bool.and_eq_true] at hc
      simp only [cond_true]
      refine sameAt_of fun p hpl hm => ?_
      refine hp 0 o x p rfl rfl hc.1.1 ?_
      simp only [places, List.mem_append]
      left
      have : (readsA P o.op && !loudA P o.op) = true := by rw [hc.1.2, hc.2]; rfl
      rw [this]
      simp only [cond_true, List.mem_map, List.mem_filter]
      exact ⟨p, ⟨hpl, hm⟩, rfl⟩

/-- What is asked of the readings, place by place. -/
def pairsOk (P : Program) (ops : List Oper) (tr : List TR) : List (Nat × Nat) → Prop
  | [] => True
  | (i, p) :: r => (match ops[i]?, tr[i]?, tr[p]? with
    | some o, some x, some y => x.on = true → sameV P x.env y.heap o.op x.val = true
    | _, _, _ => False) ∧ pairsOk P ops tr r
theorem pairsOk_mem {os : List Oper} {tr : List TR} : ∀ {pl : List (Nat × Nat)}, pairsOk P os tr pl → ∀ i p, (i, p) ∈ pl → ∀ o x, os[i]? = some o → tr[i]? = some x → x.on = true → ∃ y, tr[p]? = some y ∧ sameV P x.env y.heap o.op x.val = true
  | [], _, i, p, hm, _, _, _, _, _ => by simp at hm
  | (a, b) :: r, hp, i, p, hm, o, x, ho, hx, hon => by
    simp only [pairsOk] at hp
    rcases List.mem_cons.1 hm with he | hm
    · simp only [Prod.mk.injEq] at he
      obtain ⟨rfl, rfl⟩ := he
      have h1 := hp.1
      rw [ho, hx] at h1
      cases hy : tr[p]? with
      | none => rw [hy] at h1; exact h1.elim
      | some y => rw [hy] at h1; exact ⟨y, rfl, h1 hon⟩
    · exact pairsOk_mem hp.2 i p hm o x ho hx hon
theorem dynOk_of {tr : List TR} {pl : List (Nat × Nat)} (ht : traceA call P ops ops.toList e h = some tr) (hpl : places P (masks ops.toList []) (louds P ops.toList 0) ops.toList 0 = pl) (hp : pairsOk P ops.toList tr pl) : dynOk call P ops e h = true := by
  simp only [dynOk, ht]
  refine dynAll_of fun j o x p ho hx hon hm => ?_
  rw [Nat.zero_add, hpl] at hm
  exact pairsOk_mem hp j p hm o x ho hx hon

theorem sameV_load {t : TypeId} {a : Operand} {v : AV} {l : Loc} (ha : evalA P e a = .ptr (some l)) (hl : loadA P h t l = some v) : sameV P e h (.load t a) v = true := by
  have : aop P e h (.load t a) = some (v, h) := by simp only [aop, ha, hl, withH]
  simp only [sameV, this, beqV_refl]

def TW (K : List TR → Prop) : Option (List TR) → Prop
  | some tr => K tr
  | none => False
theorem TW_some {K : List TR → Prop} {tr : List TR} : TW K (some tr) = K tr := rfl
@[congr] theorem TW_congr {K : List TR → Prop} {x y : Option (List TR)} (h : x = y) : TW K x = TW K y := by rw [h]
theorem dynOk_tw {pl : List (Nat × Nat)} (hpl : places P (masks ops.toList []) (louds P ops.toList 0) ops.toList 0 = pl) (hp : TW (fun tr => pairsOk P ops.toList tr pl) (traceA call P ops ops.toList e h)) : dynOk call P ops e h = true := by
  generalize ht : traceA call P ops ops.toList e h = x at hp
  match x, hp with
  | some tr, hp => exact dynOk_of ht hpl hp
def loadSame (P : Program) (h : Heap) (t : TypeId) (a v : AV) : Bool := match a with
  | .ptr (some l) => (match loadA P h t l with | some u => beqV u v | none => false)
  | _ => false
theorem sameV_load' {t : TypeId} {a : Operand} {v : AV} : sameV P e h (.load t a) v = loadSame P h t (evalA P e a) v := by
  simp only [sameV, aop, loadSame]
  cases evalA P e a with
  | ptr l =>
    cases l with
    | none => rfl
    | some l =>
      simp only [withH]
      cases loadA P h t l <;> rfl
  | _ => rfl
end
end Go.Am
