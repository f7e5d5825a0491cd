/- Calls without a bound on their depth: what some depth comes to. -/
import Derived.Test.YtnllflgijnloiaaAmDraw3
namespace Go.Am
open Go.RowKit

def Le (c c' : CallF) : Prop := ∀ f a h r, c f a h = some r → c' f a h = some r
theorem Le.refl (c : CallF) : Le c c := fun _ _ _ _ h => h

/-- It hangs on finitely many answers of the calls. -/
structure Cont (ch : Nat → CallF) (top : CallF) {α : Type} (F : CallF → Option α) : Prop where
  mono : ∀ c c', Le c c' → ∀ r, F c = some r → F c' = some r
  comp : ∀ r, F top = some r → ∃ N, F (ch N) = some r

structure Chain (ch : Nat → CallF) (top : CallF) : Prop where
  up : ∀ n m, n ≤ m → Le (ch n) (ch m)
  top : ∀ f a h r, top f a h = some r → ∃ N, ch N f a h = some r

section
variable {ch : Nat → CallF} {top : CallF} (C : Chain ch top) {α β : Type}
include C

omit C in
theorem Cont.const' (x : Option α) : Cont ch top (fun _ => x) := ⟨fun _ _ _ _ h => h, fun _ h => ⟨0, h⟩⟩
theorem Cont.const (x : Option α) : Cont ch top (fun _ => x) := have _ := C; Cont.const' x
theorem Cont.call (f : FuncId) (a : List AV) (h : Heap) : Cont ch top (fun c => c f a h) := ⟨fun _ _ hl r hr => hl f a h r hr, fun r hr => C.top f a h r hr⟩
theorem Cont.bind {G : CallF → Option α} {K : CallF → α → Option β} (hG : Cont ch top G) (hK : ∀ x, Cont ch top (fun c => K c x)) : Cont ch top (fun c => (G c).bind (K c)) where
  mono := fun c c' hl r hr => by
    rw [Option.bind_eq_some_iff] at hr ⊢
    obtain ⟨x, h1, h2⟩ := hr
    exact ⟨x, hG.mono c c' hl x h1, (hK x).mono c c' hl r h2⟩
  comp := fun r hr => by
    rw [Option.bind_eq_some_iff] at hr
    obtain ⟨x, h1, h2⟩ := hr
    obtain ⟨n, hn⟩ := hG.comp x h1
    obtain ⟨m, hm⟩ := (hK x).comp r h2
    refine ⟨max n m, ?_⟩
    rw [Option.bind_eq_some_iff]
    exact ⟨x, hG.mono _ _ (C.up n _ (Nat.le_max_left _ _)) x hn, (hK x).mono _ _ (C.up m _ (Nat.le_max_right _ _)) r hm⟩
omit C in
theorem Cont.of_eq {F G : CallF → Option α} (h : ∀ c, F c = G c) (hG : Cont ch top G) : Cont ch top F := by
  rw [show F = G from funext h]; exact hG

theorem cont_callA (P : Program) (h : Heap) (f : FuncId) (args : List AV) : Cont ch top (fun c => callA c P h f args) := Cont.call C f args h

theorem cont_opA (P : Program) (e : List AV) (h : Heap) (op : Op) : Cont ch top (fun c => opA c P e h op) := by
  cases op with
  | call c =>
    obtain ⟨callee, args, ats⟩ := c
    cases callee with
    | builtin b => exact Cont.const C _
    | value f =>
      simp only [opA]
      split
      · exact cont_callA C _ _ _ _
      · exact Cont.const C none
    | invoke r n =>
      simp only [opA]
      split
      · split
        · exact cont_callA C _ _ _ _
        · exact Cont.const C none
      · exact Cont.const C none
  | _ => exact Cont.const C _

theorem cont_opsA (P : Program) (ops : Array Oper) : ∀ (rest : List Oper) (e : List AV) (h : Heap), Cont ch top (fun c => opsA c P ops rest e h)
  | [], e, h => Cont.const C _
  | o :: rest, e, h => by
    cases hw : wantedA ops e o with
    | none => exact Cont.of_eq (G := fun _ => none) (fun c => by simp only [opsA, hw]) (Cont.const C _)
    | some b =>
      cases b with
      | false => exact Cont.of_eq (fun c => by simp only [opsA, hw]) (cont_opsA P ops rest (putA e o.dst (.tuple [])) h)
      | true =>
        refine Cont.of_eq (G := fun c => (opA c P e h o.op).bind fun r => match r with | .ret v h' => opsA c P ops rest (putA e o.dst v) h' | .pan v h' => some (.pan v, e, h')) (fun c => ?_) (Cont.bind C (cont_opA C P e h o.op) fun r => ?_)
        · simp only [opsA, hw]
          cases opA c P e h o.op with
          | none => rfl
          | some r => cases r <;> rfl
        · cases r with
          | ret v h' => exact cont_opsA P ops rest _ h'
          | pan v h' => exact Cont.const C _

theorem cont_traceA (P : Program) (ops : Array Oper) : ∀ (rest : List Oper) (e : List AV) (h : Heap), Cont ch top (fun c => traceA c P ops rest e h)
  | [], e, h => Cont.const C _
  | o :: rest, e, h => by
    cases hw : wantedA ops e o with
    | none => exact Cont.of_eq (G := fun _ => none) (fun c => by simp only [traceA, hw]) (Cont.const C _)
    | some b =>
      cases b with
      | false =>
        refine Cont.of_eq (G := fun c => (traceA c P ops rest (putA e o.dst (.tuple [])) h).bind fun tr => some (⟨e, h, .tuple [], false⟩ :: tr)) (fun c => ?_) (Cont.bind C (cont_traceA P ops rest _ h) fun tr => Cont.const C _)
        simp only [traceA, hw]
        cases traceA c P ops rest (putA e o.dst (.tuple [])) h <;> rfl
      | true =>
        refine Cont.of_eq (G := fun c => (opA c P e h o.op).bind fun r => match r with | .ret v h' => (traceA c P ops rest (putA e o.dst v) h').bind (fun tr => some (⟨e, h, v, true⟩ :: tr)) | .pan _ _ => none) (fun c => ?_) (Cont.bind C (cont_opA C P e h o.op) fun r => ?_)
        · simp only [traceA, hw]
          cases opA c P e h o.op with
          | none => rfl
          | some r => cases r with
            | ret v h' => simp only [Option.bind_some]; cases traceA c P ops rest (putA e o.dst v) h' <;> rfl
            | pan v h' => rfl
        · cases r with
          | ret v h' => exact Cont.bind C (cont_traceA P ops rest _ h') fun tr => Cont.const C _
          | pan v h' => exact Cont.const C _

def boolO (b : Bool) : Option Unit := bif b then some () else none

theorem cont_dyn (P : Program) (ops : Array Oper) (e : List AV) (h : Heap) : Cont ch top (fun c => boolO (dynOk c P ops e h)) := by
  refine Cont.of_eq (G := fun c => (traceA c P ops ops.toList e h).bind fun tr => boolO (dynAll P (masks ops.toList []) (louds P ops.toList 0) tr ops.toList tr 0)) (fun c => ?_) (Cont.bind C (cont_traceA C P ops _ e h) fun tr => Cont.const C _)
  unfold dynOk
  cases traceA c P ops ops.toList e h <;> rfl

theorem cont_drawA (P : Program) (ops : Array Oper) (e : List AV) (h : Heap) : Cont ch top (fun c => drawA P c ops e h) := by
  unfold drawA
  cases hs : drawStatic P ops (masks ops.toList []) with
  | false => exact Cont.const C _
  | true =>
    simp only [cond_true]
    refine Cont.of_eq (G := fun c => (opsA c P ops ops.toList e h).bind fun r => match r with
      | (.normal, e', h') => (if needNot P (masks ops.toList []) (louds P ops.toList 0) ops.toList 0 then some () else boolO (dynOk c P ops e h)).bind fun _ => some (.normal, e', h')
      | _ => none) (fun c => ?_) (Cont.bind C (cont_opsA C P ops _ e h) fun r => ?_)
    · cases opsA c P ops ops.toList e h with
      | none => rfl
      | some r =>
        obtain ⟨o, e', h'⟩ := r
        cases o with
        | normal =>
          simp only [Option.bind_some]
          cases needNot P (masks ops.toList []) (louds P ops.toList 0) ops.toList 0 with
          | true => simp
          | false => simp only [Bool.false_or, Bool.false_eq_true, if_false, boolO]; cases dynOk c P ops e h <;> rfl
        | _ => rfl
    · obtain ⟨o, e', h'⟩ := r
      cases o with
      | normal =>
        simp only
        refine Cont.bind C ?_ fun _ => Cont.const C _
        split
        · exact Cont.const C _
        · exact cont_dyn C P ops e h
      | _ => exact Cont.const C _

theorem cont_loopA {B : CallF → List AV → Heap → Option (Out × List AV × Heap)} (hB : ∀ e h, Cont ch top (fun c => B c e h)) : ∀ (n : Nat) (e : List AV) (h : Heap), Cont ch top (fun c => loopA (B c) n e h)
  | 0, e, h => Cont.const C _
  | n + 1, e, h => by
    refine Cont.of_eq (G := fun c => (B c e h).bind fun r => match r with | (.normal, e', h') => loopA (B c) n e' h' | r => some r) (fun c => ?_) (Cont.bind C (hB e h) fun r => ?_)
    · simp only [loopA]
      cases B c e h with
      | none => rfl
      | some r => obtain ⟨o, e', h'⟩ := r; cases o <;> rfl
    · obtain ⟨o, e', h'⟩ := r
      cases o with
      | normal => exact cont_loopA hB n e' h'
      | _ => exact Cont.const C _

theorem cont_execA (P : Program) (n : Nat) : ∀ (code : Code) (e : List AV) (h : Heap), Cont ch top (fun c => execA (drawA P) c P n code e h)
  | .skip, e, h => Cont.const C _
  | .label _, e, h => Cont.const C _
  | .region _ ops dr, e, h => by
    cases dr with
    | true => exact cont_drawA C P ops e h
    | false => exact cont_opsA C P ops _ e h
  | .seq a b, e, h => by
    refine Cont.of_eq (G := fun c => (execA (drawA P) c P n a e h).bind fun r => match r with | (.normal, e', h') => execA (drawA P) c P n b e' h' | r => some r) (fun c => ?_) (Cont.bind C (cont_execA P n a e h) fun r => ?_)
    · simp only [execA]
      cases execA (drawA P) c P n a e h with
      | none => rfl
      | some r => obtain ⟨o, e', h'⟩ := r; cases o <;> rfl
    · obtain ⟨o, e', h'⟩ := r
      cases o with
      | normal => exact cont_execA P n b e' h'
      | _ => exact Cont.const C _
  | .cond x a b, e, h => by
    simp only [execA]
    split
    · rename_i t _
      cases t with
      | true => exact cont_execA P n a e h
      | false => exact cont_execA P n b e h
    · exact Cont.const C _
  | .block id b, e, h => by
    refine Cont.of_eq (G := fun c => (execA (drawA P) c P n b e h).bind fun r => match r with | (.exit i, e', h') => bif Nat.beq i id then some (.normal, e', h') else some (.exit i, e', h') | r => some r) (fun c => ?_) (Cont.bind C (cont_execA P n b e h) fun r => Cont.const C _)
    simp only [execA]
    cases execA (drawA P) c P n b e h with
    | none => rfl
    | some r => obtain ⟨o, e', h'⟩ := r; cases o <;> rfl
  | .loop b, e, h => cont_loopA C (fun e h => cont_execA P n b e h) n e h
  | .exit _, e, h => Cont.const C _
  | .ret, e, h => Cont.const C _
  | .rangeFunc .., e, h => Cont.const C _
  | .scope .., e, h => Cont.const C _
  | .goto .., e, h => Cont.const C _
  | .refuse .., e, h => Cont.const C _

theorem cont_callBody (P : Program) (n : Nat) (fn : Func) (args : List AV) (h : Heap) : Cont ch top (fun c => callBody (execA (drawA P) c P n) P fn args h) := by
  cases hb : fn.body with
  | none => exact Cont.of_eq (G := fun _ => none) (fun c => by simp only [callBody, hb]) (Cont.const C _)
  | some code =>
    refine Cont.of_eq (G := fun c => (execA (drawA P) c P n code (frameA fn args) h).bind fun r => match r with
      | (.normal, e, h') | (.ret, e, h') => (match resultsA P e h' fn.results.toList with | some vs => some (.ret (single vs) h') | none => none)
      | (.pan v, _, h') => some (.pan v h')
      | _ => none) (fun c => ?_) (Cont.bind C (cont_execA C P n code _ h) fun r => Cont.const C _)
    simp only [callBody, hb]
    cases execA (drawA P) c P n code (frameA fn args) h with
    | none => rfl
    | some r => obtain ⟨o, e', h'⟩ := r; cases o <;> rfl
end

/-- More rounds tell the same. -/
theorem loopA_more {B B' : List AV → Heap → Option (Out × List AV × Heap)} (hB : ∀ e h r, B e h = some r → B' e h = some r) : ∀ (n m : Nat), n ≤ m → ∀ e h r, loopA B n e h = some r → loopA B' m e h = some r
  | 0, _, _, e, h, r, hr => by simp [loopA] at hr
  | n + 1, 0, hnm, e, h, r, hr => by omega
  | n + 1, m + 1, hnm, e, h, r, hr => by
    simp only [loopA] at hr ⊢
    split at hr
    · rename_i e' h' hb
      rw [hB _ _ _ hb]
      exact loopA_more hB n m (by omega) e' h' r hr
    · rename_i hno
      rw [hB _ _ _ hr]
      obtain ⟨o, e', h'⟩ := r
      cases o with
      | normal => exact absurd hr (hno e' h')
      | _ => rfl

theorem execA_more {draw : DrawF} {call : CallF} {P : Program} {n m : Nat} (hnm : n ≤ m) : ∀ (code : Code) (e : List AV) (h : Heap) (r : Out × List AV × Heap), execA draw call P n code e h = some r → execA draw call P m code e h = some r
  | .skip, e, h, r, hr => hr
  | .label _, e, h, r, hr => hr
  | .region _ ops dr, e, h, r, hr => hr
  | .seq a b, e, h, r, hr => by
    simp only [execA] at hr ⊢
    split at hr
    · rename_i e' h' hx
      rw [execA_more hnm a e h _ hx]
      exact execA_more hnm b e' h' r hr
    · rename_i hno
      rw [execA_more hnm a e h _ hr]
      obtain ⟨o, e', h'⟩ := r
      cases o with
      | normal => exact absurd hr (hno e' h')
      | _ => rfl
  | .cond x a b, e, h, r, hr => by
    simp only [execA] at hr ⊢
    split at hr
    · rename_i t ht
      cases t with
      | true => exact execA_more hnm a e h r hr
      | false => exact execA_more hnm b e h r hr
    · cases hr
  | .block id b, e, h, r, hr => by
    simp only [execA] at hr ⊢
    split at hr
    · rename_i i e' h' hx
      rw [execA_more hnm b e h _ hx]
      exact hr
    · rename_i hno
      rw [execA_more hnm b e h _ hr]
      obtain ⟨o, e', h'⟩ := r
      cases o with
      | exit i => exact absurd hr (hno i e' h')
      | _ => rfl
  | .loop b, e, h, r, hr => by
    simp only [execA] at hr ⊢
    exact loopA_more (fun e h r => execA_more hnm b e h r) n m hnm e h r hr
  | .exit _, e, h, r, hr => hr
  | .ret, e, h, r, hr => hr
  | .rangeFunc .., e, h, r, hr => by simp [execA] at hr
  | .scope .., e, h, r, hr => by simp [execA] at hr
  | .goto .., e, h, r, hr => by simp [execA] at hr
  | .refuse .., e, h, r, hr => by simp [execA] at hr

theorem callBody_more {draw : DrawF} {call : CallF} {P : Program} {n m : Nat} (hnm : n ≤ m) {fn : Func} {args : List AV} {h : Heap} {r : CRes} (hr : callBody (execA draw call P n) P fn args h = some r) : callBody (execA draw call P m) P fn args h = some r := by
  unfold callBody at hr ⊢
  split at hr
  · cases hr
  · rename_i c hb
    split at hr
    · rename_i e h' hx; simp only [execA_more hnm c _ _ _ hx]; exact hr
    · rename_i e h' hx; simp only [execA_more hnm c _ _ _ hx]; exact hr
    · rename_i v e h' hx; simp only [execA_more hnm c _ _ _ hx]; exact hr
    · cases hr

section
variable (ov : CallF) (P : Program)

theorem callN_mono : ∀ (d d' n n' : Nat), d ≤ d' → n ≤ n' → Le (callN (drawA P) ov P n d) (callN (drawA P) ov P n' d')
  | 0, 0, n, n', _, _ => fun f a h r hr => hr
  | 0, d' + 1, n, n', _, _ => fun f a h r hr => by
    simp only [callN] at hr ⊢
    rw [hr]
  | d + 1, 0, n, n', hd, _ => by omega
  | d + 1, d' + 1, n, n', hd, hn => fun f a h r hr => by
    have ih := callN_mono d d' n n' (by omega) hn
    simp only [callN] at hr ⊢
    split at hr
    · exact hr
    · rename_i ho
      split at hr
      · cases hr
      · rename_i fn hf
        have C : Chain (fun _ => callN (drawA P) ov P n' d') (callN (drawA P) ov P n' d') := ⟨fun _ _ _ => Le.refl _, fun _ _ _ _ h => ⟨0, h⟩⟩
        exact callBody_more hn ((cont_callBody C P n fn a h).mono _ _ ih r hr)

/-- What a call comes to, however deep. -/
noncomputable def callT : CallF := fun f a h => by
  classical exact if hx : ∃ N r, callN (drawA P) ov P N N f a h = some r then some hx.choose_spec.choose else none

theorem callT_iff (f : FuncId) (a : List AV) (h : Heap) (r : CRes) : callT ov P f a h = some r ↔ ∃ N, callN (drawA P) ov P N N f a h = some r := by
  unfold callT
  constructor
  · intro hr
    split at hr
    · rename_i hx
      cases hr
      exact ⟨hx.choose, hx.choose_spec.choose_spec⟩
    · cases hr
  · rintro ⟨N, hN⟩
    have hx : ∃ N r, callN (drawA P) ov P N N f a h = some r := ⟨N, r, hN⟩
    rw [dif_pos hx]
    have h1 := hx.choose_spec.choose_spec
    have h2 := callN_mono ov P hx.choose (max hx.choose N) hx.choose (max hx.choose N) (Nat.le_max_left _ _) (Nat.le_max_left _ _) f a h _ h1
    have h3 := callN_mono ov P N (max hx.choose N) N (max hx.choose N) (Nat.le_max_right _ _) (Nat.le_max_right _ _) f a h r hN
    rw [h2] at h3
    exact h3

theorem chainT : Chain (fun N => callN (drawA P) ov P N N) (callT ov P) :=
  ⟨fun n m hnm => callN_mono ov P n m n m hnm hnm, fun f a h r hr => (callT_iff ov P f a h r).1 hr⟩

theorem callT_ok (hF : Fns P) (hm : P.follows .mixedOrders = true) (hov : CallsOk P ov) : CallsOk P (callT ov P) := by
  intro f a h r hr
  obtain ⟨N, hN⟩ := (callT_iff ov P f a h r).1 hr
  exact callN_ok hF (drawA_ok hF hm) hov N f a h r hN

theorem callT_ov {f : FuncId} {a : List AV} {h : Heap} {r : CRes} (ho : ov f a h = some r) : callT ov P f a h = some r := by
  rw [callT_iff]
  exact ⟨0, ho⟩

/-- A call of a function with a body: the body's run, over calls however deep. -/
theorem callT_body {f : FuncId} {fn : Func} {a : List AV} {h : Heap} {r : CRes} (ho : ov f a h = none) (hf : P.funcs[f]? = some fn) {n : Nat} (hr : callBody (execA (drawA P) (callT ov P) P n) P fn a h = some r) : callT ov P f a h = some r := by
  obtain ⟨N, hN⟩ := (cont_callBody (chainT ov P) P n fn a h).comp r hr
  rw [callT_iff]
  refine ⟨max n N + 1, ?_⟩
  simp only [callN, ho, hf]
  have h1 := callBody_more (m := max n N + 1) (by omega) hN
  have C : Chain (fun _ => callN (drawA P) ov P (max n N + 1) (max n N)) (callN (drawA P) ov P (max n N + 1) (max n N)) := ⟨fun _ _ _ => Le.refl _, fun _ _ _ _ h => ⟨0, h⟩⟩
  exact (cont_callBody C P _ fn a h).mono _ _ (callN_mono ov P N _ N _ (by omega) (by omega)) r h1
end

/-! ### Code, over calls however deep -/

section
variable {ov : CallF} {P : Program}

/-- The code runs, in some number of rounds. -/
def Runs (ov : CallF) (P : Program) (c : Code) (e : List AV) (h : Heap) (r : Out × List AV × Heap) : Prop := ∃ n, execA (drawA P) (callT ov P) P n c e h = some r

theorem Runs.skip {e : List AV} {h : Heap} : Runs ov P .skip e h (.normal, e, h) := ⟨0, rfl⟩
theorem Runs.label {l : Nat} {e : List AV} {h : Heap} : Runs ov P (.label l) e h (.normal, e, h) := ⟨0, rfl⟩
theorem Runs.exit {i : Nat} {e : List AV} {h : Heap} : Runs ov P (.exit i) e h (.exit i, e, h) := ⟨0, rfl⟩
theorem Runs.ret {e : List AV} {h : Heap} : Runs ov P .ret e h (.ret, e, h) := ⟨0, rfl⟩
theorem Runs.region {id : Nat} {ops : Array Oper} {e : List AV} {h : Heap} {r : Out × List AV × Heap} (hr : opsA (callT ov P) P ops ops.toList e h = some r) : Runs ov P (.region id ops false) e h r := ⟨0, hr⟩
theorem Runs.draw {id : Nat} {ops : Array Oper} {e : List AV} {h : Heap} {r : Out × List AV × Heap} (hr : drawA P (callT ov P) ops e h = some r) : Runs ov P (.region id ops true) e h r := ⟨0, hr⟩
theorem Runs.seq {a b : Code} {e e' : List AV} {h h' : Heap} {r : Out × List AV × Heap} (h1 : Runs ov P a e h (.normal, e', h')) (h2 : Runs ov P b e' h' r) : Runs ov P (.seq a b) e h r := by
  obtain ⟨n, hn⟩ := h1
  obtain ⟨m, hm⟩ := h2
  refine ⟨max n m, ?_⟩
  simp only [execA, execA_more (Nat.le_max_left n m) a e h _ hn]
  exact execA_more (Nat.le_max_right n m) b e' h' r hm
theorem Runs.seq_out {a b : Code} {e e' : List AV} {h h' : Heap} {o : Out} (h1 : Runs ov P a e h (o, e', h')) (ho : o ≠ .normal) : Runs ov P (.seq a b) e h (o, e', h') := by
  obtain ⟨n, hn⟩ := h1
  refine ⟨n, ?_⟩
  simp only [execA, hn]
  cases o <;> first | rfl | exact absurd rfl ho
theorem Runs.cond_true {c : Operand} {a b : Code} {e : List AV} {h : Heap} {r : Out × List AV × Heap} (hc : evalA P e c = .bool true) (h1 : Runs ov P a e h r) : Runs ov P (.cond c a b) e h r := by
  obtain ⟨n, hn⟩ := h1
  exact ⟨n, by simp only [execA, hc, _root_.cond_true]; exact hn⟩
theorem Runs.cond_false {c : Operand} {a b : Code} {e : List AV} {h : Heap} {r : Out × List AV × Heap} (hc : evalA P e c = .bool false) (h1 : Runs ov P b e h r) : Runs ov P (.cond c a b) e h r := by
  obtain ⟨n, hn⟩ := h1
  exact ⟨n, by simp only [execA, hc, _root_.cond_false]; exact hn⟩
theorem Runs.cond {c : Operand} {a b : Code} {e : List AV} {h : Heap} {r : Out × List AV × Heap} {t : Bool} (hc : evalA P e c = .bool t) (h1 : t = true → Runs ov P a e h r) (h2 : t = false → Runs ov P b e h r) : Runs ov P (.cond c a b) e h r := by
  cases t with
  | true => exact Runs.cond_true hc (h1 rfl)
  | false => exact Runs.cond_false hc (h2 rfl)
theorem Runs.block_exit {id : Nat} {b : Code} {e e' : List AV} {h h' : Heap} (h1 : Runs ov P b e h (.exit id, e', h')) : Runs ov P (.block id b) e h (.normal, e', h') := by
  obtain ⟨n, hn⟩ := h1
  refine ⟨n, ?_⟩
  simp only [execA, hn, Trie.beq1, decide_true, _root_.cond_true]
theorem Runs.block {id : Nat} {b : Code} {e e' : List AV} {h h' : Heap} {o : Out} (h1 : Runs ov P b e h (o, e', h')) (ho : o ≠ .exit id) : Runs ov P (.block id b) e h (o, e', h') := by
  obtain ⟨n, hn⟩ := h1
  refine ⟨n, ?_⟩
  simp only [execA, hn]
  cases o with
  | exit i =>
    have : i ≠ id := fun hh => ho (by rw [hh])
    simp only [Trie.beq1, this, decide_false, _root_.cond_false]
  | _ => rfl
theorem Runs.loop {b : Code} {e e' : List AV} {h h' : Heap} {r : Out × List AV × Heap} (h1 : Runs ov P b e h (.normal, e', h')) (h2 : Runs ov P (.loop b) e' h' r) : Runs ov P (.loop b) e h r := by
  obtain ⟨n, hn⟩ := h1
  obtain ⟨m, hm⟩ := h2
  refine ⟨max n m + 1, ?_⟩
  simp only [execA, loopA, execA_more (show n ≤ max n m + 1 by omega) b e h _ hn]
  simp only [execA] at hm
  exact loopA_more (fun e h r => execA_more (by omega) b e h r) m (max n m) (by omega) e' h' r hm
theorem Runs.loop_out {b : Code} {e e' : List AV} {h h' : Heap} {o : Out} (h1 : Runs ov P b e h (o, e', h')) (ho : o ≠ .normal) : Runs ov P (.loop b) e h (o, e', h') := by
  obtain ⟨n, hn⟩ := h1
  refine ⟨n + 1, ?_⟩
  simp only [execA, loopA, execA_more (show n ≤ n + 1 by omega) b e h _ hn]
  cases o <;> first | rfl | exact absurd rfl ho

theorem callT_ret {f : FuncId} {fn : Func} {c : Code} {a e : List AV} {h h' : Heap} {o : Out} {vs : List AV} (hov : ov f a h = none) (hf : P.funcs[f]? = some fn) (hb : fn.body = some c) (hr : Runs ov P c (frameA fn a) h (o, e, h')) (ho : o = .normal ∨ o = .ret)
    (hv : resultsA P e h' fn.results.toList = some vs) : callT ov P f a h = some (.ret (single vs) h') := by
  obtain ⟨n, hn⟩ := hr
  refine callT_body ov P hov hf (n := n) ?_
  unfold callBody
  rw [hb]
  simp only [hn]
  rcases ho with rfl | rfl <;> simp only [hv]
theorem callT_pan {f : FuncId} {fn : Func} {c : Code} {a e : List AV} {h h' : Heap} {v : AV} (hov : ov f a h = none) (hf : P.funcs[f]? = some fn) (hb : fn.body = some c) (hr : Runs ov P c (frameA fn a) h (.pan v, e, h')) : callT ov P f a h = some (.pan v h') := by
  obtain ⟨n, hn⟩ := hr
  refine callT_body ov P hov hf (n := n) ?_
  unfold callBody
  rw [hb]
  simp only [hn]
end
end Go.Am
