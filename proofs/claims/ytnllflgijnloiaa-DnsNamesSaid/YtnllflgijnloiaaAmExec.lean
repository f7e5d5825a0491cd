/- The abstract machine: calls, regions in the text's order, code, functions. -/
import Derived.Test.YtnllflgijnloiaaAmOp2
namespace Go.Am
open Go.RowKit

inductive Out where
  | normal
  | exit (id : Nat)
  | ret
  | pan (v : AV)

/-- Every function with a body is entered by a call. -/
def Fns (P : Program) : Prop := ∀ (f : Nat) (fn : Func), P.funcs[f]? = some fn → fn.body.isSome = true → (fn.name == "runtime.NumGoroutine") = false

def methodA (P : Program) (t : TypeId) (name : String) : Option FuncId :=
  match P.info? t with
  | none => none
  | some i =>
    match i.methods.find? (·.name == name) with
    | none => none
    | some m =>
      match m.path.isEmpty, m.func, P.underlying t with
      | true, some (f, true), some (.pointer _) => some f
      | true, some (_, false), some (.pointer _) => none
      | true, some (f, false), some _ => some f
      | _, _, _ => none

def callA (call : CallF) (P : Program) (h : Heap) (f : FuncId) (args : List AV) : Option CRes := have _ := P; call f args h

def toRet : Option (AV × Heap) → Option CRes
  | some (v, h) => some (.ret v h)
  | none => none

def panA (h : Heap) (x : AV) : Option CRes :=
  match x with
  | .iface t v => some (.pan (.iface t v) h)
  | _ => none

def biA (P : Program) (h : Heap) (b : Builtin) (ts : List TypeId) (args : List AV) : Option CRes :=
  match b, args with
  | .panic, [x] => panA h x
  | _, args => toRet (builtinA P h b ts args)

def opA (call : CallF) (P : Program) (env : List AV) (h : Heap) (op : Op) : Option CRes :=
  match op with
  | .call c =>
    (match c.callee with
    | .builtin b => biA P h b c.argTypes.toList (evals P env c.args.toList)
    | .value f => (match evalA P env f with
      | .func (.func g) first captured => callA call P h g ((first ++ evals P env c.args.toList) ++ captured)
      | _ => none)
    | .invoke recv name => (match evalA P env recv with
      | .iface t v => (match methodA P t name with
        | some g => callA call P h g (v :: evals P env c.args.toList)
        | none => none)
      | _ => none))
  | .panic x => panA h (evalA P env x)
  | op => toRet (aop P env h op)

def PostC (P : Program) (φ : List Emb) (w0 : World) : CRes → Ending → World → Prop
  | .ret v h', e, w' => ∃ φ' v', e = .returned v' ∧ Up φ φ' ∧ R P φ' h' w0 w' ∧ V φ' v v'
  | .pan v h', e, w' => ∃ φ' v', e = .panicked [{ v := v', recovered := false }] ∧ Up φ φ' ∧ R P φ' h' w0 w' ∧ V φ' v v'

/-- A call, whether it enters a body or not. -/
def Goes (P : Program) (f : FuncId) (args : Array Value) (w : World) (Post : Ending → World → Prop) : Prop :=
  ((callFunc f args).run P w = .ok (.enter f args) w ∧ Calls P f args w Post) ∨ ∃ v w', (callFunc f args).run P w = .ok (.value v) w' ∧ Post (.returned v) w'
theorem Goes.mono {P : Program} {f : FuncId} {args : Array Value} {w : World} {R R' : Ending → World → Prop} (h : Goes P f args w R) (hr : ∀ e w', R e w' → R' e w') : Goes P f args w R' := by
  rcases h with ⟨h1, h2⟩ | ⟨v, w', h1, h2⟩
  · exact .inl ⟨h1, h2.mono hr⟩
  · exact .inr ⟨v, w', h1, hr _ _ h2⟩
def CallOk (P : Program) (f : FuncId) (args : List AV) (h : Heap) (r : CRes) : Prop :=
  ∀ φ w0 w (args' : Array Value), R P φ h w0 w → Vs φ args args'.toList → Goes P f args' w (PostC P φ w0 r)

def CallsOk (P : Program) (call : CallF) : Prop := ∀ f args h r, call f args h = some r → CallOk P f args h r

def OpPost (P : Program) (φ : List Emb) (w0 : World) (dst : Option Tmp) (a : Act) (K : Act → World → Prop) (Q : Exit → Act → World → Prop) : CRes → Prop
  | .ret v h' => ∀ φ' w' v', Up φ φ' → R P φ' h' w0 w' → V φ' v v' → K (a.put dst v') w'
  | .pan v h' => ∀ φ' w' v', Up φ φ' → R P φ' h' w0 w' → V φ' v v' → Q (.panic [{ v := v', recovered := false }]) a w'

theorem execOp_value (ρ : Operand → Value) (dst : Option Tmp) (f : Operand) (xs : Array Operand) (ats : Array TypeId) (ty : TypeId) (pos : String) (after : Array Edge) (guard : Option (Nat × Bool)) :
    execOp ρ ⟨dst, .call ⟨.value f, xs, ats⟩, ty, pos, after, guard⟩ = (do let d ← Deferred.ofValue (ρ f) (xs.map ρ); invoke d.target d.args) := rfl
theorem execOp_invoke (ρ : Operand → Value) (dst : Option Tmp) (r : Operand) (name : String) (xs : Array Operand) (ats : Array TypeId) (ty : TypeId) (pos : String) (after : Array Edge) (guard : Option (Nat × Bool)) :
    execOp ρ ⟨dst, .call ⟨.invoke r name, xs, ats⟩, ty, pos, after, guard⟩ = invoke (.fn (.method name) #[]) (#[ρ r] ++ xs.map ρ) := rfl
theorem execOp_panic (ρ : Operand → Value) (dst : Option Tmp) (x : Operand) (ty : TypeId) (pos : String) (after : Array Edge) (guard : Option (Nat × Bool)) :
    execOp ρ ⟨dst, .panic x, ty, pos, after, guard⟩ = (do pure (.value (← Instr.panic (ρ x)))) := rfl

theorem callFunc_run {P : Program} (hF : Fns P) {f : FuncId} {fn : Func} {c : Code} (hf : P.funcs[f]? = some fn) (hb : fn.body = some c) (args : Array Value) (w : World) : (callFunc f args).run P w = .ok (.enter f args) w := by
  have h1 := hF f fn hf (by rw [hb]; rfl)
  unfold callFunc
  simp only [Sem.run_bind, run_program, Result.andThen_ok, hf]
  rw [if_neg (by rw [h1]; simp), if_neg (by rw [hb]; simp)]
  rfl

theorem methodA_run {P : Program} {t : TypeId} {name : String} {f : FuncId} (h : methodA P t name = some f) (v : Value) (w : World) (n : Nat) : (method (n + 1) t v name).run P w = .ok (f, v) w := by
  unfold methodA at h
  split at h
  · cases h
  · rename_i i hi
    split at h
    · cases h
    · rename_i m hm
      have hpath : m.path.isEmpty = true → m.path.toList = [] := by
        intro hp; simpa using hp
      split at h
      · rename_i hp hf hu
        cases h
        simp only [method, Sem.run_bind, typeInfo, run_program, Result.andThen_ok, hi, Sem.run_pure, hm, hpath hp, follow, hf, receiverAt, run_underlying hu, Place.get]
      · cases h
      · rename_i d hno hp hf hu
        cases h
        simp only [method, Sem.run_bind, typeInfo, run_program, Result.andThen_ok, hi, Sem.run_pure, hm, hpath hp, follow, hf, receiverAt, run_underlying hu, Place.get]
      · cases h

theorem wp_enter {P : Program} {o : Oper} {a : Act} {w : World} {K : Act → World → Prop} {Q : Exit → Act → World → Prop} {f : FuncId} {args : Array Value} (hrun : (execOp a.eval o).run P w = .ok (.enter f args) w) {φ : List Emb} {w0 : World} {r : CRes}
    (hc : Calls P f args w (PostC P φ w0 r)) (hp : OpPost P φ w0 o.dst a K Q r) : o.wp P a w K Q := by
  unfold Oper.wp
  rw [hrun, Oper.upon_enter]
  refine hc.mono ?_
  intro e w' h
  cases r with
  | ret v h' =>
    obtain ⟨φ', v', rfl, hu, hR, hv⟩ := h
    exact hp φ' w' v' hu hR hv
  | pan v h' =>
    obtain ⟨φ', v', rfl, hu, hR, hv⟩ := h
    exact hp φ' w' v' hu hR hv

theorem wp_goes {P : Program} {o : Oper} {a : Act} {w : World} {K : Act → World → Prop} {Q : Exit → Act → World → Prop} {f : FuncId} {args : Array Value} (hrun : (execOp a.eval o).run P w = (callFunc f args).run P w) {φ : List Emb} {w0 : World} {r : CRes}
    (hc : Goes P f args w (PostC P φ w0 r)) (hp : OpPost P φ w0 o.dst a K Q r) : o.wp P a w K Q := by
  rcases hc with ⟨h1, h2⟩ | ⟨v, w', h1, h2⟩
  · exact wp_enter (hrun.trans h1) h2 hp
  · unfold Oper.wp
    rw [hrun, h1, Oper.upon_value]
    cases r with
    | ret v' h' =>
      obtain ⟨φ', v'', he, hu, hR, hv⟩ := h2
      cases he
      exact hp φ' w' v hu hR hv
    | pan v' h' =>
      obtain ⟨φ', v'', he, hu, hR, hv⟩ := h2
      cases he

theorem wp_done {P : Program} {o : Oper} {a : Act} {w : World} {K : Act → World → Prop} {Q : Exit → Act → World → Prop} {φ : List Emb} {w0 : World} {v : AV} {h' : Heap} (hd : Done P φ w0 v h' (execOp a.eval o) w) (hp : OpPost P φ w0 o.dst a K Q (.ret v h')) : o.wp P a w K Q := by
  obtain ⟨nx, φ', w', hrun, ⟨v', hnx, hv⟩, hu, hR⟩ := hd
  unfold Oper.wp
  rw [hrun]
  rcases hnx with rfl | ⟨rfl, rfl⟩
  · exact hp φ' w' v' hu hR hv
  · exact hp φ' w' undef hu hR hv

theorem wp_panics {P : Program} {o : Oper} {a : Act} {w : World} {K : Act → World → Prop} {Q : Exit → Act → World → Prop} {φ : List Emb} {h : Heap} {w0 : World} (hR : R P φ h w0 w) {x : AV} {x' : Value} (hx : V φ x x') {r : CRes} (hr : panA h x = some r)
    (hrun : execOp a.eval o = (do pure (.value (← Instr.panic x')))) (hp : OpPost P φ w0 o.dst a K Q r) : o.wp P a w K Q := by
  unfold panA at hr
  split at hr
  · rename_i t v
    cases hr
    have hx2 := hx
    simp only [V] at hx2
    obtain ⟨y, rfl, _⟩ := hx2
    unfold Oper.wp
    rw [hrun]
    simp only [Sem.run_bind, Instr.panic, run_goPanic, Result.andThen_halt, Oper.upon_panic]
    exact hp φ w _ (Up.refl _) hR hx
  · cases hr

theorem toRet_some {x : Option (AV × Heap)} {r : CRes} (h : toRet x = some r) : ∃ v h', x = some (v, h') ∧ r = .ret v h' := by
  cases x with
  | none => simp [toRet] at h
  | some y => obtain ⟨v, h'⟩ := y; simp only [toRet, Option.some.injEq] at h; exact ⟨v, h', rfl, h.symm⟩

theorem arr_head {α : Type} (x : α) (B : Array α) : (#[x] ++ B)[0]? = some x := by
  rw [Array.getElem?_append_left (by simp)]; rfl
theorem arr_rest {α : Type} (x : α) (B : Array α) : (#[x] ++ B).extract 1 (#[x] ++ B).size = B := by
  obtain ⟨l⟩ := B
  simp

theorem opA_wp {P : Program} (hF : Fns P) {call : CallF} (hcall : CallsOk P call) {φ : List Emb} {h : Heap} {w0 w : World} (hR : R P φ h w0 w) {env : List AV} {a : Act} (hρ : ∀ x, V φ (evalA P env x) (a.eval x)) {o : Oper} {r : CRes} (ho : opA call P env h o.op = some r)
    {K : Act → World → Prop} {Q : Exit → Act → World → Prop} (hp : OpPost P φ w0 o.dst a K Q r) : o.wp P a w K Q := by
  have plain : ∀ v h', aop P env h o.op = some (v, h') → r = .ret v h' → o.wp P a w K Q := by
    intro v h' h1 hr
    subst hr
    exact wp_done (aop_run hR hρ h1) hp
  obtain ⟨dst, op, type, pos, after, guard⟩ := o
  simp only at ho plain
  unfold opA at ho
  split at ho
  · rename_i c
    obtain ⟨callee, args, argTypes⟩ := c
    cases callee with
    | builtin b =>
      simp only [biA] at ho
      split at ho
      · rename_i x hx
        have hv := evals_V hρ args.toList
        rw [hx] at hv
        simp only [Vs] at hv
        obtain ⟨y, ys, hys, hy, rfl⟩ := hv
        refine wp_panics hR hy ho ?_ hp
        rw [execOp_bi]
        have hm : args.map a.eval = #[y] := by
          apply Array.ext'
          simpa using hys
        simp only [builtin, hm]
        rfl
      · obtain ⟨v, h', h1, h2⟩ := toRet_some ho
        refine plain v h' ?_ h2
        simpa [aop] using h1
    | value f =>
      simp only at ho
      split at ho
      · rename_i g first captured hf
        have hc : call g _ h = some r := ho
        have hfv := hρ f
        rw [hf] at hfv
        simp only [V] at hfv
        obtain ⟨x, y, hxy, hx, hy⟩ := hfv
        have hv := evals_V hρ args.toList
        have hall : Vs φ ((first ++ evals P env args.toList) ++ captured) ((x ++ args.map a.eval) ++ y).toList := by
          simp only [Array.toList_append, Array.toList_map]
          exact (hx.append hv).append hy
        refine wp_goes ?_ (hcall g _ h r hc φ w0 w _ hR hall) hp
        rw [execOp_value, hxy]
        simp only [Deferred.ofValue, Sem.run_bind, Sem.run_pure, Result.andThen_ok, invoke]
      · cases ho
    | invoke recv name =>
      simp only at ho
      split at ho
      · rename_i t v hrv
        split at ho
        · rename_i g hg
          have hc : call g _ h = some r := ho
          have hfv := hρ recv
          rw [hrv] at hfv
          simp only [V] at hfv
          obtain ⟨y, hy1, hy⟩ := hfv
          have hv := evals_V hρ args.toList
          have hall : Vs φ (v :: evals P env args.toList) (#[y] ++ args.map a.eval).toList := by
            simp only [Array.toList_append, Array.toList_map, List.singleton_append, Vs_cons]
            exact ⟨hy, hv⟩
          refine wp_goes ?_ (hcall g _ h r hc φ w0 w _ hR hall) hp
          rw [execOp_invoke, hy1]
          have hdep : 0 < Made.depth := by decide
          obtain ⟨n, hn⟩ : ∃ n, P.types.size + Made.depth = n + 1 := ⟨P.types.size + Made.depth - 1, by omega⟩
          have hm := methodA_run hg y w n
          rw [← hn] at hm
          have hx : (#[Value.iface t y] ++ args.map a.eval)[0]? = some (.iface t y) := arr_head _ _
          have hex : (#[Value.iface t y] ++ args.map a.eval).extract 1 (#[Value.iface t y] ++ args.map a.eval).size = args.map a.eval := arr_rest _ _
          simp only [invoke, hx, hex, callMethod, Sem.run_bind, run_program, Result.andThen_ok, hm]
        · cases ho
      · cases ho
  · rename_i x
    exact wp_panics hR (hρ x) ho (execOp_panic _ _ _ _ _ _ _) hp
  · obtain ⟨v, h', h1, h2⟩ := toRet_some ho
    exact plain v h' h1 h2
end Go.Am
