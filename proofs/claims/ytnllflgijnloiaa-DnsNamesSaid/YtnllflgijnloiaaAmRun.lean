/- The abstract machine runs code and functions; what it comes to, the model comes to. -/
import Derived.Test.YtnllflgijnloiaaAmExec
import Derived.LoopN
import Derived.Scope
namespace Go.Am
open Go.RowKit

def putA (env : List AV) (dst : Option Tmp) (v : AV) : List AV :=
  match dst with
  | some d => env.set d v
  | none => env

theorem putA_V {φ : List Emb} {env : List AV} {a : Act} (h : Vs φ env a.tmps.toList) (dst : Option Tmp) {v : AV} {v' : Value} (hv : V φ v v') : Vs φ (putA env dst v) (a.put dst v').tmps.toList := by
  cases dst with
  | none => exact h
  | some d => simpa [putA, Act.put] using h.set d hv
theorem put_defers' (a : Act) (dst : Option Tmp) (v : Value) : (a.put dst v).defers = a.defers := by cases dst <;> rfl

/-- Is the operation wanted? (none: not known.) -/
def wantedA (ops : Array Oper) (env : List AV) (o : Oper) : Option Bool :=
  match o.guard with
  | none => some true
  | some (j, b) =>
    match (ops[j]?).bind (·.dst) with
    | none => some false
    | some d =>
      match nth env d with
      | .bool c => some (c == b)
      | .unk => none
      | _ => some false

theorem wantedA_eq {ops : Array Oper} {φ : List Emb} {env : List AV} {a : Act} {o : Oper} {t : Bool} (hw : wantedA ops env o = some t)
    (he : ∀ j b d, o.guard = some (j, b) → (ops[j]?).bind (·.dst) = some d → V φ (nth env d) (a.tmps.getD d undef)) : Region.wanted o (yielded ops a.tmps) = t := by
  unfold wantedA at hw
  unfold Region.wanted
  split at hw
  · rename_i hg; rw [hg]; simpa using hw
  · rename_i j b hg
    rw [hg]
    simp only
    split at hw
    · rename_i hd
      simp only [yielded, hd, Option.bind_none]
      cases hw
      rfl
    · rename_i d hd
      have hv := he j b d hg hd
      have hget : ∀ c, a.tmps.getD d undef = .bool c → a.tmps[d]? = some (.bool c) := by
        intro c hc
        cases hq : a.tmps[d]? with
        | none => simp [Array.getD_eq_getD_getElem?, hq, undef] at hc
        | some x => simp [Array.getD_eq_getD_getElem?, hq] at hc; rw [hc]
      split at hw
      · rename_i c hc
        rw [hc] at hv
        simp only [V] at hv
        simp only [yielded, hd, Option.bind_some, hget c hv]
        simp only [Option.some.injEq] at hw
        rw [← hw]
        cases c <;> cases b <;> rfl
      · cases hw
      · rename_i hnb hnu
        cases hw
        have hne : ∀ c, a.tmps[d]? ≠ some (.bool c) := by
          intro c hc
          have hgd : a.tmps.getD d undef = .bool c := by simp [Array.getD_eq_getD_getElem?, hc]
          rw [hgd] at hv
          cases hq : nth env d with
          | bool c' => exact hnb c' hq
          | unk => exact hnu hq
          | ptr l => rw [hq] at hv; cases l <;> simp [V] at hv
          | slice l n c => rw [hq] at hv; cases l <;> simp [V] at hv
          | map l => rw [hq] at hv; cases l <;> simp [V] at hv
          | chan l => rw [hq] at hv; cases l <;> simp [V] at hv
          | _ => rw [hq] at hv; simp [V] at hv
        simp only [yielded, hd, Option.bind_some]
        first
          | rfl
          | (split
             · rename_i c hc; exact absurd hc (hne c)
             · rfl)

/-- A region, in the text's order. -/
def opsA (call : CallF) (P : Program) (ops : Array Oper) : List Oper → List AV → Heap → Option (Out × List AV × Heap)
  | [], e, h => some (.normal, e, h)
  | o :: rest, e, h =>
    match wantedA ops e o with
    | some true =>
      (match opA call P e h o.op with
      | some (.ret v h') => opsA call P ops rest (putA e o.dst v) h'
      | some (.pan v h') => some (.pan v, e, h')
      | none => none)
    | some false => opsA call P ops rest (putA e o.dst (.tuple [])) h
    | none => none

/-- What holds where a run ends. -/
def Final (P : Program) (φ : List Emb) (w0 : World) (ds : List Deferred) (Q : Exit → Act → World → Prop) (r : Out × List AV × Heap) : Prop :=
  ∀ φ' w' a', Up φ φ' → R P φ' r.2.2 w0 w' → Vs φ' r.2.1 a'.tmps.toList → a'.defers = ds →
    match r.1 with
    | .normal => Q .normal a' w'
    | .exit id => Q (.exit id) a' w'
    | .ret => Q .ret a' w'
    | .pan v => ∀ v', V φ' v v' → Q (.panic [{ v := v', recovered := false }]) a' w'

theorem Final.up {P : Program} {φ φ' : List Emb} {w0 : World} {ds : List Deferred} {Q : Exit → Act → World → Prop} {r : Out × List AV × Heap} (h : Final P φ w0 ds Q r) (hu : Up φ φ') : Final P φ' w0 ds Q r :=
  fun φ'' w' a' h1 => h φ'' w' a' (hu.trans h1)

theorem undef_V (φ : List Emb) : V φ (.tuple []) undef := by simp only [V]; exact ⟨#[], rfl, by simp [Vs]⟩

theorem opsA_wp {P : Program} (hF : Fns P) {call : CallF} (hcall : CallsOk P call) {ops : Array Oper} {w0 : World} {Q : Exit → Act → World → Prop} : ∀ (rest : List Oper) (k : Nat), ops.toList.drop k = rest → ∀ (φ : List Emb) (e : List AV) (h : Heap) (w : World) (a : Act) (r : Out × List AV × Heap),
    R P φ h w0 w → Vs φ e a.tmps.toList → opsA call P ops rest e h = some r → Final P φ w0 a.defers Q r → wpOps P ops Q (List.range' k rest.length) a w
  | [], k, hk, φ, e, h, w, a, r, hR, he, hr, hf => by
    simp only [opsA, Option.some.injEq] at hr
    subst hr
    exact hf φ w a (Up.refl _) hR he rfl
  | o :: rest, k, hk, φ, e, h, w, a, r, hR, he, hr, hf => by
    have hok : ops[k]? = some o := by
      have : (ops.toList.drop k)[0]? = some o := by rw [hk]; rfl
      rw [List.getElem?_drop, Nat.add_zero, Array.getElem?_toList] at this
      exact this
    have hk' : ops.toList.drop (k + 1) = rest := by
      rw [← List.drop_drop, hk]; rfl
    have ih := opsA_wp hF hcall (w0 := w0) (Q := Q) rest (k + 1) hk'
    have hρ := fun x => evalA_V hR he x
    have hguard : ∀ t, wantedA ops e o = some t → Region.wanted o (yielded ops a.tmps) = t := fun t ht =>
      wantedA_eq (φ := φ) ht fun j b d _ _ => by
        have := nth_V he d
        simpa [Array.getD_eq_getD_getElem?, List.getD_eq_getElem?_getD] using this
    simp only [List.length_cons, List.range'_succ, wpOps, hok]
    simp only [opsA] at hr
    split at hr
    · rename_i hw
      rw [hguard true hw]
      simp only [if_true]
      left
      split at hr
      · rename_i v h' ho
        refine opA_wp hF hcall hR hρ ho ?_
        intro φ' w' v' hu hR' hv
        refine ih φ' _ h' w' _ r hR' (putA_V (Vs.up hu _ _ he) o.dst hv) hr ?_
        rw [put_defers']
        exact hf.up hu
      · rename_i v h' ho
        cases hr
        refine opA_wp hF hcall hR hρ ho ?_
        intro φ' w' v' hu hR' hv
        exact hf φ' w' a hu hR' (Vs.up hu _ _ he) rfl v' hv
      · cases hr
    · rename_i hw
      rw [hguard false hw]
      simp only [Bool.false_eq_true, if_false]
      refine ih φ _ h w _ r hR (putA_V he o.dst (undef_V φ)) hr ?_
      rw [put_defers']
      exact hf
    · cases hr

/-- A region that draws its order: laid in a later text. -/
abbrev DrawF := CallF → Array Oper → List AV → Heap → Option (Out × List AV × Heap)

def loopA (body : List AV → Heap → Option (Out × List AV × Heap)) : Nat → List AV → Heap → Option (Out × List AV × Heap)
  | 0, _, _ => none
  | n + 1, e, h =>
    match body e h with
    | some (.normal, e', h') => loopA body n e' h'
    | r => r

def execA (draw : DrawF) (call : CallF) (P : Program) (n : Nat) : Code → List AV → Heap → Option (Out × List AV × Heap)
  | .skip, e, h => some (.normal, e, h)
  | .label _, e, h => some (.normal, e, h)
  | .region _ ops dr, e, h => bif dr then draw call ops e h else opsA call P ops ops.toList e h
  | .seq a b, e, h =>
    match execA draw call P n a e h with
    | some (.normal, e', h') => execA draw call P n b e' h'
    | r => r
  | .cond c a b, e, h =>
    match evalA P e c with
    | .bool t => bif t then execA draw call P n a e h else execA draw call P n b e h
    | _ => none
  | .block id b, e, h =>
    match execA draw call P n b e h with
    | some (.exit i, e', h') => bif Nat.beq i id then some (.normal, e', h') else some (.exit i, e', h')
    | r => r
  | .loop b, e, h => loopA (execA draw call P n b) n e h
  | .exit id, e, h => some (.exit id, e, h)
  | .ret, e, h => some (.ret, e, h)
  | _, _, _ => none

def DrawOk (P : Program) (draw : DrawF) : Prop := ∀ (call : CallF), CallsOk P call → ∀ (id : Nat) (ops : Array Oper) (w0 : World) (Q : Exit → Act → World → Prop) (φ : List Emb) (e : List AV) (h : Heap) (w : World) (a : Act) (r : Out × List AV × Heap),
  R P φ h w0 w → Vs φ e a.tmps.toList → draw call ops e h = some r → Final P φ w0 a.defers Q r → (Code.region id ops true).wp P Q a w

theorem execA_wp {P : Program} (hF : Fns P) {draw : DrawF} (hD : DrawOk P draw) {call : CallF} (hcall : CallsOk P call) {w0 : World} {n : Nat} : ∀ (c : Code) (Q : Exit → Act → World → Prop) (φ : List Emb) (e : List AV) (h : Heap) (w : World) (a : Act) (r : Out × List AV × Heap),
    R P φ h w0 w → Vs φ e a.tmps.toList → execA draw call P n c e h = some r → Final P φ w0 a.defers Q r → c.wp P Q a w
  | .skip, Q, φ, e, h, w, a, r, hR, he, hr, hf => by
    simp only [execA, Option.some.injEq] at hr; subst hr
    exact wp_skip (hf φ w a (Up.refl _) hR he rfl)
  | .label l, Q, φ, e, h, w, a, r, hR, he, hr, hf => by
    simp only [execA, Option.some.injEq] at hr; subst hr
    exact wp_label (hf φ w a (Up.refl _) hR he rfl)
  | .region id ops dr, Q, φ, e, h, w, a, r, hR, he, hr, hf => by
    cases dr with
    | true =>
      simp only [execA, cond_true] at hr
      exact hD call hcall id ops w0 Q φ e h w a r hR he hr hf
    | false =>
      simp only [execA, cond_false] at hr
      refine wp_region ?_
      have := opsA_wp hF hcall (w0 := w0) (Q := Q) ops.toList 0 rfl φ e h w a r hR he hr hf
      rw [Array.length_toList] at this
      rw [List.range_eq_range']
      exact this
  | .seq x y, Q, φ, e, h, w, a, r, hR, he, hr, hf => by
    refine wp_seq ?_
    simp only [execA] at hr
    split at hr
    · rename_i e' h' hx
      refine execA_wp hF hD hcall x _ φ e h w a _ hR he hx ?_
      intro φ' w' a' hu hR' he' hd
      exact execA_wp hF hD hcall y Q φ' e' h' w' a' r hR' he' hr (by rw [hd]; exact hf.up hu)
    · rename_i hno
      refine execA_wp hF hD hcall x _ φ e h w a r hR he hr ?_
      intro φ' w' a' hu hR' he' hd
      have := hf φ' w' a' hu hR' he' hd
      obtain ⟨o, e', h'⟩ := r
      cases o with
      | normal => exact absurd hr (hno e' h')
      | exit id => exact this
      | ret => exact this
      | pan v => exact this
  | .cond c x y, Q, φ, e, h, w, a, r, hR, he, hr, hf => by
    simp only [execA] at hr
    split at hr
    · rename_i t ht
      have hc := evalA_V hR he c
      rw [ht] at hc
      simp only [V] at hc
      cases t with
      | true => exact wp_cond_true hc (execA_wp hF hD hcall x Q φ e h w a r hR he hr hf)
      | false => exact wp_cond_false hc (execA_wp hF hD hcall y Q φ e h w a r hR he hr hf)
    · cases hr
  | .block id b, Q, φ, e, h, w, a, r, hR, he, hr, hf => by
    refine wp_block ?_
    simp only [execA] at hr
    split at hr
    · rename_i i e' h' hx
      refine execA_wp hF hD hcall b _ φ e h w a _ hR he hx ?_
      intro φ' w' a' hu hR' he' hd
      cases hb : Nat.beq i id with
      | true =>
        have := Nat.eq_of_beq_eq_true hb
        subst this
        simp only [hb, cond_true, Option.some.injEq] at hr
        subst hr
        have := hf φ' w' a' hu hR' he' hd
        simpa [Exit.inBlock] using this
      | false =>
        have := Nat.ne_of_beq_eq_false hb
        simp only [hb, cond_false, Option.some.injEq] at hr
        subst hr
        have h2 := hf φ' w' a' hu hR' he' hd
        simpa [Exit.inBlock, this] using h2
    · rename_i hno
      refine execA_wp hF hD hcall b _ φ e h w a r hR he hr ?_
      intro φ' w' a' hu hR' he' hd
      have := hf φ' w' a' hu hR' he' hd
      obtain ⟨o, e', h'⟩ := r
      cases o with
      | normal => exact this
      | exit id => exact absurd hr (hno id e' h')
      | ret => exact this
      | pan v => exact this
  | .loop b, Q, φ, e, h, w, a, r, hR, he, hr, hf => by
    simp only [execA] at hr
    have key : ∀ (m : Nat) (φ : List Emb) (e : List AV) (h : Heap) (w : World) (a : Act), R P φ h w0 w → Vs φ e a.tmps.toList → loopA (execA draw call P n b) m e h = some r → Final P φ w0 a.defers Q r → Code.rounds P b Q m a w := by
      intro m
      induction m with
      | zero => intro φ e h w a hR he hr hf; simp [loopA] at hr
      | succ m ih =>
        intro φ e h w a hR he hr hf
        rw [rounds_succ]
        simp only [loopA] at hr
        split at hr
        · rename_i e' h' hx
          refine execA_wp hF hD hcall b _ φ e h w a _ hR he hx ?_
          intro φ' w' a' hu hR' he' hd
          exact ih φ' e' h' w' a' hR' he' hr (by rw [hd]; exact hf.up hu)
        · rename_i hno
          refine execA_wp hF hD hcall b _ φ e h w a r hR he hr ?_
          intro φ' w' a' hu hR' he' hd
          have := hf φ' w' a' hu hR' he' hd
          obtain ⟨o, e', h'⟩ := r
          cases o with
          | normal => exact absurd hr (hno e' h')
          | exit id => exact this
          | ret => exact this
          | pan v => exact this
    exact wp_loop_rounds n (key n φ e h w a hR he hr hf)
  | .exit id, Q, φ, e, h, w, a, r, hR, he, hr, hf => by
    simp only [execA, Option.some.injEq] at hr; subst hr
    exact wp_exit (hf φ w a (Up.refl _) hR he rfl)
  | .ret, Q, φ, e, h, w, a, r, hR, he, hr, hf => by
    simp only [execA, Option.some.injEq] at hr; subst hr
    exact wp_ret (hf φ w a (Up.refl _) hR he rfl)
  | .rangeFunc .., Q, φ, e, h, w, a, r, hR, he, hr, hf => by simp [execA] at hr
  | .scope .., Q, φ, e, h, w, a, r, hR, he, hr, hf => by simp [execA] at hr
  | .goto .., Q, φ, e, h, w, a, r, hR, he, hr, hf => by simp [execA] at hr
  | .refuse .., Q, φ, e, h, w, a, r, hR, he, hr, hf => by simp [execA] at hr

/-! ### Functions -/

def resultA (P : Program) (env : List AV) (h : Heap) : ResultVar → Option AV
  | .tmp t => (match nth env t with | .unk => none | v => some v)
  | .cell a t => (match nth env a with | .ptr (some l) => loadA P h t l | _ => none)
def resultsA (P : Program) (env : List AV) (h : Heap) : List ResultVar → Option (List AV)
  | [] => some []
  | r :: rs => match resultA P env h r, resultsA P env h rs with
    | some v, some vs => some (v :: vs)
    | _, _ => none
def single : List AV → AV
  | [v] => v
  | vs => .tuple vs

def resultOf (tmps : Array Value) : ResultVar → Sem Value
  | .tmp t => pure (tmps.getD t undef)
  | .cell a t => do loadVar t (← asAddr (tmps.getD a undef))
theorem results_eq (fn : Func) (tmps : Array Value) : results fn tmps = (do let vs ← fn.results.mapM (resultOf tmps); pure (if h : vs.size = 1 then vs[0] else .tuple vs)) := by
  unfold results
  congr 1

theorem resultsA_run {P : Program} {φ : List Emb} {h : Heap} {w0 w : World} (hR : R P φ h w0 w) {env : List AV} {tmps : Array Value} (he : Vs φ env tmps.toList) : ∀ {rs : List ResultVar} {vs : List AV}, resultsA P env h rs = some vs →
    ∃ us, (rs.mapM (resultOf tmps)).run P w = .ok us w ∧ Vs φ vs us
  | [], vs, hv => by
    simp only [resultsA, Option.some.injEq] at hv
    subst hv
    exact ⟨[], by simp, by simp [Vs]⟩
  | r :: rs, vs, hv => by
    simp only [resultsA] at hv
    split at hv
    · rename_i v vs' h1 h2
      cases hv
      obtain ⟨us, h3, h4⟩ := resultsA_run hR he h2
      have hnth : ∀ t, V φ (nth env t) (tmps.getD t undef) := fun t => by
        have := nth_V he t
        simpa [Array.getD_eq_getD_getElem?, List.getD_eq_getElem?_getD] using this
      cases r with
      | tmp t =>
        have hh := hnth t
        simp only [resultA] at h1
        split at h1
        · cases h1
        · rename_i h1'
          cases h1
          exact ⟨tmps.getD t undef :: us, by simp only [List.mapM_cons, resultOf, Sem.run_bind, Sem.run_pure, Result.andThen_ok, h3], by rw [Vs_cons]; exact ⟨hh, h4⟩⟩
      | cell a t =>
        simp only [resultA] at h1
        split at h1
        · rename_i l hl
          have hh := hnth a
          rw [hl] at hh
          obtain ⟨u, h5, h6⟩ := loadA_run hR h1 hh
          simp only [V] at hh
          obtain ⟨em, _, hv⟩ := hh
          rw [hv] at h5
          simp only [Instr.loadAt, Instr.sureAddr, Sem.run_bind, Sem.run_pure, Result.andThen_ok] at h5
          refine ⟨u :: us, ?_, by rw [Vs_cons]; exact ⟨h6, h4⟩⟩
          simp only [List.mapM_cons, resultOf, Sem.run_bind, hv, asAddr, Sem.run_pure, Result.andThen_ok, h5, h3]
        · cases h1
    · cases hv

theorem results_run {P : Program} {φ : List Emb} {h : Heap} {w0 w : World} (hR : R P φ h w0 w) {env : List AV} {tmps : Array Value} (he : Vs φ env tmps.toList) {fn : Func} {vs : List AV} (hv : resultsA P env h fn.results.toList = some vs) :
    ∃ u, (results fn tmps).run P w = .ok u w ∧ V φ (single vs) u := by
  obtain ⟨us, h1, h2⟩ := resultsA_run hR he hv
  have hm : (fn.results.mapM (resultOf tmps)).run P w = .ok us.toArray w := by
    rw [Array.mapM_eq_mapM_toList, Sem.run_map, h1]
    rfl
  refine ⟨if h : us.toArray.size = 1 then us.toArray[0] else .tuple us.toArray, ?_, ?_⟩
  · rw [results_eq, Sem.run_bind, hm]
    rfl
  · match vs, us, h2 with
    | [], us, h2 => rw [Vs_nil] at h2; subst h2; simp [single, V, Vs]
    | [v], us, h2 =>
      simp only [Vs] at h2
      obtain ⟨y, ys, rfl, hy, rfl⟩ := h2
      simpa [single] using hy
    | v :: v2 :: vs, us, h2 =>
      have hl := h2.length
      have : ¬ us.toArray.size = 1 := by simp at hl ⊢; omega
      rw [dif_neg this]
      simp only [single, V]
      exact ⟨_, rfl, by simpa using h2⟩

def frameA (fn : Func) (args : List AV) : List AV := args ++ List.replicate (fn.ntmps - args.length) (.tuple [])

/-- A call: the body, then the results. -/
def callBody (exec : Code → List AV → Heap → Option (Out × List AV × Heap)) (P : Program) (fn : Func) (args : List AV) (h : Heap) : Option CRes :=
  match fn.body with
  | none => none
  | some c =>
    match exec c (frameA fn args) h with
    | some (.normal, e, h') | some (.ret, e, h') => (match resultsA P e h' fn.results.toList with | some vs => some (.ret (single vs) h') | none => none)
    | some (.pan v, _, h') => some (.pan v h')
    | _ => none

theorem callBody_ok {P : Program} (hF : Fns P) {draw : DrawF} (hD : DrawOk P draw) {call : CallF} (hcall : CallsOk P call) {n : Nat} {f : FuncId} {fn : Func} (hf : P.funcs[f]? = some fn) {args : List AV} {h : Heap} {r : CRes} (hr : callBody (execA draw call P n) P fn args h = some r) : CallOk P f args h r := by
  intro φ w0 w args' hR ha
  unfold callBody at hr
  split at hr
  · cases hr
  rename_i c hb
  have hlen : args'.size = args.length := by rw [← Array.length_toList, ha.length]
  have hframe : Vs φ (frameA fn args) (args' ++ Array.replicate (fn.ntmps - args'.size) undef).toList := by
    simp only [frameA, Array.toList_append, Array.toList_replicate]
    refine ha.append (Vs.of_get (by simp [hlen]) fun i a v h1 h2 => ?_)
    rw [List.getElem?_replicate] at h1 h2
    split at h1
    · cases h1
      split at h2
      · cases h2; exact undef_V φ
      · cases h2
    · cases h1
  refine .inl ⟨callFunc_run hF hf hb _ _, calls_of_wp hf hb ?_⟩
  have fin : ∀ e h', (match resultsA P e h' fn.results.toList with | some vs => some (CRes.ret (single vs) h') | none => none) = some r → ∀ φ' w' (a' : Act), Up φ φ' → R P φ' h' w0 w' → Vs φ' e a'.tmps.toList → a'.defers = [] →
      a'.defers = [] ∧ ∃ v, (results fn a'.tmps).run P w' = .ok v w' ∧ PostC P φ w0 r (.returned v) w' := by
    intro e h' hres φ' w' a' hu hR' he' hd
    split at hres
    · rename_i vs hvs
      cases hres
      obtain ⟨u, h1, h2⟩ := results_run hR' he' hvs
      exact ⟨hd, u, h1, φ', u, rfl, hu, hR', h2⟩
    · cases hres
  split at hr
  · rename_i e h' hx
    exact execA_wp hF hD hcall c _ φ _ h w _ _ hR hframe hx (fun φ' w' a' hu hR' he' hd => fin e h' hr φ' w' a' hu hR' he' hd)
  · rename_i e h' hx
    exact execA_wp hF hD hcall c _ φ _ h w _ _ hR hframe hx (fun φ' w' a' hu hR' he' hd => fin e h' hr φ' w' a' hu hR' he' hd)
  · rename_i v e h' hx
    cases hr
    refine execA_wp hF hD hcall c _ φ _ h w _ _ hR hframe hx (fun φ' w' a' hu hR' he' hd v' hv => ?_)
    exact ⟨hd, φ', v', rfl, hu, hR', hv⟩
  · cases hr

/-- Calls, d deep at most; 'ov' says what is known of a call already. -/
def callN (draw : DrawF) (ov : CallF) (P : Program) (n : Nat) : Nat → CallF
  | 0, f, args, h => ov f args h
  | d + 1, f, args, h =>
    match ov f args h with
    | some r => some r
    | none =>
      match P.funcs[f]? with
      | none => none
      | some fn => callBody (execA draw (callN draw ov P n d) P n) P fn args h

theorem callN_ok {P : Program} (hF : Fns P) {draw : DrawF} (hD : DrawOk P draw) {ov : CallF} (hov : CallsOk P ov) {n : Nat} : ∀ d, CallsOk P (callN draw ov P n d)
  | 0 => hov
  | d + 1 => by
    intro f args h r hr
    simp only [callN] at hr
    split at hr
    · rename_i r' ho
      cases hr
      exact hov f args h _ ho
    · split at hr
      · cases hr
      · rename_i fn hf
        exact callBody_ok hF hD (callN_ok hF hD hov d) hf hr
end Go.Am
