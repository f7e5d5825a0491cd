/- Parts of the proof by the abstract machine: Run, DrawDef, Draw, Draw2. -/
import Derived.Test.YteoekjfgihnhaaaGreatDoorHmGRB12
import Derived.LoopNIn
import Derived.OrdersIn
set_option linter.all false
noncomputable section
namespace Go.Am
open Go.RowKit

def putA (env : List AV) (dst : Option Tmp) (v : AV) : List AV :=
  match dst with
  | some d => env.set d v
  | none => env

theorem putA_V {φ : List Emb} {env : List AV} {a : Act} (h : Vs φ env a.tmps.toList) (dst : Option Tmp) {v : AV} {v' : Value} (hv : V φ v v') : Vs φ (putA env dst v) (a.put dst v').tmps.toList := by
  cases dst with
  | none => exact h
  | some d => simpa [putA, Act.put] using h.set d hv
theorem put_defers' (a : Act) (dst : Option Tmp) (v : Value) : (a.put dst v).defers = a.defers := by cases dst <;> rfl

/-- Is the operation wanted? (none: not known.) -/
def wantedA (ops : Array Oper) (env : List AV) (o : Oper) : Option Bool :=
  match o.guard with
  | none => some true
  | some (j, b) =>
    match (ops[j]?).bind (·.dst) with
    | none => some false
    | some d =>
      match nth env d with
      | .bool c => some (c == b)
      | .unk => none
      | _ => some false

theorem wantedA_eq {ops : Array Oper} {φ : List Emb} {env : List AV} {a : Act} {o : Oper} {t : Bool} (hw : wantedA ops env o = some t)
    (he : ∀ j b d, o.guard = some (j, b) → (ops[j]?).bind (·.dst) = some d → V φ (nth env d) (a.tmps.getD d undef)) : Region.wanted o (yielded ops a.tmps) = t := by
  unfold wantedA at hw
  unfold Region.wanted
  split at hw
  · rename_i hg; rw [hg]; simpa using hw
  · rename_i j b hg
    rw [hg]
    simp only
    split at hw
    · rename_i hd
      simp only [yielded, hd, Option.bind_none]
      cases hw
      rfl
    · rename_i d hd
      have hv := he j b d hg hd
      have hget : ∀ c, a.tmps.getD d undef = .bool c → a.tmps[d]? = some (.bool c) := by
        intro c hc
        cases hq : a.tmps[d]? with
        | none => simp [Array.getD_eq_getD_getElem?, hq, undef] at hc
        | some x => simp [Array.getD_eq_getD_getElem?, hq] at hc; rw [hc]
      split at hw
      · rename_i c hc
        rw [hc] at hv
        simp only [V] at hv
        simp only [yielded, hd, Option.bind_some, hget c hv]
        simp only [Option.some.injEq] at hw
        rw [← hw]
        cases c <;> cases b <;> rfl
      · cases hw
      · rename_i hnb hnu
        cases hw
        have hne : ∀ c, a.tmps[d]? ≠ some (.bool c) := by
          intro c hc
          have hgd : a.tmps.getD d undef = .bool c := by simp [Array.getD_eq_getD_getElem?, hc]
          rw [hgd] at hv
          cases hq : nth env d with
          | bool c' => exact hnb c' hq
          | unk => exact hnu hq
          | ptr l => rw [hq] at hv; cases l <;> simp [V] at hv
          | slice l n c => rw [hq] at hv; cases l <;> simp [V] at hv
          | map l => rw [hq] at hv; cases l <;> simp [V] at hv
          | chan l => rw [hq] at hv; cases l <;> simp [V] at hv
          | yield k => rw [hq] at hv; simp only [V] at hv; obtain ⟨_, _, hv⟩ := hv; cases hv
          | _ => rw [hq] at hv; simp [V] at hv
        simp only [yielded, hd, Option.bind_some]
        first
          | rfl
          | (split
             · rename_i c hc; exact absurd hc (hne c)
             · rfl)

/-- A region, in the text's order. -/
def opsA (call : CallF) (P : Program) (ops : Array Oper) : List Oper → List AV → Heap → Option (Out × List AV × Heap)
  | [], e, h => some (.normal, e, h)
  | o :: rest, e, h =>
    match wantedA ops e o with
    | some true =>
      (match opA call P e h o.op with
      | some (.ret v h') => opsA call P ops rest (putA e o.dst v) h'
      | some (.pan v h') => some (.pan v, e, h')
      | none => none)
    | some false => opsA call P ops rest (putA e o.dst (.tuple [])) h
    | none => none

/-- What holds where a run ends. -/
def Final (P : Program) (φ : List Emb) (w0 : World) (ds : List Deferred) (Q : Exit → Act → World → Prop) (r : Out × List AV × Heap) : Prop :=
  ∀ φ' w' a', Up φ φ' → R P φ' r.2.2 w0 w' → Vs φ' r.2.1 a'.tmps.toList → a'.defers = ds →
    match r.1 with
    | .normal => Q .normal a' w'
    | .exit id => Q (.exit id) a' w'
    | .ret => Q .ret a' w'
    | .pan v => ∀ v', V φ' v v' → Q (.panic [{ v := v', recovered := false }]) a' w'

theorem Final.up {P : Program} {φ φ' : List Emb} {w0 : World} {ds : List Deferred} {Q : Exit → Act → World → Prop} {r : Out × List AV × Heap} (h : Final P φ w0 ds Q r) (hu : Up φ φ') : Final P φ' w0 ds Q r :=
  fun φ'' w' a' h1 => h φ'' w' a' (hu.trans h1)

theorem undef_V (φ : List Emb) : V φ (.tuple []) undef := by simp only [V]; exact ⟨#[], rfl, by simp [Vs]⟩

theorem opsA_wp {ρ : Option Nat} {P : Program} (hF : Fns P) {call : CallF} (hcall : CallsOk P call) {ops : Array Oper} {w0 : World} {Q : Exit → Act → World → Prop} : ∀ (rest : List Oper) (k : Nat), ops.toList.drop k = rest → ∀ (φ : List Emb) (e : List AV) (h : Heap) (w : World) (a : Act) (r : Out × List AV × Heap),
    R P φ h w0 w → Vs φ e a.tmps.toList → opsA call P ops rest e h = some r → Final P φ w0 a.defers Q r → wpOpsIn (wideR ρ) 0 P ops Q (List.range' k rest.length) a w
  | [], k, hk, φ, e, h, w, a, r, hR, he, hr, hf => by
    simp only [opsA, Option.some.injEq] at hr
    subst hr
    exact hf φ w a (Up.refl _) hR he rfl
  | o :: rest, k, hk, φ, e, h, w, a, r, hR, he, hr, hf => by
    have hok : ops[k]? = some o := by
      have : (ops.toList.drop k)[0]? = some o := by rw [hk]; rfl
      rw [List.getElem?_drop, Nat.add_zero, Array.getElem?_toList] at this
      exact this
    have hk' : ops.toList.drop (k + 1) = rest := by
      rw [← List.drop_drop, hk]; rfl
    have ih := opsA_wp (ρ := ρ) hF hcall (w0 := w0) (Q := Q) rest (k + 1) hk'
    have hρ := fun x => evalA_V hR he x
    have hguard : ∀ t, wantedA ops e o = some t → Region.wanted o (yielded ops a.tmps) = t := fun t ht =>
      wantedA_eq (φ := φ) ht fun j b d _ _ => by
        have := nth_V he d
        simpa [Array.getD_eq_getD_getElem?, List.getD_eq_getElem?_getD] using this
    simp only [List.length_cons, List.range'_succ, wpOpsIn, hok]
    simp only [opsA] at hr
    split at hr
    · rename_i hw
      rw [hguard true hw]
      simp only [if_true]
      split at hr
      · rename_i v h' ho
        refine opA_wp hF hcall hR hρ ho ?_
        intro φ' w' v' hu hR' hv
        refine ih φ' _ h' w' _ r hR' (putA_V (Vs.up hu _ _ he) o.dst hv) hr ?_
        rw [put_defers']
        exact hf.up hu
      · rename_i v h' ho
        cases hr
        refine opA_wp hF hcall hR hρ ho ?_
        intro φ' w' v' hu hR' hv
        exact hf φ' w' a hu hR' (Vs.up hu _ _ he) rfl v' hv
      · cases hr
    · rename_i hw
      rw [hguard false hw]
      simp only [Bool.false_eq_true, if_false]
      refine ⟨fun _ _ => trivial, ih φ _ h w _ r hR (putA_V he o.dst (undef_V φ)) hr ?_⟩
      rw [put_defers']
      exact hf
    · cases hr

/-- A region that draws its order: laid in a later text. -/
abbrev DrawF := CallF → Array Oper → List AV → Heap → Option (Out × List AV × Heap)

def loopA (body : List AV → Heap → Option (Out × List AV × Heap)) : Nat → List AV → Heap → Option (Out × List AV × Heap)
  | 0, _, _ => none
  | n + 1, e, h =>
    match body e h with
    | some (.normal, e', h') => loopA body n e' h'
    | r => r

def execA (draw : DrawF) (call : CallF) (P : Program) (n : Nat) : Code → List AV → Heap → Option (Out × List AV × Heap)
  | .skip, e, h => some (.normal, e, h)
  | .label _, e, h => some (.normal, e, h)
  | .region _ ops dr, e, h => bif dr then draw call ops e h else opsA call P ops ops.toList e h
  | .seq a b, e, h =>
    match execA draw call P n a e h with
    | some (.normal, e', h') => execA draw call P n b e' h'
    | r => r
  | .cond c a b, e, h =>
    match evalA P e c with
    | .bool t => bif t then execA draw call P n a e h else execA draw call P n b e h
    | _ => none
  | .block id b, e, h =>
    match execA draw call P n b e h with
    | some (.exit i, e', h') => bif Nat.beq i id then some (.normal, e', h') else some (.exit i, e', h')
    | r => r
  | .loop b, e, h => loopA (execA draw call P n b) n e h
  | .exit id, e, h => some (.exit id, e, h)
  | .ret, e, h => some (.ret, e, h)
  | _, _, _ => none

/-- A piece of code's condition, in a round's frame or not. -/
def cwp (ρ : Option Nat) (P : Program) (c : Code) (Q : Exit → Act → World → Prop) (a : Act) (w : World) : Prop := c.wpIn (wideR ρ) 0 P Q a w
def DrawOk (P : Program) (draw : DrawF) : Prop := ∀ (ρ : Option Nat) (call : CallF), CallsOk P call → ∀ (id : Nat) (ops : Array Oper) (w0 : World) (Q : Exit → Act → World → Prop) (φ : List Emb) (e : List AV) (h : Heap) (w : World) (a : Act) (r : Out × List AV × Heap),
  R P φ h w0 w → Vs φ e a.tmps.toList → draw call ops e h = some r → Final P φ w0 a.defers Q r → cwp ρ P (.region id ops true) Q a w

theorem execA_wp {ρ : Option Nat} {P : Program} (hF : Fns P) {draw : DrawF} (hD : DrawOk P draw) {call : CallF} (hcall : CallsOk P call) {w0 : World} {n : Nat} : ∀ (c : Code) (Q : Exit → Act → World → Prop) (φ : List Emb) (e : List AV) (h : Heap) (w : World) (a : Act) (r : Out × List AV × Heap),
    R P φ h w0 w → Vs φ e a.tmps.toList → execA draw call P n c e h = some r → Final P φ w0 a.defers Q r → cwp ρ P c Q a w
  | .skip, Q, φ, e, h, w, a, r, hR, he, hr, hf => by
    simp only [execA, Option.some.injEq] at hr; subst hr
    exact wpIn_skip (hf φ w a (Up.refl _) hR he rfl)
  | .label l, Q, φ, e, h, w, a, r, hR, he, hr, hf => by
    simp only [execA, Option.some.injEq] at hr; subst hr
    exact wpIn_label (hf φ w a (Up.refl _) hR he rfl)
  | .region id ops dr, Q, φ, e, h, w, a, r, hR, he, hr, hf => by
    cases dr with
    | true =>
      simp only [execA, cond_true] at hr
      exact hD ρ call hcall id ops w0 Q φ e h w a r hR he hr hf
    | false =>
      simp only [execA, cond_false] at hr
      refine wpIn_region ?_
      have := opsA_wp (ρ := ρ) hF hcall (w0 := w0) (Q := Q) ops.toList 0 rfl φ e h w a r hR he hr hf
      rw [Array.length_toList] at this
      rw [List.range_eq_range']
      exact this
  | .seq x y, Q, φ, e, h, w, a, r, hR, he, hr, hf => by
    refine wpIn_seq ?_
    simp only [execA] at hr
    split at hr
    · rename_i e' h' hx
      refine execA_wp hF hD hcall x _ φ e h w a _ hR he hx ?_
      intro φ' w' a' hu hR' he' hd
      exact execA_wp hF hD hcall y Q φ' e' h' w' a' r hR' he' hr (by rw [hd]; exact hf.up hu)
    · rename_i hno
      refine execA_wp hF hD hcall x _ φ e h w a r hR he hr ?_
      intro φ' w' a' hu hR' he' hd
      have := hf φ' w' a' hu hR' he' hd
      obtain ⟨o, e', h'⟩ := r
      cases o with
      | normal => exact absurd hr (hno e' h')
      | exit id => exact this
      | ret => exact this
      | pan v => exact this
  | .cond c x y, Q, φ, e, h, w, a, r, hR, he, hr, hf => by
    simp only [execA] at hr
    split at hr
    · rename_i t ht
      have hc := evalA_V hR he c
      rw [ht] at hc
      simp only [V] at hc
      cases t with
      | true => exact wpIn_cond_true hc (execA_wp hF hD hcall x Q φ e h w a r hR he hr hf)
      | false => exact wpIn_cond_false hc (execA_wp hF hD hcall y Q φ e h w a r hR he hr hf)
    · cases hr
  | .block id b, Q, φ, e, h, w, a, r, hR, he, hr, hf => by
    refine wpIn_block ?_
    simp only [execA] at hr
    split at hr
    · rename_i i e' h' hx
      refine execA_wp hF hD hcall b _ φ e h w a _ hR he hx ?_
      intro φ' w' a' hu hR' he' hd
      cases hb : Nat.beq i id with
      | true =>
        have := Nat.eq_of_beq_eq_true hb
        subst this
        simp only [hb, cond_true, Option.some.injEq] at hr
        subst hr
        have := hf φ' w' a' hu hR' he' hd
        simpa [Exit.inBlock] using this
      | false =>
        have := Nat.ne_of_beq_eq_false hb
        simp only [hb, cond_false, Option.some.injEq] at hr
        subst hr
        have h2 := hf φ' w' a' hu hR' he' hd
        simpa [Exit.inBlock, this] using h2
    · rename_i hno
      refine execA_wp hF hD hcall b _ φ e h w a r hR he hr ?_
      intro φ' w' a' hu hR' he' hd
      have := hf φ' w' a' hu hR' he' hd
      obtain ⟨o, e', h'⟩ := r
      cases o with
      | normal => exact this
      | exit id => exact absurd hr (hno id e' h')
      | ret => exact this
      | pan v => exact this
  | .loop b, Q, φ, e, h, w, a, r, hR, he, hr, hf => by
    simp only [execA] at hr
    have key : ∀ (m : Nat) (φ : List Emb) (e : List AV) (h : Heap) (w : World) (a : Act), R P φ h w0 w → Vs φ e a.tmps.toList → loopA (execA draw call P n b) m e h = some r → Final P φ w0 a.defers Q r → Code.roundsIn (wideR ρ) 0 P b Q m a w := by
      intro m
      induction m with
      | zero => intro φ e h w a hR he hr hf; simp [loopA] at hr
      | succ m ih =>
        intro φ e h w a hR he hr hf
        rw [roundsIn_succ]
        simp only [loopA] at hr
        split at hr
        · rename_i e' h' hx
          refine execA_wp hF hD hcall b _ φ e h w a _ hR he hx ?_
          intro φ' w' a' hu hR' he' hd
          exact ih φ' e' h' w' a' hR' he' hr (by rw [hd]; exact hf.up hu)
        · rename_i hno
          refine execA_wp hF hD hcall b _ φ e h w a r hR he hr ?_
          intro φ' w' a' hu hR' he' hd
          have := hf φ' w' a' hu hR' he' hd
          obtain ⟨o, e', h'⟩ := r
          cases o with
          | normal => exact absurd hr (hno e' h')
          | exit id => exact this
          | ret => exact this
          | pan v => exact this
    exact wpIn_loop_rounds n (key n φ e h w a hR he hr hf)
  | .exit id, Q, φ, e, h, w, a, r, hR, he, hr, hf => by
    simp only [execA, Option.some.injEq] at hr; subst hr
    exact wpIn_exit (hf φ w a (Up.refl _) hR he rfl)
  | .ret, Q, φ, e, h, w, a, r, hR, he, hr, hf => by
    simp only [execA, Option.some.injEq] at hr; subst hr
    exact wpIn_ret (hf φ w a (Up.refl _) hR he rfl)
  | .rangeFunc .., Q, φ, e, h, w, a, r, hR, he, hr, hf => by simp [execA] at hr
  | .scope .., Q, φ, e, h, w, a, r, hR, he, hr, hf => by simp [execA] at hr
  | .goto .., Q, φ, e, h, w, a, r, hR, he, hr, hf => by simp [execA] at hr
  | .refuse .., Q, φ, e, h, w, a, r, hR, he, hr, hf => by simp [execA] at hr

/-! ### Functions -/

def resultA (P : Program) (env : List AV) (h : Heap) : ResultVar → Option AV
  | .tmp t => (match nth env t with | .unk => none | v => some v)
  | .cell a t => (match nth env a with | .ptr (some l) => loadA P h t l | _ => none)
def resultsA (P : Program) (env : List AV) (h : Heap) : List ResultVar → Option (List AV)
  | [] => some []
  | r :: rs => match resultA P env h r, resultsA P env h rs with
    | some v, some vs => some (v :: vs)
    | _, _ => none
def single : List AV → AV
  | [v] => v
  | vs => .tuple vs

def resultOf (tmps : Array Value) : ResultVar → Sem Value
  | .tmp t => pure (tmps.getD t undef)
  | .cell a t => do loadVar t (← asAddr (tmps.getD a undef))
theorem results_eq (fn : Func) (tmps : Array Value) : results fn tmps = (do let vs ← fn.results.mapM (resultOf tmps); pure (if h : vs.size = 1 then vs[0] else .tuple vs)) := by
  unfold results
  congr 1

theorem resultsA_run {P : Program} {φ : List Emb} {h : Heap} {w0 w : World} (hR : R P φ h w0 w) {env : List AV} {tmps : Array Value} (he : Vs φ env tmps.toList) : ∀ {rs : List ResultVar} {vs : List AV}, resultsA P env h rs = some vs →
    ∃ us, (rs.mapM (resultOf tmps)).run P w = .ok us w ∧ Vs φ vs us
  | [], vs, hv => by
    simp only [resultsA, Option.some.injEq] at hv
    subst hv
    exact ⟨[], by simp, by simp [Vs]⟩
  | r :: rs, vs, hv => by
    simp only [resultsA] at hv
    split at hv
    · rename_i v vs' h1 h2
      cases hv
      obtain ⟨us, h3, h4⟩ := resultsA_run hR he h2
      have hnth : ∀ t, V φ (nth env t) (tmps.getD t undef) := fun t => by
        have := nth_V he t
        simpa [Array.getD_eq_getD_getElem?, List.getD_eq_getElem?_getD] using this
      cases r with
      | tmp t =>
        have hh := hnth t
        simp only [resultA] at h1
        split at h1
        · cases h1
        · rename_i h1'
          cases h1
          exact ⟨tmps.getD t undef :: us, by simp only [List.mapM_cons, resultOf, Sem.run_bind, Sem.run_pure, Result.andThen_ok, h3], by rw [Vs_cons]; exact ⟨hh, h4⟩⟩
      | cell a t =>
        simp only [resultA] at h1
        split at h1
        · rename_i l hl
          have hh := hnth a
          rw [hl] at hh
          obtain ⟨u, h5, h6⟩ := loadA_run hR h1 hh
          simp only [V] at hh
          obtain ⟨em, _, hv⟩ := hh
          rw [hv] at h5
          simp only [Instr.loadAt, Instr.sureAddr, Sem.run_bind, Sem.run_pure, Result.andThen_ok] at h5
          refine ⟨u :: us, ?_, by rw [Vs_cons]; exact ⟨h6, h4⟩⟩
          simp only [List.mapM_cons, resultOf, Sem.run_bind, hv, asAddr, Sem.run_pure, Result.andThen_ok, h5, h3]
        · cases h1
    · cases hv

theorem results_run {P : Program} {φ : List Emb} {h : Heap} {w0 w : World} (hR : R P φ h w0 w) {env : List AV} {tmps : Array Value} (he : Vs φ env tmps.toList) {fn : Func} {vs : List AV} (hv : resultsA P env h fn.results.toList = some vs) :
    ∃ u, (results fn tmps).run P w = .ok u w ∧ V φ (single vs) u := by
  obtain ⟨us, h1, h2⟩ := resultsA_run hR he hv
  have hm : (fn.results.mapM (resultOf tmps)).run P w = .ok us.toArray w := by
    rw [Array.mapM_eq_mapM_toList, Sem.run_map, h1]
    rfl
  refine ⟨if h : us.toArray.size = 1 then us.toArray[0] else .tuple us.toArray, ?_, ?_⟩
  · rw [results_eq, Sem.run_bind, hm]
    rfl
  · match vs, us, h2 with
    | [], us, h2 => rw [Vs_nil] at h2; subst h2; simp [single, V, Vs]
    | [v], us, h2 =>
      simp only [Vs] at h2
      obtain ⟨y, ys, rfl, hy, rfl⟩ := h2
      simpa [single] using hy
    | v :: v2 :: vs, us, h2 =>
      have hl := h2.length
      have : ¬ us.toArray.size = 1 := by simp at hl ⊢; omega
      rw [dif_neg this]
      simp only [single, V]
      exact ⟨_, rfl, by simpa using h2⟩

def frameA (fn : Func) (args : List AV) : List AV := args ++ List.replicate (fn.ntmps - args.length) (.tuple [])

/-- A call: the body, then the results. -/
def callBody (exec : Code → List AV → Heap → Option (Out × List AV × Heap)) (P : Program) (fn : Func) (args : List AV) (h : Heap) : Option CRes :=
  match fn.body with
  | none => none
  | some c =>
    match exec c (frameA fn args) h with
    | some (.normal, e, h') | some (.ret, e, h') => (match resultsA P e h' fn.results.toList with | some vs => some (.ret (single vs) h') | none => none)
    | some (.pan v, _, h') => some (.pan v h')
    | _ => none

theorem callBody_ok {P : Program} (hF : Fns P) {draw : DrawF} (hD : DrawOk P draw) {call : CallF} (hcall : CallsOk P call) {n : Nat} {f : FuncId} {fn : Func} (hf : P.funcs[f]? = some fn) {args : List AV} {h : Heap} {r : CRes} (hr : callBody (execA draw call P n) P fn args h = some r) : CallOk P f args h r := by
  intro φ w0 w args' hR ha
  unfold callBody at hr
  split at hr
  · cases hr
  rename_i c hb
  have hlen : args'.size = args.length := by rw [← Array.length_toList, ha.length]
  have hframe : Vs φ (frameA fn args) (args' ++ Array.replicate (fn.ntmps - args'.size) undef).toList := by
    simp only [frameA, Array.toList_append, Array.toList_replicate]
    refine ha.append (Vs.of_get (by simp [hlen]) fun i a v h1 h2 => ?_)
    rw [List.getElem?_replicate] at h1 h2
    split at h1
    · cases h1
      split at h2
      · cases h2; exact undef_V φ
      · cases h2
    · cases h1
  rw [if_pos (Array.getElem?_eq_some_iff.1 hf).1]
  refine .inl ⟨callFunc_run hF hf hb _ _, callsR.1 (callsIn_of_wp (F := wideR none) (n := 0) hf hb trivial ?_)⟩
  have fin : ∀ e h', (match resultsA P e h' fn.results.toList with | some vs => some (CRes.ret (single vs) h') | none => none) = some r → ∀ φ' w' (a' : Act), Up φ φ' → R P φ' h' w0 w' → Vs φ' e a'.tmps.toList → a'.defers = [] →
      a'.defers = [] ∧ ∃ v, (results fn a'.tmps).run P w' = .ok v w' ∧ PostC P φ w0 r (.returned v) w' := by
    intro e h' hres φ' w' a' hu hR' he' hd
    split at hres
    · rename_i vs hvs
      cases hres
      obtain ⟨u, h1, h2⟩ := results_run hR' he' hvs
      exact ⟨hd, u, h1, φ', u, rfl, hu, hR', h2⟩
    · cases hres
  split at hr
  · rename_i e h' hx
    exact execA_wp hF hD hcall c _ φ _ h w _ _ hR hframe hx (fun φ' w' a' hu hR' he' hd => fin e h' hr φ' w' a' hu hR' he' hd)
  · rename_i e h' hx
    exact execA_wp hF hD hcall c _ φ _ h w _ _ hR hframe hx (fun φ' w' a' hu hR' he' hd => fin e h' hr φ' w' a' hu hR' he' hd)
  · rename_i v e h' hx
    cases hr
    refine execA_wp hF hD hcall c _ φ _ h w _ _ hR hframe hx (fun φ' w' a' hu hR' he' hd v' hv => ?_)
    exact ⟨hd, φ', v', rfl, hu, hR', hv⟩
  · cases hr

/-- Calls, d deep at most; 'ov' says what is known of a call already. -/
def callN (draw : DrawF) (ov : CallF) (P : Program) (n : Nat) : Nat → CallF
  | 0, f, args, h => ov f args h
  | d + 1, f, args, h =>
    match ov f args h with
    | some r => some r
    | none =>
      match P.funcs[f]? with
      | none => none
      | some fn => callBody (execA draw (callN draw ov P n d) P n) P fn args h

theorem callN_ok {P : Program} (hF : Fns P) {draw : DrawF} (hD : DrawOk P draw) {ov : CallF} (hov : CallsOk P ov) {n : Nat} : ∀ d, CallsOk P (callN draw ov P n d)
  | 0 => hov
  | d + 1 => by
    intro f args h r hr
    simp only [callN] at hr
    split at hr
    · rename_i r' ho
      cases hr
      exact hov f args h _ ho
    · split at hr
      · cases hr
      · rename_i fn hf
        exact callBody_ok hF hD (callN_ok hF hD hov d) hf hr
end Go.Am

noncomputable section
namespace Go.Am
open Go.RowKit

/-- Does it write or make memory (or may it)? -/
def loudA (P : Program) : Op → Bool
  | .move _ | .assign _ | .pick .. | .build .. | .load .. | .nilCheck _ | .binOp .. | .unOp .. | .makeInterface .. | .makeFunc .. | .slice .. | .fieldAddr .. | .field .. | .indexAddr .. | .index .. | .typeAssert .. | .extract .. => false
  | .convert _ dst _ => (match P.underlying dst with | some (.slice _) => true | _ => false)
  | .call c => (match c.callee with | .builtin .len | .builtin .max | .builtin .min => false | _ => true)
  | _ => true

/-- Does its answer hang on memory? (Of those that are not loud.) -/
def readsA (P : Program) : Op → Bool
  | .load .. => true
  | .slice t _ _ (some _) _ => (match P.underlying t with | some (.slice _) => true | _ => false)
  | .binOp _ t _ _ _ => (match P.underlying t with | some (.pointer _) => true | _ => false)
  | .convert src _ _ => (match P.underlying src with | some (.slice _) => true | some (.pointer _) => true | some .unsafePointer => true | _ => false)
  | .call c => (match c.callee, c.argTypes.toList with | .builtin .len, [t] => (match P.underlying t with | some (.map _ _) => true | _ => false) | _, _ => false)
  | _ => false

def bindsA (e : Edge) : Bool := Region.binds .any e

def maskOf (bs : List Nat) : List Edge → Nat
  | [] => 0
  | e :: es => bif bindsA e then (1 <<< e.on) ||| bs.getD e.on 0 ||| maskOf bs es else maskOf bs es

def masks : List Oper → List Nat → List Nat
  | [], acc => acc
  | o :: os, acc => masks os (acc ++ [maskOf acc o.after.toList])

def usesA (ops : Array Oper) (o : Oper) : List Tmp :=
  (o.op.operands.toList.filterMap fun | .tmp t => some t | _ => none) ++
  (match o.guard with
   | some (g, _) => ((ops[g]?).bind (·.dst)).toList
   | none => [])

/-- Of the operations i and j, i ahead of j in the text: may nothing be said of their order? Then they must not touch. -/
def pairOk (P : Program) (ops : Array Oper) (x y : Oper) (before : Bool) : Bool :=
  before ||
  (!(loudA P x.op && loudA P y.op) &&
   (match x.dst with | some d => !(usesA ops y).contains d | none => true) &&
   (match y.dst with | some d => !(usesA ops x).contains d | none => true))

def dstOk (x y : Oper) : Bool :=
  match x.dst, y.dst with
  | some c, some d => !Nat.beq c d
  | _, _ => true

def allFrom (p : Nat → Oper → Bool) : List Oper → Nat → Bool
  | [], _ => true
  | o :: os, i => p i o && allFrom p os (i + 1)

def drawStatic (P : Program) (ops : Array Oper) (bs : List Nat) : Bool :=
  allFrom (fun j y =>
    (y.after.toList.all fun e => !bindsA e || Nat.blt e.on j) &&
    allFrom (fun i x => !Nat.blt i j || (dstOk x y && pairOk P ops x y (Nat.testBit (bs.getD j 0) i))) ops.toList 0) ops.toList 0

/-- Which operations are loud; behind them the end. -/
def louds (P : Program) : List Oper → Nat → List Nat
  | [], i => [i]
  | o :: os, i => bif loudA P o.op then i :: louds P os (i + 1) else louds P os (i + 1)

/-- May operation i be done when p is the first loud one that is still to be done? -/
def mayAt (bs : List Nat) (i p : Nat) : List Nat → Bool
  | [] => !Nat.testBit (bs.getD i 0) p
  | q :: qs => (bif Nat.blt q p then !Nat.testBit (bs.getD q 0) i else true) && mayAt bs i p qs

mutual
def beqV : AV → AV → Bool
  | .unk, .unk => true
  | .bool a, .bool b => a == b
  | .int k a, .int k' b => decide (k = k') && decide (a = b)
  | .str a, .str b => decide (a = b)
  | .ptr none, .ptr none => true
  | .ptr (some a), .ptr (some b) => Nat.beq a.id b.id && Nat.beq a.off b.off
  | .slice none n c, .slice none m d => Nat.beq n m && beqCap c d
  | .slice (some a) n c, .slice (some b) m d => Nat.beq a.id b.id && Nat.beq a.off b.off && Nat.beq n m && beqCap c d
  | .map none, .map none => true
  | .map (some a), .map (some b) => Nat.beq a b
  | .chan none, .chan none => true
  | .chan (some a), .chan (some b) => Nat.beq a b
  | .func f a b, .func g c d => decide (f = g) && beqVs a c && beqVs b d
  | .nilFunc, .nilFunc => true
  | .iface t a, .iface u b => Nat.beq t u && beqV a b
  | .nilIface, .nilIface => true
  | .yield a, .yield b => Nat.beq a b
  | .agg a, .agg b => beqVs a b
  | .tuple a, .tuple b => beqVs a b
  | _, _ => false
def beqVs : List AV → List AV → Bool
  | [], [] => true
  | a :: as, b :: bs => beqV a b && beqVs as bs
  | _, _ => false
def beqCap : Cap → Cap → Bool
  | .exact a, .exact b => Nat.beq a b
  | .tip a, .tip b => Nat.beq a b
  | .dim, .dim => true
  | _, _ => false
end

structure TR where
  env : List AV
  heap : Heap
  val : AV
  on : Bool

def traceA (call : CallF) (P : Program) (ops : Array Oper) : List Oper → List AV → Heap → Option (List TR)
  | [], e, h => some [⟨e, h, .unk, false⟩]
  | o :: rest, e, h =>
    match wantedA ops e o with
    | some true =>
      (match opA call P e h o.op with
      | some (.ret v h') => (match traceA call P ops rest (putA e o.dst v) h' with | some tr => some (⟨e, h, v, true⟩ :: tr) | none => none)
      | _ => none)
    | some false => (match traceA call P ops rest (putA e o.dst (.tuple [])) h with | some tr => some (⟨e, h, .tuple [], false⟩ :: tr) | none => none)
    | none => none

/-- A reading answers alike wherever it may be done. -/
def sameAt (P : Program) (bs ls : List Nat) (full : List TR) (i : Nat) (o : Oper) (x : TR) : List Nat → Bool
  | [] => true
  | p :: ps =>
    (bif mayAt bs i p ls then
      (match full[p]? with
       | some y => (match aop P x.env y.heap o.op with | some (v, _) => beqV v x.val | none => false)
       | none => false)
     else true) && sameAt P bs ls full i o x ps

def dynAll (P : Program) (bs ls : List Nat) (full : List TR) : List Oper → List TR → Nat → Bool
  | o :: os, x :: xs, i => (bif x.on && readsA P o.op && !loudA P o.op then sameAt P bs ls full i o x ls else true) && dynAll P bs ls full os xs (i + 1)
  | _, _, _ => true

/-- Is there a reading that is done at different times? -/
def only (bs ls : List Nat) (i : Nat) : List Nat → Bool
  | [] => true
  | p :: ps => (!mayAt bs i p ls || (Nat.blt i p && ls.all fun q => !(Nat.blt i q && Nat.blt q p))) && only bs ls i ps
def needNot (P : Program) (bs ls : List Nat) : List Oper → Nat → Bool
  | [], _ => true
  | o :: os, i => (bif readsA P o.op && !loudA P o.op then only bs ls i ls else true) && needNot P bs ls os (i + 1)

def dynOk (call : CallF) (P : Program) (ops : Array Oper) (e : List AV) (h : Heap) : Bool :=
  match traceA call P ops ops.toList e h with
  | some tr => dynAll P (masks ops.toList []) (louds P ops.toList 0) tr ops.toList tr 0
  | none => false

def drawA (P : Program) : DrawF := fun call ops e h =>
  bif drawStatic P ops (masks ops.toList []) then
    (match opsA call P ops ops.toList e h with
    | some (.normal, e', h') => bif needNot P (masks ops.toList []) (louds P ops.toList 0) ops.toList 0 || dynOk call P ops e h then some (.normal, e', h') else none
    | _ => none)
  else none
end Go.Am

noncomputable section
namespace Go.Am
open Go.RowKit

/-! ### Equality of values -/

theorem beqCap_eq : ∀ {a b : Cap}, beqCap a b = true → a = b
  | .exact a, .exact b, h => by simp only [beqCap] at h; rw [Nat.eq_of_beq_eq_true h]
  | .tip a, .tip b, h => by simp only [beqCap] at h; rw [Nat.eq_of_beq_eq_true h]
  | .dim, .dim, _ => rfl
  | .exact _, .tip _, h => by simp [beqCap] at h
  | .exact _, .dim, h => by simp [beqCap] at h
  | .tip _, .exact _, h => by simp [beqCap] at h
  | .tip _, .dim, h => by simp [beqCap] at h
  | .dim, .exact _, h => by simp [beqCap] at h
  | .dim, .tip _, h => by simp [beqCap] at h
theorem loc_eq {a b : Loc} (h : (Nat.beq a.id b.id && Nat.beq a.off b.off) = true) : a = b := by
  rw [Bool.and_eq_true] at h
  obtain ⟨i, o⟩ := a
  obtain ⟨j, q⟩ := b
  have h1 := Nat.eq_of_beq_eq_true h.1
  have h2 := Nat.eq_of_beq_eq_true h.2
  simp only at h1 h2
  subst h1 h2
  rfl
mutual
theorem beqV_eq : ∀ (a b : AV), beqV a b = true → a = b
  | a, b, h => by
    cases a with
    | unk => cases b <;> simp [beqV] at h ⊢
    | yield k => cases b <;> simp [beqV] at h ⊢; exact h
    | bool x => cases b <;> simp [beqV] at h ⊢; exact h
    | int k x => cases b <;> simp [beqV] at h ⊢; exact h
    | str x => cases b <;> simp [beqV] at h ⊢; exact h
    | nilFunc => cases b <;> simp [beqV] at h ⊢
    | nilIface => cases b <;> simp [beqV] at h ⊢
    | ptr l =>
      cases b with
      | ptr m =>
        cases l <;> cases m <;> first | rfl | (simp [beqV] at h; done) | skip
        simp only [beqV] at h
        rw [loc_eq h]
      | _ => cases l <;> simp [beqV] at h
    | slice l n c =>
      cases b with
      | slice m n' c' =>
        cases l <;> cases m <;> first | (simp [beqV] at h; done) | skip
        · simp only [beqV, Bool.and_eq_true] at h
          rw [Nat.eq_of_beq_eq_true h.1, beqCap_eq h.2]
        · rename_i x y
          simp only [beqV, Bool.and_eq_true] at h
          rw [Nat.eq_of_beq_eq_true h.1.2, beqCap_eq h.2, loc_eq (a := x) (b := y) (by rw [Bool.and_eq_true]; exact h.1.1)]
      | _ => cases l <;> simp [beqV] at h
    | map l =>
      cases b with
      | map m =>
        cases l <;> cases m <;> first | rfl | (simp [beqV] at h; done) | skip
        simp only [beqV] at h
        rw [Nat.eq_of_beq_eq_true h]
      | _ => cases l <;> simp [beqV] at h
    | chan l =>
      cases b with
      | chan m =>
        cases l <;> cases m <;> first | rfl | (simp [beqV] at h; done) | skip
        simp only [beqV] at h
        rw [Nat.eq_of_beq_eq_true h]
      | _ => cases l <;> simp [beqV] at h
    | func f x y =>
      cases b with
      | func g x' y' =>
        simp only [beqV, Bool.and_eq_true, decide_eq_true_eq] at h
        rw [h.1.1, beqVs_eq x x' h.1.2, beqVs_eq y y' h.2]
      | _ => simp [beqV] at h
    | iface t x =>
      cases b with
      | iface u y =>
        simp only [beqV, Bool.and_eq_true] at h
        rw [Nat.eq_of_beq_eq_true h.1, beqV_eq x y h.2]
      | _ => simp [beqV] at h
    | agg x =>
      cases b with
      | agg y => simp only [beqV] at h; rw [beqVs_eq x y h]
      | _ => simp [beqV] at h
    | tuple x =>
      cases b with
      | tuple y => simp only [beqV] at h; rw [beqVs_eq x y h]
      | _ => simp [beqV] at h
theorem beqVs_eq : ∀ (a b : List AV), beqVs a b = true → a = b
  | [], [], _ => rfl
  | [], _ :: _, h => by simp [beqVs] at h
  | _ :: _, [], h => by simp [beqVs] at h
  | a :: as, b :: bs, h => by
    simp only [beqVs, Bool.and_eq_true] at h
    rw [beqV_eq a b h.1, beqVs_eq as bs h.2]
end

/-! ### Quiet operations -/

theorem convert_quiet {P : Program} {h h' : Heap} {src dst : TypeId} {x v : AV} (hd : ∀ e, P.underlying dst ≠ some (.slice e)) (hc : convertA P h src dst x = some (v, h')) : h' = h ∧ ((∀ e, P.underlying src ≠ some (.slice e)) → (∀ e, P.underlying src ≠ some (.pointer e)) → ∀ h2, convertA P h2 src dst x = some (v, h2)) := by
  unfold convertA at hc
  split at hc
  · rename_i hs hdd
    cases hc
    exact ⟨rfl, fun _ _ h2 => by simp [convertA, hs, hdd]⟩
  · rename_i hs hdd
    cases hc
    refine ⟨rfl, fun hh _ h2 => ?_⟩
    rename_i d s
    unfold convertA
    rw [hs, hdd]
  · rename_i hs hdd
    exact absurd hdd (hd _)
  · rename_i e l n c hs hdd
    refine ⟨?_, fun hh => absurd hs (hh e)⟩
    repeat' split at hc
    all_goals first | (cases hc; done) | (cases hc; rfl)
  · rename_i t l hs hdd
    refine ⟨?_, fun _ hh => absurd hs (hh t)⟩
    repeat' split at hc
    all_goals first | (cases hc; done) | (cases hc; rfl)
  · cases hc

theorem convSlA_none {P : Program} {h : Heap} {src dst : TypeId} {x : AV} (hd : ∀ e, P.underlying dst ≠ some (.slice e)) : convSlA P h src dst x = none := by
  unfold convSlA
  split
  · rename_i hs
    split
    · rw [cond_eq_ite]
      split
      · rename_i hb
        rw [Nat.eq_of_beq_eq_true hb] at hs
        exact absurd hs (hd _)
      · rfl
    · rfl
  · rfl
theorem convA_quiet {P : Program} {h h' : Heap} {src dst : TypeId} {x v : AV} (hd : ∀ e, P.underlying dst ≠ some (.slice e)) (hc : convA P h src dst x = some (v, h')) :
    h' = h ∧ ((∀ e, P.underlying src ≠ some (.slice e)) → (∀ t, P.underlying src ≠ some (.pointer t)) → P.underlying src ≠ some .unsafePointer → ∀ h2, convA P h2 src dst x = some (v, h2)) := by
  unfold convA at hc ⊢
  simp only [convSlA_none hd] at hc ⊢
  split at hc
  · rename_i p hp
    cases hc
    have := convert_quiet hd hp
    exact ⟨this.1, fun a b _ h2 => by rw [this.2 a b h2]⟩
  · obtain ⟨h1, rfl⟩ := withH_some hc
    refine ⟨rfl, fun _ _ c => ?_⟩
    unfold fromUnsafeA at h1
    split at h1
    · rename_i hs _; exact absurd (by assumption) c
    · rename_i hs _; exact absurd (by assumption) c
    · cases h1

theorem bi_toRet {P : Program} {h : Heap} {b : Builtin} {ts : List TypeId} {args : List AV} {r : CRes} (ho : biA P h b ts args = some r) (hb : b ≠ .panic) : toRet (builtinA P h b ts args) = some r := by
  unfold biA at ho
  split at ho
  · exact absurd rfl hb
  · exact ho

theorem quiet_same {P : Program} {call : CallF} {env : List AV} {h : Heap} {op : Op} {r : CRes} (hl : loudA P op = false) (ho : opA call P env h op = some r) : ∃ v, r = .ret v h ∧ aop P env h op = some (v, h) := by
  have key : ∀ x : Option (AV × Heap), toRet x = some r → (∀ v h', x = some (v, h') → h' = h) → x = aop P env h op → ∃ v, r = .ret v h ∧ aop P env h op = some (v, h) := by
    intro x h1 h2 h3
    obtain ⟨v, h', h4, h5⟩ := toRet_some h1
    have := h2 v h' h4
    subst this
    exact ⟨v, h5, by rw [← h3, h4]⟩
  have wh : ∀ (y : Option AV) v h', withH h y = some (v, h') → h' = h := fun y v h' hh => (withH_some hh).2
  cases op <;> simp only [loudA] at hl <;> try (cases hl; done)
  case call c =>
    obtain ⟨callee, args, ats⟩ := c
    cases callee with
    | value f => simp at hl
    | invoke x n => simp at hl
    | builtin b =>
      simp only at hl
      simp only [opA] at ho
      split at hl
      · rename_i heq0
        injection heq0 with e0
        subst e0
        exact key _ (bi_toRet ho (by simp)) (fun v h' hh => by
          unfold builtinA at hh; split at hh <;> first | (exact wh _ _ _ hh) | (rename_i heq _ _ _; cases heq; done) | (rename_i heq _ _; cases heq; done) | (rename_i heq _; cases heq; done) | (cases hh; done)) rfl
      · rename_i heq0
        injection heq0 with e0
        subst e0
        exact key _ (bi_toRet ho (by simp)) (fun v h' hh => by
          unfold builtinA at hh; split at hh <;> first | (exact wh _ _ _ hh) | (rename_i heq _ _ _; cases heq; done) | (rename_i heq _ _; cases heq; done) | (rename_i heq _; cases heq; done) | (cases hh; done)) rfl
      · rename_i heq0
        injection heq0 with e0
        subst e0
        exact key _ (bi_toRet ho (by simp)) (fun v h' hh => by
          unfold builtinA at hh; split at hh <;> first | (exact wh _ _ _ hh) | (rename_i heq _ _ _; cases heq; done) | (rename_i heq _ _; cases heq; done) | (rename_i heq _; cases heq; done) | (cases hh; done)) rfl
      · cases hl
  case convert src dst x =>
    refine key _ ho (fun v h' hh => ?_) rfl
    refine (convA_quiet (fun e he => ?_) hh).1
    rw [he] at hl
    cases hl
  case move x => exact key (aop P env h (.move x)) ho (fun v h' hh => by simp [aop] at hh; exact hh.2.symm) rfl
  case assign x => exact key (aop P env h (.assign x)) ho (fun v h' hh => by simp [aop] at hh; exact hh.2.symm) rfl
  case pick a b c => exact key _ ho (fun v h' hh => by simp only [aop] at hh; split at hh <;> first | (cases hh; done) | (cases hh; rfl)) rfl
  case load t a => exact key _ ho (fun v h' hh => by simp only [aop] at hh; split at hh <;> first | (exact wh _ _ _ hh) | (cases hh)) rfl
  case makeFunc fn a b => exact key (aop P env h (.makeFunc fn a b)) ho (fun v h' hh => by simp [aop] at hh; exact hh.2.symm) rfl
  all_goals exact key _ ho (fun v h' hh => wh _ v h' hh) rfl

theorem binA_free {P : Program} {h : Heap} {op : BinOp} {t : TypeId} {xo yo : Operand} {x y r : AV} (ht : ∀ e, P.underlying t ≠ some (.pointer e)) (hb : binA P h op t xo yo x y = some r) (h2 : Heap) : binA P h2 op t xo yo x y = some r := by
  have he : eqA P h2 t x y = eqA P h t x y := by
    unfold eqA
    split <;> first | rfl | (rename_i hu; exact absurd hu (ht _))
  unfold binA at hb ⊢
  rw [he]
  exact hb

theorem lenA_free {P : Program} {h : Heap} {t : TypeId} {x r : AV} (ht : ∀ k e, P.underlying t ≠ some (.map k e)) (hb : lenA P h t x = some r) (h2 : Heap) : lenA P h2 t x = some r := by
  unfold lenA at hb ⊢
  split at hb <;> first | (rename_i hu; exact absurd hu (ht _ _)) | exact hb

theorem quiet_free {P : Program} {env : List AV} {h : Heap} {op : Op} {v : AV} (hl : loudA P op = false) (hr : readsA P op = false) (ho : aop P env h op = some (v, h)) (h2 : Heap) : aop P env h2 op = some (v, h2) := by
  have wh : ∀ (y : Option AV), withH h y = some (v, h) → withH h2 y = some (v, h2) := fun y hh => by
    have := (withH_some hh).1
    subst this
    rfl
  cases op <;> simp only [loudA] at hl <;> (try (cases hl; done)) <;> simp only [readsA] at hr <;> (try (cases hr; done))
  case call c =>
    obtain ⟨callee, args, ats⟩ := c
    cases callee with
    | value f => simp at hl
    | invoke x n => simp at hl
    | builtin b =>
      simp only at hl hr
      simp only [aop] at ho ⊢
      split at hl
      · rename_i heq0
        injection heq0 with e0
        subst e0
        unfold builtinA at ho ⊢
        split at ho
        · rename_i t x heq1 heq2
          rw [heq1] at hr
          simp only at hr
          have := (withH_some ho).1
          have h3 := lenA_free (h := h) (fun k e hu => by rw [hu] at hr; cases hr) this h2
          simp only [h3, withH]
        all_goals first | (rename_i heq _ _ _; cases heq; done) | (rename_i heq _ _; cases heq; done) | (rename_i heq _; cases heq; done) | (cases ho; done)
      · rename_i heq0
        injection heq0 with e0
        subst e0
        unfold builtinA at ho ⊢
        split at ho <;> first | (rename_i heq _ _ _; cases heq; done) | (rename_i heq _ _; cases heq; done) | (rename_i heq _; cases heq; done) | (cases ho; done) | exact wh _ ho
      · rename_i heq0
        injection heq0 with e0
        subst e0
        unfold builtinA at ho ⊢
        split at ho <;> first | (rename_i heq _ _ _; cases heq; done) | (rename_i heq _ _; cases heq; done) | (rename_i heq _; cases heq; done) | (cases ho; done) | exact wh _ ho
      · cases hl
  case convert src dst x =>
    simp only [aop] at ho ⊢
    exact (convA_quiet (fun e he => by rw [he] at hl; cases hl) ho).2 (fun e he => by rw [he] at hr; cases hr) (fun e he => by rw [he] at hr; cases hr) (fun he => by rw [he] at hr; cases hr) h2
  case binOp op t x y yt =>
    simp only [aop] at ho ⊢
    have h1 := (withH_some ho).1
    rw [binA_free (fun e he => by rw [he] at hr; cases hr) h1 h2]
    rfl
  case move x => simp only [aop, Option.some.injEq, Prod.mk.injEq] at ho ⊢; exact ⟨ho.1, trivial⟩
  case assign x => simp only [aop, Option.some.injEq, Prod.mk.injEq] at ho ⊢; exact ⟨ho.1, trivial⟩
  case pick a b c =>
    simp only [aop] at ho ⊢
    split at ho
    · rename_i t ht
      simp only [Option.some.injEq, Prod.mk.injEq] at ho ⊢
      exact ⟨ho.1, trivial⟩
    · cases ho
  case makeFunc fn a b => simp only [aop, Option.some.injEq, Prod.mk.injEq] at ho ⊢; exact ⟨ho.1, trivial⟩
  case slice t x lo hi mx =>
    simp only [aop] at ho ⊢
    have h1 := (withH_some ho).1
    rw [sliceHA_free (h := h) (fun e he => ?_) h1 h2]
    · rfl
    · cases hi with
      | none => rfl
      | some y => simp only [readsA, he] at hr; cases hr
  all_goals exact wh _ ho

/-! ### An operation hangs on its operands alone -/

theorem evals_congr {P : Program} {env env' : List AV} {xs : List Operand} (h : ∀ x ∈ xs, evalA P env x = evalA P env' x) : evals P env xs = evals P env' xs := List.map_congr_left h
theorem evalParts_congr {P : Program} {env env' : List AV} {xs : List (Nat × Operand)} (h : ∀ x ∈ xs.map (·.2), evalA P env x = evalA P env' x) : evalParts P env xs = evalParts P env' xs :=
  List.map_congr_left fun x hx => by rw [h x.2 (List.mem_map.2 ⟨x, hx, rfl⟩)]
theorem evalO_congr {P : Program} {env env' : List AV} {x : Option Operand} (h : ∀ y ∈ x.toArray.toList, evalA P env y = evalA P env' y) : evalO P env x = evalO P env' x := by
  cases x with
  | none => rfl
  | some y => simp only [evalO, Option.map_some]; rw [h y (by simp)]

theorem opA_congr {P : Program} {call : CallF} {env env' : List AV} {h : Heap} {op : Op} (hx : ∀ x ∈ op.operands.toList, evalA P env x = evalA P env' x) : opA call P env h op = opA call P env' h op := by
  cases op with
  | call c =>
    obtain ⟨callee, args, ats⟩ := c
    have hargs : evals P env args.toList = evals P env' args.toList := evals_congr fun x hm => hx x (by simp only [Op.operands, Call.operands, Array.toList_append]; exact List.mem_append.2 (.inr hm))
    cases callee with
    | builtin b => simp only [opA, hargs]
    | value f =>
      have hf : evalA P env f = evalA P env' f := hx f (by simp [Op.operands, Call.operands])
      simp only [opA, hargs, hf]
    | invoke r n =>
      have hf : evalA P env r = evalA P env' r := hx r (by simp [Op.operands, Call.operands])
      simp only [opA, hargs, hf]
  | build t parts =>
    have := evalParts_congr (P := P) (env := env) (env' := env') (xs := parts.toList) (fun x hm => hx x (by simpa [Op.operands] using hm))
    simp only [opA, aop, this]
  | buildSlice t n parts =>
    have := evalParts_congr (P := P) (env := env) (env' := env') (xs := parts.toList) (fun x hm => hx x (by simpa [Op.operands] using hm))
    simp only [opA, aop, this]
  | makeFunc fn a b =>
    have h1 := evals_congr (P := P) (env := env) (env' := env') (xs := a.toList) (fun x hm => hx x (by simp only [Op.operands, Array.toList_append]; exact List.mem_append.2 (.inl hm)))
    have h2 := evals_congr (P := P) (env := env) (env' := env') (xs := b.toList) (fun x hm => hx x (by simp only [Op.operands, Array.toList_append]; exact List.mem_append.2 (.inr hm)))
    simp only [opA, aop, h1, h2]
  | slice t x lo hi mx =>
    have h0 := hx x (by simp [Op.operands])
    have h1 := evalO_congr (P := P) (env := env) (env' := env') (x := lo) (fun y hm => hx y (by simp only [Op.operands, Array.toList_append, List.mem_append]; exact .inl (.inl (.inr hm))))
    have h2 := evalO_congr (P := P) (env := env) (env' := env') (x := hi) (fun y hm => hx y (by simp only [Op.operands, Array.toList_append, List.mem_append]; exact .inl (.inr hm)))
    have h3 := evalO_congr (P := P) (env := env) (env' := env') (x := mx) (fun y hm => hx y (by simp only [Op.operands, Array.toList_append, List.mem_append]; exact .inr hm))
    simp only [opA, aop, h0, h1, h2, h3]
  | select cs b => rfl
  | makeMap t r => cases r <;> rfl
  | _ =>
    simp only [Op.operands, List.mem_cons, List.not_mem_nil, or_false, forall_eq_or_imp, forall_eq] at hx
    simp only [opA, aop, hx]
end Go.Am

noncomputable section
namespace Go.Am
open Go.RowKit

/-! ### What the static look says -/

theorem allFrom_at {p : Nat → Oper → Bool} : ∀ {l : List Oper} {k : Nat}, allFrom p l k = true → ∀ (i : Nat) (o : Oper), l[i]? = some o → p (k + i) o = true
  | [], _, _, i, o, h => by simp at h
  | x :: xs, k, h, i, o, ho => by
    simp only [allFrom, Bool.and_eq_true] at h
    cases i with
    | zero => simp at ho; subst ho; exact h.1
    | succ i =>
      simp at ho
      have := allFrom_at h.2 i o ho
      rwa [show k + 1 + i = k + (i + 1) by omega] at this

theorem masks_length : ∀ (os : List Oper) (acc : List Nat), (masks os acc).length = acc.length + os.length
  | [], acc => by simp [masks]
  | o :: os, acc => by simp [masks, masks_length os]; omega
theorem masks_prefix : ∀ (os : List Oper) (acc : List Nat) (i : Nat), i < acc.length → (masks os acc).getD i 0 = acc.getD i 0
  | [], acc, i, _ => rfl
  | o :: os, acc, i, hi => by
    simp only [masks]
    rw [masks_prefix os _ i (by simp; omega)]
    simp [List.getD, List.getElem?_append, hi]
theorem masks_at : ∀ (os : List Oper) (acc : List Nat) (i : Nat) (o : Oper), os[i]? = some o → ∃ pre : List Nat, pre.length = acc.length + i ∧ (masks os acc).getD (acc.length + i) 0 = maskOf pre o.after.toList ∧ ∀ k, k < pre.length → pre.getD k 0 = (masks os acc).getD k 0
  | [], acc, i, o, h => by simp at h
  | x :: os, acc, i, o, h => by
    cases i with
    | zero =>
      simp at h
      subst h
      refine ⟨acc, rfl, ?_, fun k hk => ?_⟩
      · simp only [masks, Nat.add_zero]
        rw [masks_prefix os _ acc.length (by simp)]
        simp [List.getD]
      · simp only [masks]
        rw [masks_prefix os _ k (by simp; omega)]
        simp [List.getD, List.getElem?_append, hk]
    | succ i =>
      simp at h
      obtain ⟨pre, h1, h2, h3⟩ := masks_at os (acc ++ [maskOf acc x.after.toList]) i o h
      simp only [List.length_append, List.length_singleton] at h1 h2
      refine ⟨pre, by omega, ?_, fun k hk => by simpa [masks] using h3 k hk⟩
      simp only [masks]
      rw [show acc.length + (i + 1) = acc.length + 1 + i by omega]
      exact h2

theorem maskOf_bit {bs : List Nat} {j : Nat} : ∀ {es : List Edge}, Nat.testBit (maskOf bs es) j = true → ∃ e ∈ es, bindsA e = true ∧ (e.on = j ∨ Nat.testBit (bs.getD e.on 0) j = true)
  | [], h => by simp [maskOf] at h
  | e :: es, h => by
    simp only [maskOf] at h
    cases hb : bindsA e with
    | false =>
      simp only [hb, cond_false] at h
      obtain ⟨e', h1, h2⟩ := maskOf_bit h
      exact ⟨e', by simp [h1], h2⟩
    | true =>
      simp only [hb, cond_true, Nat.testBit_or, Bool.or_eq_true] at h
      rcases h with (h | h) | h
      · rw [Nat.one_shiftLeft, Nat.testBit_two_pow, decide_eq_true_eq] at h
        exact ⟨e, by simp, hb, .inl h⟩
      · exact ⟨e, by simp, hb, .inr h⟩
      · obtain ⟨e', h1, h2⟩ := maskOf_bit h
        exact ⟨e', by simp [h1], h2⟩

structure Static (P : Program) (ops : Array Oper) (bs : List Nat) : Prop where
  edge : ∀ (j : Nat) (y : Oper), ops[j]? = some y → ∀ e ∈ y.after.toList, bindsA e = true → e.on < j
  dst : ∀ (i j : Nat) (x y : Oper) (t : Tmp), i < j → ops[i]? = some x → ops[j]? = some y → x.dst = some t → y.dst ≠ some t
  pair : ∀ (i j : Nat) (x y : Oper), i < j → ops[i]? = some x → ops[j]? = some y → Nat.testBit (bs.getD j 0) i = true ∨
    ((loudA P x.op = false ∨ loudA P y.op = false) ∧ (∀ t, x.dst = some t → t ∉ usesA ops y) ∧ (∀ t, y.dst = some t → t ∉ usesA ops x))

theorem static_of {P : Program} {ops : Array Oper} {bs : List Nat} (h : drawStatic P ops bs = true) : Static P ops bs := by
  have hj : ∀ (j : Nat) (y : Oper), ops[j]? = some y → _ := fun j y hy => allFrom_at h j y (by rw [Array.getElem?_toList]; exact hy)
  refine ⟨?_, ?_, ?_⟩
  · intro j y hy e he hb
    have := hj j y hy
    rw [Bool.and_eq_true, List.all_eq_true] at this
    have h1 := this.1 e he
    rw [hb] at h1
    have := (blt_iff _ _).1 (by simpa using h1)
    omega
  · intro i j x y t hij hx hy hxt hyt
    have := hj j y hy
    rw [Bool.and_eq_true] at this
    have h2 := allFrom_at this.2 i x (by rw [Array.getElem?_toList]; exact hx)
    rw [Nat.zero_add, Nat.zero_add, (blt_iff i j).2 hij] at h2
    simp only [Bool.not_true, Bool.false_or, Bool.and_eq_true, dstOk, hxt, hyt] at h2
    have := h2.1
    simp at this
  · intro i j x y hij hx hy
    have := hj j y hy
    rw [Bool.and_eq_true] at this
    have h2 := allFrom_at this.2 i x (by rw [Array.getElem?_toList]; exact hx)
    rw [Nat.zero_add, Nat.zero_add, (blt_iff i j).2 hij] at h2
    simp only [Bool.not_true, Bool.false_or, Bool.and_eq_true] at h2
    have h3 := h2.2
    unfold pairOk at h3
    rw [Bool.or_eq_true] at h3
    rcases h3 with h3 | h3
    · exact .inl h3
    · right
      simp only [Bool.and_eq_true] at h3
      obtain ⟨⟨h4, h5⟩, h6⟩ := h3
      refine ⟨?_, ?_, ?_⟩
      · cases hlx : loudA P x.op with
        | false => exact .inl rfl
        | true => cases hly : loudA P y.op with
          | false => exact .inr rfl
          | true => rw [hlx, hly] at h4; simp at h4
      · intro t ht
        rw [ht] at h5
        simpa using h5
      · intro t ht
        rw [ht] at h6
        simpa using h6

theorem mem_louds {P : Program} : ∀ (os : List Oper) (k q : Nat), q ∈ louds P os k ↔ (q = k + os.length ∨ ∃ o, k ≤ q ∧ os[q - k]? = some o ∧ loudA P o.op = true)
  | [], k, q => by simp [louds]
  | o :: os, k, q => by
    have ih := mem_louds (P := P) os (k + 1) q
    have shift : (∃ o', k + 1 ≤ q ∧ os[q - (k + 1)]? = some o' ∧ loudA P o'.op = true) ↔ (∃ o', k + 1 ≤ q ∧ (o :: os)[q - k]? = some o' ∧ loudA P o'.op = true) := by
      constructor <;> rintro ⟨o', h1, h2, h3⟩ <;> refine ⟨o', h1, ?_, h3⟩
      · rw [show q - k = (q - (k + 1)) + 1 by omega]; simpa using h2
      · rw [show q - k = (q - (k + 1)) + 1 by omega] at h2; simpa using h2
    have len : q = k + 1 + os.length ↔ q = k + (o :: os).length := by simp; omega
    simp only [louds]
    cases hl : loudA P o.op with
    | true =>
      simp only [cond_true, List.mem_cons]
      rw [ih, len, shift]
      constructor
      · rintro (h | h | ⟨o', h1, h2, h3⟩)
        · exact .inr ⟨o, by omega, by rw [h, Nat.sub_self]; rfl, hl⟩
        · exact .inl h
        · exact .inr ⟨o', by omega, h2, h3⟩
      · rintro (h | ⟨o', h1, h2, h3⟩)
        · exact .inr (.inl h)
        · by_cases hq : q = k
          · exact .inl hq
          · exact .inr (.inr ⟨o', by omega, h2, h3⟩)
    | false =>
      simp only [cond_false]
      rw [ih, len, shift]
      constructor
      · rintro (h | ⟨o', h1, h2, h3⟩)
        · exact .inl h
        · exact .inr ⟨o', by omega, h2, h3⟩
      · rintro (h | ⟨o', h1, h2, h3⟩)
        · exact .inl h
        · by_cases hq : q = k
          · subst hq
            rw [Nat.sub_self] at h2
            simp at h2
            subst h2
            rw [hl] at h3
            cases h3
          · exact .inr ⟨o', by omega, h2, h3⟩

theorem mayAt_iff {bs : List Nat} {i p : Nat} : ∀ {ls : List Nat}, mayAt bs i p ls = true ↔ (Nat.testBit (bs.getD i 0) p = false ∧ ∀ q ∈ ls, q < p → Nat.testBit (bs.getD q 0) i = false)
  | [] => by simp [mayAt]
  | q :: qs => by
    simp only [mayAt, Bool.and_eq_true]
    rw [mayAt_iff (ls := qs)]
    constructor
    · rintro ⟨h1, h2, h3⟩
      refine ⟨h2, fun r hr hlt => ?_⟩
      rcases List.mem_cons.1 hr with rfl | hr
      · rw [(blt_iff _ _).2 hlt] at h1; simpa using h1
      · exact h3 r hr hlt
    · rintro ⟨h1, h2⟩
      refine ⟨?_, h1, fun r hr => h2 r (List.mem_cons_of_mem _ hr)⟩
      cases hb : Nat.blt q p with
      | false => rfl
      | true => simpa using h2 q (List.mem_cons_self ..) ((blt_iff _ _).1 hb)

/-! ### The text's run -/

def TrStep (call : CallF) (P : Program) (ops : Array Oper) (o : Oper) (x y : TR) : Prop :=
  (x.on = true ∧ wantedA ops x.env o = some true ∧ opA call P x.env x.heap o.op = some (.ret x.val y.heap) ∧ y.env = putA x.env o.dst x.val) ∨
  (x.on = false ∧ wantedA ops x.env o = some false ∧ x.val = .tuple [] ∧ y.heap = x.heap ∧ y.env = putA x.env o.dst (.tuple []))

theorem trace_of {call : CallF} {P : Program} {ops : Array Oper} : ∀ {rest : List Oper} {e : List AV} {h : Heap} {e' : List AV} {h' : Heap}, opsA call P ops rest e h = some (.normal, e', h') →
    ∃ tr, traceA call P ops rest e h = some tr ∧ (∃ x, tr[0]? = some x ∧ x.env = e ∧ x.heap = h) ∧ (∃ z, tr[rest.length]? = some z ∧ z.env = e' ∧ z.heap = h') ∧
      ∀ (i : Nat) (o : Oper), rest[i]? = some o → ∃ x y, tr[i]? = some x ∧ tr[i + 1]? = some y ∧ TrStep call P ops o x y
  | [], e, h, e', h', hr => by
    simp only [opsA, Option.some.injEq, Prod.mk.injEq] at hr
    obtain ⟨_, rfl, rfl⟩ := hr
    exact ⟨_, rfl, ⟨_, rfl, rfl, rfl⟩, ⟨_, rfl, rfl, rfl⟩, fun i o ho => by simp at ho⟩
  | o :: rest, e, h, e', h', hr => by
    simp only [opsA] at hr
    split at hr
    · rename_i hw
      split at hr
      · rename_i v h2 ho
        obtain ⟨tr, h3, ⟨x, hx, hxe, hxh⟩, ⟨z, hz, hze, hzh⟩, h4⟩ := trace_of hr
        refine ⟨⟨e, h, v, true⟩ :: tr, by simp only [traceA, hw, ho, h3], ⟨_, rfl, rfl, rfl⟩, ⟨z, by simpa using hz, hze, hzh⟩, ?_⟩
        intro i o' ho'
        cases i with
        | zero =>
          simp at ho'
          subst ho'
          exact ⟨⟨e, h, v, true⟩, x, rfl, by simpa using hx, .inl ⟨rfl, hw, by rw [hxh]; exact ho, hxe⟩⟩
        | succ i =>
          simp at ho'
          obtain ⟨a, b, ha, hb, hab⟩ := h4 i o' ho'
          exact ⟨a, b, by simpa using ha, by simpa using hb, hab⟩
      · cases hr
      · cases hr
    · rename_i hw
      obtain ⟨tr, h3, ⟨x, hx, hxe, hxh⟩, ⟨z, hz, hze, hzh⟩, h4⟩ := trace_of hr
      refine ⟨⟨e, h, .tuple [], false⟩ :: tr, by simp only [traceA, hw, h3], ⟨_, rfl, rfl, rfl⟩, ⟨z, by simpa using hz, hze, hzh⟩, ?_⟩
      intro i o' ho'
      cases i with
      | zero =>
        simp at ho'
        subst ho'
        exact ⟨⟨e, h, .tuple [], false⟩, x, rfl, by simpa using hx, .inr ⟨rfl, hw, rfl, hxh, hxe⟩⟩
      | succ i =>
        simp at ho'
        obtain ⟨a, b, ha, hb, hab⟩ := h4 i o' ho'
        exact ⟨a, b, by simpa using ha, by simpa using hb, hab⟩
    · cases hr

/-- The text's run, by place. -/
structure TextRun (call : CallF) (P : Program) (ops : Array Oper) (bs : List Nat) (e : List AV) (h : Heap) (e' : List AV) (h' : Heap) (X : Nat → TR) : Prop where
  first : (X 0).env = e ∧ (X 0).heap = h
  last : (X ops.size).env = e' ∧ (X ops.size).heap = h'
  step : ∀ (i : Nat) (o : Oper), ops[i]? = some o → TrStep call P ops o (X i) (X (i + 1))
  /-- A reading may be done wherever it may come to be done. -/
  same : ∀ (i : Nat) (o : Oper), ops[i]? = some o → (X i).on = true → readsA P o.op = true → loudA P o.op = false → ∀ p ∈ louds P ops.toList 0, mayAt bs i p (louds P ops.toList 0) = true →
    aop P (X i).env (X p).heap o.op = some ((X i).val, (X p).heap)

theorem sameAt_at {P : Program} {bs ls : List Nat} {full : List TR} {i : Nat} {o : Oper} {x : TR} : ∀ {ps : List Nat}, sameAt P bs ls full i o x ps = true → ∀ p ∈ ps, mayAt bs i p ls = true → ∃ y v k, full[p]? = some y ∧ aop P x.env y.heap o.op = some (v, k) ∧ v = x.val
  | [], _, p, hp, _ => by simp at hp
  | q :: qs, h, p, hp, hm => by
    simp only [sameAt, Bool.and_eq_true] at h
    rcases List.mem_cons.1 hp with rfl | hp
    · have h1 := h.1
      rw [hm] at h1
      simp only [cond_true] at h1
      split at h1
      · rename_i y hy
        split at h1
        · rename_i v k ha
          exact ⟨y, v, k, hy, ha, beqV_eq _ _ h1⟩
        · cases h1
      · cases h1
    · exact sameAt_at h.2 p hp hm

theorem dynAll_at {P : Program} {bs ls : List Nat} {full : List TR} : ∀ {os : List Oper} {xs : List TR} {k : Nat}, dynAll P bs ls full os xs k = true → ∀ (i : Nat) (o : Oper) (x : TR), os[i]? = some o → xs[i]? = some x → x.on = true → readsA P o.op = true → loudA P o.op = false → sameAt P bs ls full (k + i) o x ls = true
  | [], _, _, _, i, o, x, ho, _, _, _, _ => by simp at ho
  | _ :: _, [], _, _, i, o, x, _, hx, _, _, _ => by simp at hx
  | o0 :: os, x0 :: xs, k, h, i, o, x, ho, hx, hon, hr, hl => by
    simp only [dynAll, Bool.and_eq_true] at h
    cases i with
    | zero =>
      simp at ho hx
      subst ho hx
      have := h.1
      simpa [hon, hr, hl] using this
    | succ i =>
      simp at ho hx
      have := dynAll_at h.2 i o x ho hx hon hr hl
      rwa [show k + 1 + i = k + (i + 1) by omega] at this

theorem only_at {bs ls : List Nat} {i : Nat} : ∀ {ps : List Nat}, only bs ls i ps = true → ∀ p ∈ ps, mayAt bs i p ls = true → i < p ∧ ∀ q ∈ ls, ¬ (i < q ∧ q < p)
  | [], _, p, hp, _ => by simp at hp
  | q :: qs, h, p, hp, hm => by
    simp only [only, Bool.and_eq_true] at h
    rcases List.mem_cons.1 hp with rfl | hp
    · have h1 := h.1
      rw [hm] at h1
      simp only [Bool.not_true, Bool.false_or, Bool.and_eq_true, List.all_eq_true] at h1
      refine ⟨(blt_iff _ _).1 h1.1, fun r hr ⟨h3, h4⟩ => ?_⟩
      have := h1.2 r hr
      rw [(blt_iff _ _).2 h3, (blt_iff _ _).2 h4] at this
      simp at this
    · exact only_at h.2 p hp hm
theorem needNot_at {P : Program} {bs ls : List Nat} : ∀ {os : List Oper} {k : Nat}, needNot P bs ls os k = true → ∀ (i : Nat) (o : Oper), os[i]? = some o → readsA P o.op = true → loudA P o.op = false → only bs ls (k + i) ls = true
  | [], _, _, i, o, ho, _, _ => by simp at ho
  | o0 :: os, k, h, i, o, ho, hr, hl => by
    simp only [needNot, Bool.and_eq_true] at h
    cases i with
    | zero =>
      simp at ho
      subst ho
      have := h.1
      simpa [hr, hl] using this
    | succ i =>
      simp at ho
      have := needNot_at h.2 i o ho hr hl
      rwa [show k + 1 + i = k + (i + 1) by omega] at this

/-- Between two loud operations memory stands. -/
theorem quiet_between {call : CallF} {P : Program} {ops : Array Oper} {X : Nat → TR} (step : ∀ (i : Nat) (o : Oper), ops[i]? = some o → TrStep call P ops o (X i) (X (i + 1))) {i : Nat} : ∀ (k : Nat), i ≤ k → k ≤ ops.size → (∀ q, q ∈ louds P ops.toList 0 → ¬ (i ≤ q ∧ q < k)) → (X k).heap = (X i).heap := by
  intro k
  induction k with
  | zero => intro h1 h2 h3; rw [show i = 0 by omega]
  | succ k ih =>
    intro h1 h2 h3
    by_cases hik : i = k + 1
    · rw [hik]
    · have := ih (by omega) (by omega) (fun q hq hh => h3 q hq ⟨hh.1, by omega⟩)
      rw [← this]
      have hk : k < ops.size := by omega
      have ho : ops[k]? = some ops[k] := Array.getElem?_eq_getElem hk
      have hq : loudA P ops[k].op = false := by
        cases hl : loudA P ops[k].op with
        | false => rfl
        | true =>
          refine absurd ⟨by omega, by omega⟩ (h3 k ?_)
          rw [mem_louds]
          exact .inr ⟨ops[k], by omega, by simp, hl⟩
      rcases step k _ ho with ⟨h4, h5, h6, h7⟩ | ⟨h4, h5, h6, h7, h8⟩
      · obtain ⟨v, h8, h9⟩ := quiet_same hq h6
        simp only [CRes.ret.injEq] at h8
        exact h8.2
      · exact h7

theorem textRun_of {call : CallF} {P : Program} {ops : Array Oper} {e : List AV} {h : Heap} {e' : List AV} {h' : Heap} (hr : opsA call P ops ops.toList e h = some (.normal, e', h'))
    (hd : (needNot P (masks ops.toList []) (louds P ops.toList 0) ops.toList 0 || dynOk call P ops e h) = true) : ∃ X, TextRun call P ops (masks ops.toList []) e h e' h' X := by
  obtain ⟨tr, h1, ⟨x, hx, hxe, hxh⟩, ⟨z, hz, hze, hzh⟩, h2⟩ := trace_of hr
  let X : Nat → TR := fun i => tr.getD i ⟨[], h, .unk, false⟩
  have hX : ∀ i y, tr[i]? = some y → X i = y := fun i y hy => by simp [X, List.getD, hy]
  have step : ∀ (i : Nat) (o : Oper), ops[i]? = some o → TrStep call P ops o (X i) (X (i + 1)) := fun i o ho => by
    obtain ⟨a, b, ha, hb, hab⟩ := h2 i o (by rw [Array.getElem?_toList]; exact ho)
    rw [hX i a ha, hX (i + 1) b hb]
    exact hab
  refine ⟨X, ⟨by rw [hX 0 x hx]; exact ⟨hxe, hxh⟩, by rw [hX ops.size z (by simpa using hz)]; exact ⟨hze, hzh⟩, step, ?_⟩⟩
  intro i o ho hon hrd hl p hp hm
  have hil : i < ops.size := (Array.getElem?_eq_some_iff.1 ho).1
  have hps : p ≤ ops.size := by
    rw [mem_louds] at hp
    rcases hp with hp | ⟨o', _, ho', _⟩
    · simp at hp; omega
    · have := (List.getElem?_eq_some_iff.1 ho').1
      simp at this
      omega
  have text : opA call P (X i).env (X i).heap o.op = some (.ret (X i).val (X (i + 1)).heap) := by
    rcases step i o ho with ⟨_, _, h6, _⟩ | ⟨h6, _⟩
    · exact h6
    · rw [hon] at h6; cases h6
  obtain ⟨v, hv, ha⟩ := quiet_same hl text
  simp only [CRes.ret.injEq] at hv
  rw [← hv.1] at ha
  rw [Bool.or_eq_true] at hd
  rcases hd with hd | hd
  · have h3 := needNot_at hd i o (by rw [Array.getElem?_toList]; exact ho) hrd hl
    rw [Nat.zero_add] at h3
    obtain ⟨h4, h5⟩ := only_at h3 p hp hm
    have : (X p).heap = (X i).heap := by
      refine quiet_between step p (by omega) hps (fun q hq hh => ?_)
      by_cases hqi : q = i
      · subst hqi
        rw [mem_louds] at hq
        rcases hq with hq | ⟨o', _, ho', hlo⟩
        · simp at hq; omega
        · have : o' = o := by
            rw [Nat.sub_zero, Array.getElem?_toList, ho] at ho'
            cases ho'; rfl
          subst this
          rw [hl] at hlo
          cases hlo
      · exact h5 q hq ⟨by omega, hh.2⟩
    rw [this]
    exact ha
  · simp only [dynOk, h1] at hd
    obtain ⟨y, v2, k, hy, ha2, hval⟩ := sameAt_at (dynAll_at hd i o (X i) (by rw [Array.getElem?_toList]; exact ho) (by
      obtain ⟨a, b, hai, _, _⟩ := h2 i o (by rw [Array.getElem?_toList]; exact ho)
      rw [hX i a hai]; exact hai) hon hrd hl) p hp (by rw [Nat.zero_add]; exact hm)
    rw [hX p y hy]
    subst hval
    have hk : k = y.heap := by
      have : toRet (aop P (X i).env y.heap o.op) = some (.ret (X i).val k) := by rw [ha2]; rfl
      have hop : opA call P (X i).env y.heap o.op = some (.ret (X i).val k) := by
        cases hop : o.op with
        | call c =>
          rw [hop] at this hl
          obtain ⟨callee, args, ats⟩ := c
          cases callee with
          | value f => simp [loudA] at hl
          | invoke r n => simp [loudA] at hl
          | builtin b =>
            simp only [opA]
            have hb : b ≠ .panic := by rintro rfl; simp [loudA] at hl
            unfold biA
            split
            · exact absurd rfl hb
            · exact this
        | panic x => rw [hop] at hl; simp [loudA] at hl
        | _ => rw [hop] at this; exact this
      obtain ⟨v3, h7, _⟩ := quiet_same hl hop
      simp only [CRes.ret.injEq] at h7
      exact h7.2
    rw [← hk] at ha2 ⊢
    exact ha2
end Go.Am
