/- Parts of the proof by the abstract machine: Run, DrawDef, Draw, Draw2, Draw3, Ev, Mrg, PlanD, Lim, Sim, Wp, Slr, Acc. -/
import Derived.Test.YteoekjfgihnhaaaGreatDoorHmGRF12
import Derived.LoopNIn
import Derived.OrdersIn
import Derived.Test.YteoekjfgihnhaaaGreatDoorHmGRF2
set_option linter.all false
noncomputable section
namespace Go.Am
open Go.RowKit

def putA (env : List AV) (dst : Option Tmp) (v : AV) : List AV :=
  match dst with
  | some d => env.set d v
  | none => env

theorem putA_V {φ : List Emb} {env : List AV} {a : Act} (h : Vs φ env a.tmps.toList) (dst : Option Tmp) {v : AV} {v' : Value} (hv : V φ v v') : Vs φ (putA env dst v) (a.put dst v').tmps.toList := by
  cases dst with
  | none => exact h
  | some d => simpa [putA, Act.put] using h.set d hv
theorem put_defers' (a : Act) (dst : Option Tmp) (v : Value) : (a.put dst v).defers = a.defers := by cases dst <;> rfl

/-- Is the operation wanted? (none: not known.) -/
def wantedA (ops : Array Oper) (env : List AV) (o : Oper) : Option Bool :=
  match o.guard with
  | none => some true
  | some (j, b) =>
    match (ops[j]?).bind (·.dst) with
    | none => some false
    | some d =>
      match nth env d with
      | .bool c => some (c == b)
      | .unk => none
      | _ => some false

theorem wantedA_eq {ops : Array Oper} {φ : List Emb} {env : List AV} {a : Act} {o : Oper} {t : Bool} (hw : wantedA ops env o = some t)
    (he : ∀ j b d, o.guard = some (j, b) → (ops[j]?).bind (·.dst) = some d → V φ (nth env d) (a.tmps.getD d undef)) : Region.wanted o (yielded ops a.tmps) = t := by
  unfold wantedA at hw
  unfold Region.wanted
  split at hw
  · rename_i hg; rw [hg]; simpa using hw
  · rename_i j b hg
    rw [hg]
    simp only
    split at hw
    · rename_i hd
      simp only [yielded, hd, Option.bind_none]
      cases hw
      rfl
    · rename_i d hd
      have hv := he j b d hg hd
      have hget : ∀ c, a.tmps.getD d undef = .bool c → a.tmps[d]? = some (.bool c) := by
        intro c hc
        cases hq : a.tmps[d]? with
        | none => simp [Array.getD_eq_getD_getElem?, hq, undef] at hc
        | some x => simp [Array.getD_eq_getD_getElem?, hq] at hc; rw [hc]
      split at hw
      · rename_i c hc
        rw [hc] at hv
        simp only [V] at hv
        simp only [yielded, hd, Option.bind_some, hget c hv]
        simp only [Option.some.injEq] at hw
        rw [← hw]
        cases c <;> cases b <;> rfl
      · cases hw
      · rename_i hnb hnu
        cases hw
        have hne : ∀ c, a.tmps[d]? ≠ some (.bool c) := by
          intro c hc
          have hgd : a.tmps.getD d undef = .bool c := by simp [Array.getD_eq_getD_getElem?, hc]
          rw [hgd] at hv
          cases hq : nth env d with
          | bool c' => exact hnb c' hq
          | unk => exact hnu hq
          | ptr l => rw [hq] at hv; cases l <;> simp [V] at hv
          | slice l n c => rw [hq] at hv; cases l <;> simp [V] at hv
          | map l => rw [hq] at hv; cases l <;> simp [V] at hv
          | chan l => rw [hq] at hv; cases l <;> simp [V] at hv
          | yield k => rw [hq] at hv; simp only [V] at hv; obtain ⟨_, _, hv⟩ := hv; cases hv
          | _ => rw [hq] at hv; simp [V] at hv
        simp only [yielded, hd, Option.bind_some]
        first
          | rfl
          | (split
             · rename_i c hc; exact absurd hc (hne c)
             · rfl)

/-- A region, in the text's order. -/
def opsA (call : CallF) (P : Program) (ops : Array Oper) : List Oper → List AV → Heap → Option (Out × List AV × Heap)
  | [], e, h => some (.normal, e, h)
  | o :: rest, e, h =>
    match wantedA ops e o with
    | some true =>
      (match opA call P e h o.op with
      | some (.ret v h') => opsA call P ops rest (putA e o.dst v) h'
      | some (.pan v h') => some (.pan v, e, h')
      | none => none)
    | some false => opsA call P ops rest (putA e o.dst (.tuple [])) h
    | none => none

/-- What holds where a run ends. -/
def Final (P : Program) (φ : List Emb) (w0 : World) (ds : List Deferred) (Q : Exit → Act → World → Prop) (r : Out × List AV × Heap) : Prop :=
  ∀ φ' w' a', Up φ φ' → R P φ' r.2.2 w0 w' → Vs φ' r.2.1 a'.tmps.toList → a'.defers = ds →
    match r.1 with
    | .normal => Q .normal a' w'
    | .exit id => Q (.exit id) a' w'
    | .ret => Q .ret a' w'
    | .pan v => ∀ v', V φ' v v' → Q (.panic [{ v := v', recovered := false }]) a' w'

theorem Final.up {P : Program} {φ φ' : List Emb} {w0 : World} {ds : List Deferred} {Q : Exit → Act → World → Prop} {r : Out × List AV × Heap} (h : Final P φ w0 ds Q r) (hu : Up φ φ') : Final P φ' w0 ds Q r :=
  fun φ'' w' a' h1 => h φ'' w' a' (hu.trans h1)

theorem undef_V (φ : List Emb) : V φ (.tuple []) undef := by simp only [V]; exact ⟨#[], rfl, by simp [Vs]⟩

theorem opsA_wp {ρ : Option Nat} {P : Program} (hF : Fns P) {call : CallF} (hcall : CallsOk P call) {ops : Array Oper} {w0 : World} {Q : Exit → Act → World → Prop} : ∀ (rest : List Oper) (k : Nat), ops.toList.drop k = rest → ∀ (φ : List Emb) (e : List AV) (h : Heap) (w : World) (a : Act) (r : Out × List AV × Heap),
    R P φ h w0 w → Vs φ e a.tmps.toList → opsA call P ops rest e h = some r → Final P φ w0 a.defers Q r → wpOpsIn (wideR ρ) 0 P ops Q (List.range' k rest.length) a w
  | [], k, hk, φ, e, h, w, a, r, hR, he, hr, hf => by
    simp only [opsA, Option.some.injEq] at hr
    subst hr
    exact hf φ w a (Up.refl _) hR he rfl
  | o :: rest, k, hk, φ, e, h, w, a, r, hR, he, hr, hf => by
    have hok : ops[k]? = some o := by
      have : (ops.toList.drop k)[0]? = some o := by rw [hk]; rfl
      rw [List.getElem?_drop, Nat.add_zero, Array.getElem?_toList] at this
      exact this
    have hk' : ops.toList.drop (k + 1) = rest := by
      rw [← List.drop_drop, hk]; rfl
    have ih := opsA_wp (ρ := ρ) hF hcall (w0 := w0) (Q := Q) rest (k + 1) hk'
    have hρ := fun x => evalA_V hR he x
    have hguard : ∀ t, wantedA ops e o = some t → Region.wanted o (yielded ops a.tmps) = t := fun t ht =>
      wantedA_eq (φ := φ) ht fun j b d _ _ => by
        have := nth_V he d
        simpa [Array.getD_eq_getD_getElem?, List.getD_eq_getElem?_getD] using this
    simp only [List.length_cons, List.range'_succ, wpOpsIn, hok]
    simp only [opsA] at hr
    split at hr
    · rename_i hw
      rw [hguard true hw]
      simp only [if_true]
      split at hr
      · rename_i v h' ho
        refine opA_wp hF hcall hR hρ ho ?_
        intro φ' w' v' hu hR' hv
        refine ih φ' _ h' w' _ r hR' (putA_V (Vs.up hu _ _ he) o.dst hv) hr ?_
        rw [put_defers']
        exact hf.up hu
      · rename_i v h' ho
        cases hr
        refine opA_wp hF hcall hR hρ ho ?_
        intro φ' w' v' hu hR' hv
        exact hf φ' w' a hu hR' (Vs.up hu _ _ he) rfl v' hv
      · cases hr
    · rename_i hw
      rw [hguard false hw]
      simp only [Bool.false_eq_true, if_false]
      refine ⟨fun _ _ => trivial, ih φ _ h w _ r hR (putA_V he o.dst (undef_V φ)) hr ?_⟩
      rw [put_defers']
      exact hf
    · cases hr

/-- A region that draws its order: laid in a later text. -/
abbrev DrawF := CallF → Array Oper → List AV → Heap → Option (Out × List AV × Heap)

def loopA (body : List AV → Heap → Option (Out × List AV × Heap)) : Nat → List AV → Heap → Option (Out × List AV × Heap)
  | 0, _, _ => none
  | n + 1, e, h =>
    match body e h with
    | some (.normal, e', h') => loopA body n e' h'
    | r => r

def execA (draw : DrawF) (call : CallF) (P : Program) (n : Nat) : Code → List AV → Heap → Option (Out × List AV × Heap)
  | .skip, e, h => some (.normal, e, h)
  | .label _, e, h => some (.normal, e, h)
  | .region _ ops dr, e, h => bif dr then draw call ops e h else opsA call P ops ops.toList e h
  | .seq a b, e, h =>
    match execA draw call P n a e h with
    | some (.normal, e', h') => execA draw call P n b e' h'
    | r => r
  | .cond c a b, e, h =>
    match evalA P e c with
    | .bool t => bif t then execA draw call P n a e h else execA draw call P n b e h
    | _ => none
  | .block id b, e, h =>
    match execA draw call P n b e h with
    | some (.exit i, e', h') => bif Nat.beq i id then some (.normal, e', h') else some (.exit i, e', h')
    | r => r
  | .loop b, e, h => loopA (execA draw call P n b) n e h
  | .exit id, e, h => some (.exit id, e, h)
  | .ret, e, h => some (.ret, e, h)
  | _, _, _ => none

/-- A piece of code's condition, in a round's frame or not. -/
def cwp (ρ : Option Nat) (P : Program) (c : Code) (Q : Exit → Act → World → Prop) (a : Act) (w : World) : Prop := c.wpIn (wideR ρ) 0 P Q a w
def DrawOk (P : Program) (draw : DrawF) : Prop := ∀ (ρ : Option Nat) (call : CallF), CallsOk P call → ∀ (id : Nat) (ops : Array Oper) (w0 : World) (Q : Exit → Act → World → Prop) (φ : List Emb) (e : List AV) (h : Heap) (w : World) (a : Act) (r : Out × List AV × Heap),
  R P φ h w0 w → Vs φ e a.tmps.toList → draw call ops e h = some r → Final P φ w0 a.defers Q r → cwp ρ P (.region id ops true) Q a w

theorem execA_wp {ρ : Option Nat} {P : Program} (hF : Fns P) {draw : DrawF} (hD : DrawOk P draw) {call : CallF} (hcall : CallsOk P call) {w0 : World} {n : Nat} : ∀ (c : Code) (Q : Exit → Act → World → Prop) (φ : List Emb) (e : List AV) (h : Heap) (w : World) (a : Act) (r : Out × List AV × Heap),
    R P φ h w0 w → Vs φ e a.tmps.toList → execA draw call P n c e h = some r → Final P φ w0 a.defers Q r → cwp ρ P c Q a w
  | .skip, Q, φ, e, h, w, a, r, hR, he, hr, hf => by
    simp only [execA, Option.some.injEq] at hr; subst hr
    exact wpIn_skip (hf φ w a (Up.refl _) hR he rfl)
  | .label l, Q, φ, e, h, w, a, r, hR, he, hr, hf => by
    simp only [execA, Option.some.injEq] at hr; subst hr
    exact wpIn_label (hf φ w a (Up.refl _) hR he rfl)
  | .region id ops dr, Q, φ, e, h, w, a, r, hR, he, hr, hf => by
    cases dr with
    | true =>
      simp only [execA, cond_true] at hr
      exact hD ρ call hcall id ops w0 Q φ e h w a r hR he hr hf
    | false =>
      simp only [execA, cond_false] at hr
      refine wpIn_region ?_
      have := opsA_wp (ρ := ρ) hF hcall (w0 := w0) (Q := Q) ops.toList 0 rfl φ e h w a r hR he hr hf
      rw [Array.length_toList] at this
      rw [List.range_eq_range']
      exact this
  | .seq x y, Q, φ, e, h, w, a, r, hR, he, hr, hf => by
    refine wpIn_seq ?_
    simp only [execA] at hr
    split at hr
    · rename_i e' h' hx
      refine execA_wp hF hD hcall x _ φ e h w a _ hR he hx ?_
      intro φ' w' a' hu hR' he' hd
      exact execA_wp hF hD hcall y Q φ' e' h' w' a' r hR' he' hr (by rw [hd]; exact hf.up hu)
    · rename_i hno
      refine execA_wp hF hD hcall x _ φ e h w a r hR he hr ?_
      intro φ' w' a' hu hR' he' hd
      have := hf φ' w' a' hu hR' he' hd
      obtain ⟨o, e', h'⟩ := r
      cases o with
      | normal => exact absurd hr (hno e' h')
      | exit id => exact this
      | ret => exact this
      | pan v => exact this
  | .cond c x y, Q, φ, e, h, w, a, r, hR, he, hr, hf => by
    simp only [execA] at hr
    split at hr
    · rename_i t ht
      have hc := evalA_V hR he c
      rw [ht] at hc
      simp only [V] at hc
      cases t with
      | true => exact wpIn_cond_true hc (execA_wp hF hD hcall x Q φ e h w a r hR he hr hf)
      | false => exact wpIn_cond_false hc (execA_wp hF hD hcall y Q φ e h w a r hR he hr hf)
    · cases hr
  | .block id b, Q, φ, e, h, w, a, r, hR, he, hr, hf => by
    refine wpIn_block ?_
    simp only [execA] at hr
    split at hr
    · rename_i i e' h' hx
      refine execA_wp hF hD hcall b _ φ e h w a _ hR he hx ?_
      intro φ' w' a' hu hR' he' hd
      cases hb : Nat.beq i id with
      | true =>
        have := Nat.eq_of_beq_eq_true hb
        subst this
        simp only [hb, cond_true, Option.some.injEq] at hr
        subst hr
        have := hf φ' w' a' hu hR' he' hd
        simpa [Exit.inBlock] using this
      | false =>
        have := Nat.ne_of_beq_eq_false hb
        simp only [hb, cond_false, Option.some.injEq] at hr
        subst hr
        have h2 := hf φ' w' a' hu hR' he' hd
        simpa [Exit.inBlock, this] using h2
    · rename_i hno
      refine execA_wp hF hD hcall b _ φ e h w a r hR he hr ?_
      intro φ' w' a' hu hR' he' hd
      have := hf φ' w' a' hu hR' he' hd
      obtain ⟨o, e', h'⟩ := r
      cases o with
      | normal => exact this
      | exit id => exact absurd hr (hno id e' h')
      | ret => exact this
      | pan v => exact this
  | .loop b, Q, φ, e, h, w, a, r, hR, he, hr, hf => by
    simp only [execA] at hr
    have key : ∀ (m : Nat) (φ : List Emb) (e : List AV) (h : Heap) (w : World) (a : Act), R P φ h w0 w → Vs φ e a.tmps.toList → loopA (execA draw call P n b) m e h = some r → Final P φ w0 a.defers Q r → Code.roundsIn (wideR ρ) 0 P b Q m a w := by
      intro m
      induction m with
      | zero => intro φ e h w a hR he hr hf; simp [loopA] at hr
      | succ m ih =>
        intro φ e h w a hR he hr hf
        rw [roundsIn_succ]
        simp only [loopA] at hr
        split at hr
        · rename_i e' h' hx
          refine execA_wp hF hD hcall b _ φ e h w a _ hR he hx ?_
          intro φ' w' a' hu hR' he' hd
          exact ih φ' e' h' w' a' hR' he' hr (by rw [hd]; exact hf.up hu)
        · rename_i hno
          refine execA_wp hF hD hcall b _ φ e h w a r hR he hr ?_
          intro φ' w' a' hu hR' he' hd
          have := hf φ' w' a' hu hR' he' hd
          obtain ⟨o, e', h'⟩ := r
          cases o with
          | normal => exact absurd hr (hno e' h')
          | exit id => exact this
          | ret => exact this
          | pan v => exact this
    exact wpIn_loop_rounds n (key n φ e h w a hR he hr hf)
  | .exit id, Q, φ, e, h, w, a, r, hR, he, hr, hf => by
    simp only [execA, Option.some.injEq] at hr; subst hr
    exact wpIn_exit (hf φ w a (Up.refl _) hR he rfl)
  | .ret, Q, φ, e, h, w, a, r, hR, he, hr, hf => by
    simp only [execA, Option.some.injEq] at hr; subst hr
    exact wpIn_ret (hf φ w a (Up.refl _) hR he rfl)
  | .rangeFunc .., Q, φ, e, h, w, a, r, hR, he, hr, hf => by simp [execA] at hr
  | .scope .., Q, φ, e, h, w, a, r, hR, he, hr, hf => by simp [execA] at hr
  | .goto .., Q, φ, e, h, w, a, r, hR, he, hr, hf => by simp [execA] at hr
  | .refuse .., Q, φ, e, h, w, a, r, hR, he, hr, hf => by simp [execA] at hr

/-! ### Functions -/

def resultA (P : Program) (env : List AV) (h : Heap) : ResultVar → Option AV
  | .tmp t => (match nth env t with | .unk => none | v => some v)
  | .cell a t => (match nth env a with | .ptr (some l) => loadA P h t l | _ => none)
def resultsA (P : Program) (env : List AV) (h : Heap) : List ResultVar → Option (List AV)
  | [] => some []
  | r :: rs => match resultA P env h r, resultsA P env h rs with
    | some v, some vs => some (v :: vs)
    | _, _ => none
def single : List AV → AV
  | [v] => v
  | vs => .tuple vs

def resultOf (tmps : Array Value) : ResultVar → Sem Value
  | .tmp t => pure (tmps.getD t undef)
  | .cell a t => do loadVar t (← asAddr (tmps.getD a undef))
theorem results_eq (fn : Func) (tmps : Array Value) : results fn tmps = (do let vs ← fn.results.mapM (resultOf tmps); pure (if h : vs.size = 1 then vs[0] else .tuple vs)) := by
  unfold results
  congr 1

theorem resultsA_run {P : Program} {φ : List Emb} {h : Heap} {w0 w : World} (hR : R P φ h w0 w) {env : List AV} {tmps : Array Value} (he : Vs φ env tmps.toList) : ∀ {rs : List ResultVar} {vs : List AV}, resultsA P env h rs = some vs →
    ∃ us, (rs.mapM (resultOf tmps)).run P w = .ok us w ∧ Vs φ vs us
  | [], vs, hv => by
    simp only [resultsA, Option.some.injEq] at hv
    subst hv
    exact ⟨[], by simp, by simp [Vs]⟩
  | r :: rs, vs, hv => by
    simp only [resultsA] at hv
    split at hv
    · rename_i v vs' h1 h2
      cases hv
      obtain ⟨us, h3, h4⟩ := resultsA_run hR he h2
      have hnth : ∀ t, V φ (nth env t) (tmps.getD t undef) := fun t => by
        have := nth_V he t
        simpa [Array.getD_eq_getD_getElem?, List.getD_eq_getElem?_getD] using this
      cases r with
      | tmp t =>
        have hh := hnth t
        simp only [resultA] at h1
        split at h1
        · cases h1
        · rename_i h1'
          cases h1
          exact ⟨tmps.getD t undef :: us, by simp only [List.mapM_cons, resultOf, Sem.run_bind, Sem.run_pure, Result.andThen_ok, h3], by rw [Vs_cons]; exact ⟨hh, h4⟩⟩
      | cell a t =>
        simp only [resultA] at h1
        split at h1
        · rename_i l hl
          have hh := hnth a
          rw [hl] at hh
          obtain ⟨u, h5, h6⟩ := loadA_run hR h1 hh
          simp only [V] at hh
          obtain ⟨em, _, hv⟩ := hh
          rw [hv] at h5
          simp only [Instr.loadAt, Instr.sureAddr, Sem.run_bind, Sem.run_pure, Result.andThen_ok] at h5
          refine ⟨u :: us, ?_, by rw [Vs_cons]; exact ⟨h6, h4⟩⟩
          simp only [List.mapM_cons, resultOf, Sem.run_bind, hv, asAddr, Sem.run_pure, Result.andThen_ok, h5, h3]
        · cases h1
    · cases hv

theorem results_run {P : Program} {φ : List Emb} {h : Heap} {w0 w : World} (hR : R P φ h w0 w) {env : List AV} {tmps : Array Value} (he : Vs φ env tmps.toList) {fn : Func} {vs : List AV} (hv : resultsA P env h fn.results.toList = some vs) :
    ∃ u, (results fn tmps).run P w = .ok u w ∧ V φ (single vs) u := by
  obtain ⟨us, h1, h2⟩ := resultsA_run hR he hv
  have hm : (fn.results.mapM (resultOf tmps)).run P w = .ok us.toArray w := by
    rw [Array.mapM_eq_mapM_toList, Sem.run_map, h1]
    rfl
  refine ⟨if h : us.toArray.size = 1 then us.toArray[0] else .tuple us.toArray, ?_, ?_⟩
  · rw [results_eq, Sem.run_bind, hm]
    rfl
  · match vs, us, h2 with
    | [], us, h2 => rw [Vs_nil] at h2; subst h2; simp [single, V, Vs]
    | [v], us, h2 =>
      simp only [Vs] at h2
      obtain ⟨y, ys, rfl, hy, rfl⟩ := h2
      simpa [single] using hy
    | v :: v2 :: vs, us, h2 =>
      have hl := h2.length
      have : ¬ us.toArray.size = 1 := by simp at hl ⊢; omega
      rw [dif_neg this]
      simp only [single, V]
      exact ⟨_, rfl, by simpa using h2⟩

def frameA (fn : Func) (args : List AV) : List AV := args ++ List.replicate (fn.ntmps - args.length) (.tuple [])

/-- A call: the body, then the results. -/
def callBody (exec : Code → List AV → Heap → Option (Out × List AV × Heap)) (P : Program) (fn : Func) (args : List AV) (h : Heap) : Option CRes :=
  match fn.body with
  | none => none
  | some c =>
    match exec c (frameA fn args) h with
    | some (.normal, e, h') | some (.ret, e, h') => (match resultsA P e h' fn.results.toList with | some vs => some (.ret (single vs) h') | none => none)
    | some (.pan v, _, h') => some (.pan v h')
    | _ => none

theorem callBody_ok {P : Program} (hF : Fns P) {draw : DrawF} (hD : DrawOk P draw) {call : CallF} (hcall : CallsOk P call) {n : Nat} {f : FuncId} {fn : Func} (hf : P.funcs[f]? = some fn) {args : List AV} {h : Heap} {r : CRes} (hr : callBody (execA draw call P n) P fn args h = some r) : CallOk P f args h r := by
  intro φ w0 w args' hR ha
  unfold callBody at hr
  split at hr
  · cases hr
  rename_i c hb
  have hlen : args'.size = args.length := by rw [← Array.length_toList, ha.length]
  have hframe : Vs φ (frameA fn args) (args' ++ Array.replicate (fn.ntmps - args'.size) undef).toList := by
    simp only [frameA, Array.toList_append, Array.toList_replicate]
    refine ha.append (Vs.of_get (by simp [hlen]) fun i a v h1 h2 => ?_)
    rw [List.getElem?_replicate] at h1 h2
    split at h1
    · cases h1
      split at h2
      · cases h2; exact undef_V φ
      · cases h2
    · cases h1
  rw [if_pos (Array.getElem?_eq_some_iff.1 hf).1]
  refine .inl ⟨callFunc_run hF hf hb _ _, callsR.1 (callsIn_of_wp (F := wideR none) (n := 0) hf hb trivial ?_)⟩
  have fin : ∀ e h', (match resultsA P e h' fn.results.toList with | some vs => some (CRes.ret (single vs) h') | none => none) = some r → ∀ φ' w' (a' : Act), Up φ φ' → R P φ' h' w0 w' → Vs φ' e a'.tmps.toList → a'.defers = [] →
      a'.defers = [] ∧ ∃ v, (results fn a'.tmps).run P w' = .ok v w' ∧ PostC P φ w0 r (.returned v) w' := by
    intro e h' hres φ' w' a' hu hR' he' hd
    split at hres
    · rename_i vs hvs
      cases hres
      obtain ⟨u, h1, h2⟩ := results_run hR' he' hvs
      exact ⟨hd, u, h1, φ', u, rfl, hu, hR', h2⟩
    · cases hres
  split at hr
  · rename_i e h' hx
    exact execA_wp hF hD hcall c _ φ _ h w _ _ hR hframe hx (fun φ' w' a' hu hR' he' hd => fin e h' hr φ' w' a' hu hR' he' hd)
  · rename_i e h' hx
    exact execA_wp hF hD hcall c _ φ _ h w _ _ hR hframe hx (fun φ' w' a' hu hR' he' hd => fin e h' hr φ' w' a' hu hR' he' hd)
  · rename_i v e h' hx
    cases hr
    refine execA_wp hF hD hcall c _ φ _ h w _ _ hR hframe hx (fun φ' w' a' hu hR' he' hd v' hv => ?_)
    exact ⟨hd, φ', v', rfl, hu, hR', hv⟩
  · cases hr

/-- Calls, d deep at most; 'ov' says what is known of a call already. -/
def callN (draw : DrawF) (ov : CallF) (P : Program) (n : Nat) : Nat → CallF
  | 0, f, args, h => ov f args h
  | d + 1, f, args, h =>
    match ov f args h with
    | some r => some r
    | none =>
      match P.funcs[f]? with
      | none => none
      | some fn => callBody (execA draw (callN draw ov P n d) P n) P fn args h

theorem callN_ok {P : Program} (hF : Fns P) {draw : DrawF} (hD : DrawOk P draw) {ov : CallF} (hov : CallsOk P ov) {n : Nat} : ∀ d, CallsOk P (callN draw ov P n d)
  | 0 => hov
  | d + 1 => by
    intro f args h r hr
    simp only [callN] at hr
    split at hr
    · rename_i r' ho
      cases hr
      exact hov f args h _ ho
    · split at hr
      · cases hr
      · rename_i fn hf
        exact callBody_ok hF hD (callN_ok hF hD hov d) hf hr
end Go.Am

noncomputable section
namespace Go.Am
open Go.RowKit

/-- Does it write or make memory (or may it)? -/
def loudA (P : Program) : Op → Bool
  | .move _ | .assign _ | .pick .. | .build .. | .load .. | .nilCheck _ | .binOp .. | .unOp .. | .makeInterface .. | .makeFunc .. | .slice .. | .fieldAddr .. | .field .. | .indexAddr .. | .index .. | .typeAssert .. | .extract .. => false
  | .convert _ dst _ => (match P.underlying dst with | some (.slice _) => true | _ => false)
  | .call c => (match c.callee with | .builtin .len | .builtin .max | .builtin .min => false | _ => true)
  | _ => true

/-- Does its answer hang on memory? (Of those that are not loud.) -/
def readsA (P : Program) : Op → Bool
  | .load .. => true
  | .slice t _ _ (some _) _ => (match P.underlying t with | some (.slice _) => true | _ => false)
  | .binOp _ t _ _ _ => (match P.underlying t with | some (.pointer _) => true | _ => false)
  | .convert src _ _ => (match P.underlying src with | some (.slice _) => true | some (.pointer _) => true | some .unsafePointer => true | _ => false)
  | .call c => (match c.callee, c.argTypes.toList with | .builtin .len, [t] => (match P.underlying t with | some (.map _ _) => true | _ => false) | _, _ => false)
  | _ => false

def bindsA (e : Edge) : Bool := Region.binds .any e

def maskOf (bs : List Nat) : List Edge → Nat
  | [] => 0
  | e :: es => bif bindsA e then (1 <<< e.on) ||| bs.getD e.on 0 ||| maskOf bs es else maskOf bs es

def masks : List Oper → List Nat → List Nat
  | [], acc => acc
  | o :: os, acc => masks os (acc ++ [maskOf acc o.after.toList])

def usesA (ops : Array Oper) (o : Oper) : List Tmp :=
  (o.op.operands.toList.filterMap fun | .tmp t => some t | _ => none) ++
  (match o.guard with
   | some (g, _) => ((ops[g]?).bind (·.dst)).toList
   | none => [])

/-- Of the operations i and j, i ahead of j in the text: may nothing be said of their order? Then they must not touch. -/
def pairOk (P : Program) (ops : Array Oper) (x y : Oper) (before : Bool) : Bool :=
  before ||
  (!(loudA P x.op && loudA P y.op) &&
   (match x.dst with | some d => !(usesA ops y).contains d | none => true) &&
   (match y.dst with | some d => !(usesA ops x).contains d | none => true))

def dstOk (x y : Oper) : Bool :=
  match x.dst, y.dst with
  | some c, some d => !Nat.beq c d
  | _, _ => true

def allFrom (p : Nat → Oper → Bool) : List Oper → Nat → Bool
  | [], _ => true
  | o :: os, i => p i o && allFrom p os (i + 1)

def drawStatic (P : Program) (ops : Array Oper) (bs : List Nat) : Bool :=
  allFrom (fun j y =>
    (y.after.toList.all fun e => !bindsA e || Nat.blt e.on j) &&
    allFrom (fun i x => !Nat.blt i j || (dstOk x y && pairOk P ops x y (Nat.testBit (bs.getD j 0) i))) ops.toList 0) ops.toList 0

/-- Which operations are loud; behind them the end. -/
def louds (P : Program) : List Oper → Nat → List Nat
  | [], i => [i]
  | o :: os, i => bif loudA P o.op then i :: louds P os (i + 1) else louds P os (i + 1)

/-- May operation i be done when p is the first loud one that is still to be done? -/
def mayAt (bs : List Nat) (i p : Nat) : List Nat → Bool
  | [] => !Nat.testBit (bs.getD i 0) p
  | q :: qs => (bif Nat.blt q p then !Nat.testBit (bs.getD q 0) i else true) && mayAt bs i p qs

mutual
def beqV : AV → AV → Bool
  | .unk, .unk => true
  | .bool a, .bool b => a == b
  | .int k a, .int k' b => decide (k = k') && decide (a = b)
  | .str a, .str b => decide (a = b)
  | .ptr none, .ptr none => true
  | .ptr (some a), .ptr (some b) => Nat.beq a.id b.id && Nat.beq a.off b.off
  | .slice none n c, .slice none m d => Nat.beq n m && beqCap c d
  | .slice (some a) n c, .slice (some b) m d => Nat.beq a.id b.id && Nat.beq a.off b.off && Nat.beq n m && beqCap c d
  | .map none, .map none => true
  | .map (some a), .map (some b) => Nat.beq a b
  | .chan none, .chan none => true
  | .chan (some a), .chan (some b) => Nat.beq a b
  | .func f a b, .func g c d => decide (f = g) && beqVs a c && beqVs b d
  | .nilFunc, .nilFunc => true
  | .iface t a, .iface u b => Nat.beq t u && beqV a b
  | .nilIface, .nilIface => true
  | .yield a, .yield b => Nat.beq a b
  | .agg a, .agg b => beqVs a b
  | .tuple a, .tuple b => beqVs a b
  | _, _ => false
def beqVs : List AV → List AV → Bool
  | [], [] => true
  | a :: as, b :: bs => beqV a b && beqVs as bs
  | _, _ => false
def beqCap : Cap → Cap → Bool
  | .exact a, .exact b => Nat.beq a b
  | .tip a, .tip b => Nat.beq a b
  | .dim, .dim => true
  | _, _ => false
end

structure TR where
  env : List AV
  heap : Heap
  val : AV
  on : Bool

def traceA (call : CallF) (P : Program) (ops : Array Oper) : List Oper → List AV → Heap → Option (List TR)
  | [], e, h => some [⟨e, h, .unk, false⟩]
  | o :: rest, e, h =>
    match wantedA ops e o with
    | some true =>
      (match opA call P e h o.op with
      | some (.ret v h') => (match traceA call P ops rest (putA e o.dst v) h' with | some tr => some (⟨e, h, v, true⟩ :: tr) | none => none)
      | _ => none)
    | some false => (match traceA call P ops rest (putA e o.dst (.tuple [])) h with | some tr => some (⟨e, h, .tuple [], false⟩ :: tr) | none => none)
    | none => none

/-- A reading answers alike wherever it may be done. -/
def sameAt (P : Program) (bs ls : List Nat) (full : List TR) (i : Nat) (o : Oper) (x : TR) : List Nat → Bool
  | [] => true
  | p :: ps =>
    (bif mayAt bs i p ls then
      (match full[p]? with
       | some y => (match aop P x.env y.heap o.op with | some (v, _) => beqV v x.val | none => false)
       | none => false)
     else true) && sameAt P bs ls full i o x ps

def dynAll (P : Program) (bs ls : List Nat) (full : List TR) : List Oper → List TR → Nat → Bool
  | o :: os, x :: xs, i => (bif x.on && readsA P o.op && !loudA P o.op then sameAt P bs ls full i o x ls else true) && dynAll P bs ls full os xs (i + 1)
  | _, _, _ => true

/-- Is there a reading that is done at different times? -/
def only (bs ls : List Nat) (i : Nat) : List Nat → Bool
  | [] => true
  | p :: ps => (!mayAt bs i p ls || (Nat.blt i p && ls.all fun q => !(Nat.blt i q && Nat.blt q p))) && only bs ls i ps
def needNot (P : Program) (bs ls : List Nat) : List Oper → Nat → Bool
  | [], _ => true
  | o :: os, i => (bif readsA P o.op && !loudA P o.op then only bs ls i ls else true) && needNot P bs ls os (i + 1)

def dynOk (call : CallF) (P : Program) (ops : Array Oper) (e : List AV) (h : Heap) : Bool :=
  match traceA call P ops ops.toList e h with
  | some tr => dynAll P (masks ops.toList []) (louds P ops.toList 0) tr ops.toList tr 0
  | none => false

def drawA (P : Program) : DrawF := fun call ops e h =>
  bif drawStatic P ops (masks ops.toList []) then
    (match opsA call P ops ops.toList e h with
    | some (.normal, e', h') => bif needNot P (masks ops.toList []) (louds P ops.toList 0) ops.toList 0 || dynOk call P ops e h then some (.normal, e', h') else none
    | _ => none)
  else none
end Go.Am

noncomputable section
namespace Go.Am
open Go.RowKit

/-! ### Equality of values -/

theorem beqCap_eq : ∀ {a b : Cap}, beqCap a b = true → a = b
  | .exact a, .exact b, h => by simp only [beqCap] at h; rw [Nat.eq_of_beq_eq_true h]
  | .tip a, .tip b, h => by simp only [beqCap] at h; rw [Nat.eq_of_beq_eq_true h]
  | .dim, .dim, _ => rfl
  | .exact _, .tip _, h => by simp [beqCap] at h
  | .exact _, .dim, h => by simp [beqCap] at h
  | .tip _, .exact _, h => by simp [beqCap] at h
  | .tip _, .dim, h => by simp [beqCap] at h
  | .dim, .exact _, h => by simp [beqCap] at h
  | .dim, .tip _, h => by simp [beqCap] at h
theorem loc_eq {a b : Loc} (h : (Nat.beq a.id b.id && Nat.beq a.off b.off) = true) : a = b := by
  rw [Bool.and_eq_true] at h
  obtain ⟨i, o⟩ := a
  obtain ⟨j, q⟩ := b
  have h1 := Nat.eq_of_beq_eq_true h.1
  have h2 := Nat.eq_of_beq_eq_true h.2
  simp only at h1 h2
  subst h1 h2
  rfl
mutual
theorem beqV_eq : ∀ (a b : AV), beqV a b = true → a = b
  | a, b, h => by
    cases a with
    | unk => cases b <;> simp [beqV] at h ⊢
    | yield k => cases b <;> simp [beqV] at h ⊢; exact h
    | bool x => cases b <;> simp [beqV] at h ⊢; exact h
    | int k x => cases b <;> simp [beqV] at h ⊢; exact h
    | str x => cases b <;> simp [beqV] at h ⊢; exact h
    | nilFunc => cases b <;> simp [beqV] at h ⊢
    | nilIface => cases b <;> simp [beqV] at h ⊢
    | ptr l =>
      cases b with
      | ptr m =>
        cases l <;> cases m <;> first | rfl | (simp [beqV] at h; done) | skip
        simp only [beqV] at h
        rw [loc_eq h]
      | _ => cases l <;> simp [beqV] at h
    | slice l n c =>
      cases b with
      | slice m n' c' =>
        cases l <;> cases m <;> first | (simp [beqV] at h; done) | skip
        · simp only [beqV, Bool.and_eq_true] at h
          rw [Nat.eq_of_beq_eq_true h.1, beqCap_eq h.2]
        · rename_i x y
          simp only [beqV, Bool.and_eq_true] at h
          rw [Nat.eq_of_beq_eq_true h.1.2, beqCap_eq h.2, loc_eq (a := x) (b := y) (by rw [Bool.and_eq_true]; exact h.1.1)]
      | _ => cases l <;> simp [beqV] at h
    | map l =>
      cases b with
      | map m =>
        cases l <;> cases m <;> first | rfl | (simp [beqV] at h; done) | skip
        simp only [beqV] at h
        rw [Nat.eq_of_beq_eq_true h]
      | _ => cases l <;> simp [beqV] at h
    | chan l =>
      cases b with
      | chan m =>
        cases l <;> cases m <;> first | rfl | (simp [beqV] at h; done) | skip
        simp only [beqV] at h
        rw [Nat.eq_of_beq_eq_true h]
      | _ => cases l <;> simp [beqV] at h
    | func f x y =>
      cases b with
      | func g x' y' =>
        simp only [beqV, Bool.and_eq_true, decide_eq_true_eq] at h
        rw [h.1.1, beqVs_eq x x' h.1.2, beqVs_eq y y' h.2]
      | _ => simp [beqV] at h
    | iface t x =>
      cases b with
      | iface u y =>
        simp only [beqV, Bool.and_eq_true] at h
        rw [Nat.eq_of_beq_eq_true h.1, beqV_eq x y h.2]
      | _ => simp [beqV] at h
    | agg x =>
      cases b with
      | agg y => simp only [beqV] at h; rw [beqVs_eq x y h]
      | _ => simp [beqV] at h
    | tuple x =>
      cases b with
      | tuple y => simp only [beqV] at h; rw [beqVs_eq x y h]
      | _ => simp [beqV] at h
theorem beqVs_eq : ∀ (a b : List AV), beqVs a b = true → a = b
  | [], [], _ => rfl
  | [], _ :: _, h => by simp [beqVs] at h
  | _ :: _, [], h => by simp [beqVs] at h
  | a :: as, b :: bs, h => by
    simp only [beqVs, Bool.and_eq_true] at h
    rw [beqV_eq a b h.1, beqVs_eq as bs h.2]
end

/-! ### Quiet operations -/

theorem convert_quiet {P : Program} {h h' : Heap} {src dst : TypeId} {x v : AV} (hd : ∀ e, P.underlying dst ≠ some (.slice e)) (hc : convertA P h src dst x = some (v, h')) : h' = h ∧ ((∀ e, P.underlying src ≠ some (.slice e)) → (∀ e, P.underlying src ≠ some (.pointer e)) → ∀ h2, convertA P h2 src dst x = some (v, h2)) := by
  unfold convertA at hc
  split at hc
  · rename_i hs hdd
    cases hc
    exact ⟨rfl, fun _ _ h2 => by simp [convertA, hs, hdd]⟩
  · rename_i hs hdd
    cases hc
    refine ⟨rfl, fun hh _ h2 => ?_⟩
    rename_i d s
    unfold convertA
    rw [hs, hdd]
  · rename_i hs hdd
    exact absurd hdd (hd _)
  · rename_i e l n c hs hdd
    refine ⟨?_, fun hh => absurd hs (hh e)⟩
    repeat' split at hc
    all_goals first | (cases hc; done) | (cases hc; rfl)
  · rename_i t l hs hdd
    refine ⟨?_, fun _ hh => absurd hs (hh t)⟩
    repeat' split at hc
    all_goals first | (cases hc; done) | (cases hc; rfl)
  · cases hc

theorem convSlA_none {P : Program} {h : Heap} {src dst : TypeId} {x : AV} (hd : ∀ e, P.underlying dst ≠ some (.slice e)) : convSlA P h src dst x = none := by
  unfold convSlA
  split
  · rename_i hs
    split
    · rw [cond_eq_ite]
      split
      · rename_i hb
        rw [Nat.eq_of_beq_eq_true hb] at hs
        exact absurd hs (hd _)
      · rfl
    · rfl
  · rfl
theorem convA_quiet {P : Program} {h h' : Heap} {src dst : TypeId} {x v : AV} (hd : ∀ e, P.underlying dst ≠ some (.slice e)) (hc : convA P h src dst x = some (v, h')) :
    h' = h ∧ ((∀ e, P.underlying src ≠ some (.slice e)) → (∀ t, P.underlying src ≠ some (.pointer t)) → P.underlying src ≠ some .unsafePointer → ∀ h2, convA P h2 src dst x = some (v, h2)) := by
  unfold convA at hc ⊢
  simp only [convSlA_none hd] at hc ⊢
  split at hc
  · rename_i p hp
    cases hc
    have := convert_quiet hd hp
    exact ⟨this.1, fun a b _ h2 => by rw [this.2 a b h2]⟩
  · obtain ⟨h1, rfl⟩ := withH_some hc
    refine ⟨rfl, fun _ _ c => ?_⟩
    unfold fromUnsafeA at h1
    split at h1
    · rename_i hs _; exact absurd (by assumption) c
    · rename_i hs _; exact absurd (by assumption) c
    · cases h1

theorem bi_toRet {P : Program} {h : Heap} {b : Builtin} {ts : List TypeId} {args : List AV} {r : CRes} (ho : biA P h b ts args = some r) (hb : b ≠ .panic) : toRet (builtinA P h b ts args) = some r := by
  unfold biA at ho
  split at ho
  · exact absurd rfl hb
  · exact ho

theorem quiet_same {P : Program} {call : CallF} {env : List AV} {h : Heap} {op : Op} {r : CRes} (hl : loudA P op = false) (ho : opA call P env h op = some r) : ∃ v, r = .ret v h ∧ aop P env h op = some (v, h) := by
  have key : ∀ x : Option (AV × Heap), toRet x = some r → (∀ v h', x = some (v, h') → h' = h) → x = aop P env h op → ∃ v, r = .ret v h ∧ aop P env h op = some (v, h) := by
    intro x h1 h2 h3
    obtain ⟨v, h', h4, h5⟩ := toRet_some h1
    have := h2 v h' h4
    subst this
    exact ⟨v, h5, by rw [← h3, h4]⟩
  have wh : ∀ (y : Option AV) v h', withH h y = some (v, h') → h' = h := fun y v h' hh => (withH_some hh).2
  cases op <;> simp only [loudA] at hl <;> try (cases hl; done)
  case call c =>
    obtain ⟨callee, args, ats⟩ := c
    cases callee with
    | value f => simp at hl
    | invoke x n => simp at hl
    | builtin b =>
      simp only at hl
      simp only [opA] at ho
      split at hl
      · rename_i heq0
        injection heq0 with e0
        subst e0
        exact key _ (bi_toRet ho (by simp)) (fun v h' hh => by
          unfold builtinA at hh; split at hh <;> first | (exact wh _ _ _ hh) | (rename_i heq _ _ _; cases heq; done) | (rename_i heq _ _; cases heq; done) | (rename_i heq _; cases heq; done) | (cases hh; done)) rfl
      · rename_i heq0
        injection heq0 with e0
        subst e0
        exact key _ (bi_toRet ho (by simp)) (fun v h' hh => by
          unfold builtinA at hh; split at hh <;> first | (exact wh _ _ _ hh) | (rename_i heq _ _ _; cases heq; done) | (rename_i heq _ _; cases heq; done) | (rename_i heq _; cases heq; done) | (cases hh; done)) rfl
      · rename_i heq0
        injection heq0 with e0
        subst e0
        exact key _ (bi_toRet ho (by simp)) (fun v h' hh => by
          unfold builtinA at hh; split at hh <;> first | (exact wh _ _ _ hh) | (rename_i heq _ _ _; cases heq; done) | (rename_i heq _ _; cases heq; done) | (rename_i heq _; cases heq; done) | (cases hh; done)) rfl
      · cases hl
  case convert src dst x =>
    refine key _ ho (fun v h' hh => ?_) rfl
    refine (convA_quiet (fun e he => ?_) hh).1
    rw [he] at hl
    cases hl
  case move x => exact key (aop P env h (.move x)) ho (fun v h' hh => by simp [aop] at hh; exact hh.2.symm) rfl
  case assign x => exact key (aop P env h (.assign x)) ho (fun v h' hh => by simp [aop] at hh; exact hh.2.symm) rfl
  case pick a b c => exact key _ ho (fun v h' hh => by simp only [aop] at hh; split at hh <;> first | (cases hh; done) | (cases hh; rfl)) rfl
  case load t a => exact key _ ho (fun v h' hh => by simp only [aop] at hh; split at hh <;> first | (exact wh _ _ _ hh) | (cases hh)) rfl
  case makeFunc fn a b => exact key (aop P env h (.makeFunc fn a b)) ho (fun v h' hh => by simp [aop] at hh; exact hh.2.symm) rfl
  all_goals exact key _ ho (fun v h' hh => wh _ v h' hh) rfl

theorem binA_free {P : Program} {h : Heap} {op : BinOp} {t : TypeId} {xo yo : Operand} {x y r : AV} (ht : ∀ e, P.underlying t ≠ some (.pointer e)) (hb : binA P h op t xo yo x y = some r) (h2 : Heap) : binA P h2 op t xo yo x y = some r := by
  have he : eqA P h2 t x y = eqA P h t x y := by
    unfold eqA
    split <;> first | rfl | (rename_i hu; exact absurd hu (ht _))
  unfold binA at hb ⊢
  rw [he]
  exact hb

theorem lenA_free {P : Program} {h : Heap} {t : TypeId} {x r : AV} (ht : ∀ k e, P.underlying t ≠ some (.map k e)) (hb : lenA P h t x = some r) (h2 : Heap) : lenA P h2 t x = some r := by
  unfold lenA at hb ⊢
  split at hb <;> first | (rename_i hu; exact absurd hu (ht _ _)) | exact hb

theorem quiet_free {P : Program} {env : List AV} {h : Heap} {op : Op} {v : AV} (hl : loudA P op = false) (hr : readsA P op = false) (ho : aop P env h op = some (v, h)) (h2 : Heap) : aop P env h2 op = some (v, h2) := by
  have wh : ∀ (y : Option AV), withH h y = some (v, h) → withH h2 y = some (v, h2) := fun y hh => by
    have := (withH_some hh).1
    subst this
    rfl
  cases op <;> simp only [loudA] at hl <;> (try (cases hl; done)) <;> simp only [readsA] at hr <;> (try (cases hr; done))
  case call c =>
    obtain ⟨callee, args, ats⟩ := c
    cases callee with
    | value f => simp at hl
    | invoke x n => simp at hl
    | builtin b =>
      simp only at hl hr
      simp only [aop] at ho ⊢
      split at hl
      · rename_i heq0
        injection heq0 with e0
        subst e0
        unfold builtinA at ho ⊢
        split at ho
        · rename_i t x heq1 heq2
          rw [heq1] at hr
          simp only at hr
          have := (withH_some ho).1
          have h3 := lenA_free (h := h) (fun k e hu => by rw [hu] at hr; cases hr) this h2
          simp only [h3, withH]
        all_goals first | (rename_i heq _ _ _; cases heq; done) | (rename_i heq _ _; cases heq; done) | (rename_i heq _; cases heq; done) | (cases ho; done)
      · rename_i heq0
        injection heq0 with e0
        subst e0
        unfold builtinA at ho ⊢
        split at ho <;> first | (rename_i heq _ _ _; cases heq; done) | (rename_i heq _ _; cases heq; done) | (rename_i heq _; cases heq; done) | (cases ho; done) | exact wh _ ho
      · rename_i heq0
        injection heq0 with e0
        subst e0
        unfold builtinA at ho ⊢
        split at ho <;> first | (rename_i heq _ _ _; cases heq; done) | (rename_i heq _ _; cases heq; done) | (rename_i heq _; cases heq; done) | (cases ho; done) | exact wh _ ho
      · cases hl
  case convert src dst x =>
    simp only [aop] at ho ⊢
    exact (convA_quiet (fun e he => by rw [he] at hl; cases hl) ho).2 (fun e he => by rw [he] at hr; cases hr) (fun e he => by rw [he] at hr; cases hr) (fun he => by rw [he] at hr; cases hr) h2
  case binOp op t x y yt =>
    simp only [aop] at ho ⊢
    have h1 := (withH_some ho).1
    rw [binA_free (fun e he => by rw [he] at hr; cases hr) h1 h2]
    rfl
  case move x => simp only [aop, Option.some.injEq, Prod.mk.injEq] at ho ⊢; exact ⟨ho.1, trivial⟩
  case assign x => simp only [aop, Option.some.injEq, Prod.mk.injEq] at ho ⊢; exact ⟨ho.1, trivial⟩
  case pick a b c =>
    simp only [aop] at ho ⊢
    split at ho
    · rename_i t ht
      simp only [Option.some.injEq, Prod.mk.injEq] at ho ⊢
      exact ⟨ho.1, trivial⟩
    · cases ho
  case makeFunc fn a b => simp only [aop, Option.some.injEq, Prod.mk.injEq] at ho ⊢; exact ⟨ho.1, trivial⟩
  case slice t x lo hi mx =>
    simp only [aop] at ho ⊢
    have h1 := (withH_some ho).1
    rw [sliceHA_free (h := h) (fun e he => ?_) h1 h2]
    · rfl
    · cases hi with
      | none => rfl
      | some y => simp only [readsA, he] at hr; cases hr
  all_goals exact wh _ ho

/-! ### An operation hangs on its operands alone -/

theorem evals_congr {P : Program} {env env' : List AV} {xs : List Operand} (h : ∀ x ∈ xs, evalA P env x = evalA P env' x) : evals P env xs = evals P env' xs := List.map_congr_left h
theorem evalParts_congr {P : Program} {env env' : List AV} {xs : List (Nat × Operand)} (h : ∀ x ∈ xs.map (·.2), evalA P env x = evalA P env' x) : evalParts P env xs = evalParts P env' xs :=
  List.map_congr_left fun x hx => by rw [h x.2 (List.mem_map.2 ⟨x, hx, rfl⟩)]
theorem evalO_congr {P : Program} {env env' : List AV} {x : Option Operand} (h : ∀ y ∈ x.toArray.toList, evalA P env y = evalA P env' y) : evalO P env x = evalO P env' x := by
  cases x with
  | none => rfl
  | some y => simp only [evalO, Option.map_some]; rw [h y (by simp)]

theorem opA_congr {P : Program} {call : CallF} {env env' : List AV} {h : Heap} {op : Op} (hx : ∀ x ∈ op.operands.toList, evalA P env x = evalA P env' x) : opA call P env h op = opA call P env' h op := by
  cases op with
  | call c =>
    obtain ⟨callee, args, ats⟩ := c
    have hargs : evals P env args.toList = evals P env' args.toList := evals_congr fun x hm => hx x (by simp only [Op.operands, Call.operands, Array.toList_append]; exact List.mem_append.2 (.inr hm))
    cases callee with
    | builtin b => simp only [opA, hargs]
    | value f =>
      have hf : evalA P env f = evalA P env' f := hx f (by simp [Op.operands, Call.operands])
      simp only [opA, hargs, hf]
    | invoke r n =>
      have hf : evalA P env r = evalA P env' r := hx r (by simp [Op.operands, Call.operands])
      simp only [opA, hargs, hf]
  | build t parts =>
    have := evalParts_congr (P := P) (env := env) (env' := env') (xs := parts.toList) (fun x hm => hx x (by simpa [Op.operands] using hm))
    simp only [opA, aop, this]
  | buildSlice t n parts =>
    have := evalParts_congr (P := P) (env := env) (env' := env') (xs := parts.toList) (fun x hm => hx x (by simpa [Op.operands] using hm))
    simp only [opA, aop, this]
  | makeFunc fn a b =>
    have h1 := evals_congr (P := P) (env := env) (env' := env') (xs := a.toList) (fun x hm => hx x (by simp only [Op.operands, Array.toList_append]; exact List.mem_append.2 (.inl hm)))
    have h2 := evals_congr (P := P) (env := env) (env' := env') (xs := b.toList) (fun x hm => hx x (by simp only [Op.operands, Array.toList_append]; exact List.mem_append.2 (.inr hm)))
    simp only [opA, aop, h1, h2]
  | slice t x lo hi mx =>
    have h0 := hx x (by simp [Op.operands])
    have h1 := evalO_congr (P := P) (env := env) (env' := env') (x := lo) (fun y hm => hx y (by simp only [Op.operands, Array.toList_append, List.mem_append]; exact .inl (.inl (.inr hm))))
    have h2 := evalO_congr (P := P) (env := env) (env' := env') (x := hi) (fun y hm => hx y (by simp only [Op.operands, Array.toList_append, List.mem_append]; exact .inl (.inr hm)))
    have h3 := evalO_congr (P := P) (env := env) (env' := env') (x := mx) (fun y hm => hx y (by simp only [Op.operands, Array.toList_append, List.mem_append]; exact .inr hm))
    simp only [opA, aop, h0, h1, h2, h3]
  | select cs b => rfl
  | makeMap t r => cases r <;> rfl
  | _ =>
    simp only [Op.operands, List.mem_cons, List.not_mem_nil, or_false, forall_eq_or_imp, forall_eq] at hx
    simp only [opA, aop, hx]
end Go.Am

noncomputable section
namespace Go.Am
open Go.RowKit

/-! ### What the static look says -/

theorem allFrom_at {p : Nat → Oper → Bool} : ∀ {l : List Oper} {k : Nat}, allFrom p l k = true → ∀ (i : Nat) (o : Oper), l[i]? = some o → p (k + i) o = true
  | [], _, _, i, o, h => by simp at h
  | x :: xs, k, h, i, o, ho => by
    simp only [allFrom, Bool.and_eq_true] at h
    cases i with
    | zero => simp at ho; subst ho; exact h.1
    | succ i =>
      simp at ho
      have := allFrom_at h.2 i o ho
      rwa [show k + 1 + i = k + (i + 1) by omega] at this

theorem masks_length : ∀ (os : List Oper) (acc : List Nat), (masks os acc).length = acc.length + os.length
  | [], acc => by simp [masks]
  | o :: os, acc => by simp [masks, masks_length os]; omega
theorem masks_prefix : ∀ (os : List Oper) (acc : List Nat) (i : Nat), i < acc.length → (masks os acc).getD i 0 = acc.getD i 0
  | [], acc, i, _ => rfl
  | o :: os, acc, i, hi => by
    simp only [masks]
    rw [masks_prefix os _ i (by simp; omega)]
    simp [List.getD, List.getElem?_append, hi]
theorem masks_at : ∀ (os : List Oper) (acc : List Nat) (i : Nat) (o : Oper), os[i]? = some o → ∃ pre : List Nat, pre.length = acc.length + i ∧ (masks os acc).getD (acc.length + i) 0 = maskOf pre o.after.toList ∧ ∀ k, k < pre.length → pre.getD k 0 = (masks os acc).getD k 0
  | [], acc, i, o, h => by simp at h
  | x :: os, acc, i, o, h => by
    cases i with
    | zero =>
      simp at h
      subst h
      refine ⟨acc, rfl, ?_, fun k hk => ?_⟩
      · simp only [masks, Nat.add_zero]
        rw [masks_prefix os _ acc.length (by simp)]
        simp [List.getD]
      · simp only [masks]
        rw [masks_prefix os _ k (by simp; omega)]
        simp [List.getD, List.getElem?_append, hk]
    | succ i =>
      simp at h
      obtain ⟨pre, h1, h2, h3⟩ := masks_at os (acc ++ [maskOf acc x.after.toList]) i o h
      simp only [List.length_append, List.length_singleton] at h1 h2
      refine ⟨pre, by omega, ?_, fun k hk => by simpa [masks] using h3 k hk⟩
      simp only [masks]
      rw [show acc.length + (i + 1) = acc.length + 1 + i by omega]
      exact h2

theorem maskOf_bit {bs : List Nat} {j : Nat} : ∀ {es : List Edge}, Nat.testBit (maskOf bs es) j = true → ∃ e ∈ es, bindsA e = true ∧ (e.on = j ∨ Nat.testBit (bs.getD e.on 0) j = true)
  | [], h => by simp [maskOf] at h
  | e :: es, h => by
    simp only [maskOf] at h
    cases hb : bindsA e with
    | false =>
      simp only [hb, cond_false] at h
      obtain ⟨e', h1, h2⟩ := maskOf_bit h
      exact ⟨e', by simp [h1], h2⟩
    | true =>
      simp only [hb, cond_true, Nat.testBit_or, Bool.or_eq_true] at h
      rcases h with (h | h) | h
      · rw [Nat.one_shiftLeft, Nat.testBit_two_pow, decide_eq_true_eq] at h
        exact ⟨e, by simp, hb, .inl h⟩
      · exact ⟨e, by simp, hb, .inr h⟩
      · obtain ⟨e', h1, h2⟩ := maskOf_bit h
        exact ⟨e', by simp [h1], h2⟩

structure Static (P : Program) (ops : Array Oper) (bs : List Nat) : Prop where
  edge : ∀ (j : Nat) (y : Oper), ops[j]? = some y → ∀ e ∈ y.after.toList, bindsA e = true → e.on < j
  dst : ∀ (i j : Nat) (x y : Oper) (t : Tmp), i < j → ops[i]? = some x → ops[j]? = some y → x.dst = some t → y.dst ≠ some t
  pair : ∀ (i j : Nat) (x y : Oper), i < j → ops[i]? = some x → ops[j]? = some y → Nat.testBit (bs.getD j 0) i = true ∨
    ((loudA P x.op = false ∨ loudA P y.op = false) ∧ (∀ t, x.dst = some t → t ∉ usesA ops y) ∧ (∀ t, y.dst = some t → t ∉ usesA ops x))

theorem static_of {P : Program} {ops : Array Oper} {bs : List Nat} (h : drawStatic P ops bs = true) : Static P ops bs := by
  have hj : ∀ (j : Nat) (y : Oper), ops[j]? = some y → _ := fun j y hy => allFrom_at h j y (by rw [Array.getElem?_toList]; exact hy)
  refine ⟨?_, ?_, ?_⟩
  · intro j y hy e he hb
    have := hj j y hy
    rw [Bool.and_eq_true, List.all_eq_true] at this
    have h1 := this.1 e he
    rw [hb] at h1
    have := (blt_iff _ _).1 (by simpa using h1)
    omega
  · intro i j x y t hij hx hy hxt hyt
    have := hj j y hy
    rw [Bool.and_eq_true] at this
    have h2 := allFrom_at this.2 i x (by rw [Array.getElem?_toList]; exact hx)
    rw [Nat.zero_add, Nat.zero_add, (blt_iff i j).2 hij] at h2
    simp only [Bool.not_true, Bool.false_or, Bool.and_eq_true, dstOk, hxt, hyt] at h2
    have := h2.1
    simp at this
  · intro i j x y hij hx hy
    have := hj j y hy
    rw [Bool.and_eq_true] at this
    have h2 := allFrom_at this.2 i x (by rw [Array.getElem?_toList]; exact hx)
    rw [Nat.zero_add, Nat.zero_add, (blt_iff i j).2 hij] at h2
    simp only [Bool.not_true, Bool.false_or, Bool.and_eq_true] at h2
    have h3 := h2.2
    unfold pairOk at h3
    rw [Bool.or_eq_true] at h3
    rcases h3 with h3 | h3
    · exact .inl h3
    · right
      simp only [Bool.and_eq_true] at h3
      obtain ⟨⟨h4, h5⟩, h6⟩ := h3
      refine ⟨?_, ?_, ?_⟩
      · cases hlx : loudA P x.op with
        | false => exact .inl rfl
        | true => cases hly : loudA P y.op with
          | false => exact .inr rfl
          | true => rw [hlx, hly] at h4; simp at h4
      · intro t ht
        rw [ht] at h5
        simpa using h5
      · intro t ht
        rw [ht] at h6
        simpa using h6

theorem mem_louds {P : Program} : ∀ (os : List Oper) (k q : Nat), q ∈ louds P os k ↔ (q = k + os.length ∨ ∃ o, k ≤ q ∧ os[q - k]? = some o ∧ loudA P o.op = true)
  | [], k, q => by simp [louds]
  | o :: os, k, q => by
    have ih := mem_louds (P := P) os (k + 1) q
    have shift : (∃ o', k + 1 ≤ q ∧ os[q - (k + 1)]? = some o' ∧ loudA P o'.op = true) ↔ (∃ o', k + 1 ≤ q ∧ (o :: os)[q - k]? = some o' ∧ loudA P o'.op = true) := by
      constructor <;> rintro ⟨o', h1, h2, h3⟩ <;> refine ⟨o', h1, ?_, h3⟩
      · rw [show q - k = (q - (k + 1)) + 1 by omega]; simpa using h2
      · rw [show q - k = (q - (k + 1)) + 1 by omega] at h2; simpa using h2
    have len : q = k + 1 + os.length ↔ q = k + (o :: os).length := by simp; omega
    simp only [louds]
    cases hl : loudA P o.op with
    | true =>
      simp only [cond_true, List.mem_cons]
      rw [ih, len, shift]
      constructor
      · rintro (h | h | ⟨o', h1, h2, h3⟩)
        · exact .inr ⟨o, by omega, by rw [h, Nat.sub_self]; rfl, hl⟩
        · exact .inl h
        · exact .inr ⟨o', by omega, h2, h3⟩
      · rintro (h | ⟨o', h1, h2, h3⟩)
        · exact .inr (.inl h)
        · by_cases hq : q = k
          · exact .inl hq
          · exact .inr (.inr ⟨o', by omega, h2, h3⟩)
    | false =>
      simp only [cond_false]
      rw [ih, len, shift]
      constructor
      · rintro (h | ⟨o', h1, h2, h3⟩)
        · exact .inl h
        · exact .inr ⟨o', by omega, h2, h3⟩
      · rintro (h | ⟨o', h1, h2, h3⟩)
        · exact .inl h
        · by_cases hq : q = k
          · subst hq
            rw [Nat.sub_self] at h2
            simp at h2
            subst h2
            rw [hl] at h3
            cases h3
          · exact .inr ⟨o', by omega, h2, h3⟩

theorem mayAt_iff {bs : List Nat} {i p : Nat} : ∀ {ls : List Nat}, mayAt bs i p ls = true ↔ (Nat.testBit (bs.getD i 0) p = false ∧ ∀ q ∈ ls, q < p → Nat.testBit (bs.getD q 0) i = false)
  | [] => by simp [mayAt]
  | q :: qs => by
    simp only [mayAt, Bool.and_eq_true]
    rw [mayAt_iff (ls := qs)]
    constructor
    · rintro ⟨h1, h2, h3⟩
      refine ⟨h2, fun r hr hlt => ?_⟩
      rcases List.mem_cons.1 hr with rfl | hr
      · rw [(blt_iff _ _).2 hlt] at h1; simpa using h1
      · exact h3 r hr hlt
    · rintro ⟨h1, h2⟩
      refine ⟨?_, h1, fun r hr => h2 r (List.mem_cons_of_mem _ hr)⟩
      cases hb : Nat.blt q p with
      | false => rfl
      | true => simpa using h2 q (List.mem_cons_self ..) ((blt_iff _ _).1 hb)

/-! ### The text's run -/

def TrStep (call : CallF) (P : Program) (ops : Array Oper) (o : Oper) (x y : TR) : Prop :=
  (x.on = true ∧ wantedA ops x.env o = some true ∧ opA call P x.env x.heap o.op = some (.ret x.val y.heap) ∧ y.env = putA x.env o.dst x.val) ∨
  (x.on = false ∧ wantedA ops x.env o = some false ∧ x.val = .tuple [] ∧ y.heap = x.heap ∧ y.env = putA x.env o.dst (.tuple []))

theorem trace_of {call : CallF} {P : Program} {ops : Array Oper} : ∀ {rest : List Oper} {e : List AV} {h : Heap} {e' : List AV} {h' : Heap}, opsA call P ops rest e h = some (.normal, e', h') →
    ∃ tr, traceA call P ops rest e h = some tr ∧ (∃ x, tr[0]? = some x ∧ x.env = e ∧ x.heap = h) ∧ (∃ z, tr[rest.length]? = some z ∧ z.env = e' ∧ z.heap = h') ∧
      ∀ (i : Nat) (o : Oper), rest[i]? = some o → ∃ x y, tr[i]? = some x ∧ tr[i + 1]? = some y ∧ TrStep call P ops o x y
  | [], e, h, e', h', hr => by
    simp only [opsA, Option.some.injEq, Prod.mk.injEq] at hr
    obtain ⟨_, rfl, rfl⟩ := hr
    exact ⟨_, rfl, ⟨_, rfl, rfl, rfl⟩, ⟨_, rfl, rfl, rfl⟩, fun i o ho => by simp at ho⟩
  | o :: rest, e, h, e', h', hr => by
    simp only [opsA] at hr
    split at hr
    · rename_i hw
      split at hr
      · rename_i v h2 ho
        obtain ⟨tr, h3, ⟨x, hx, hxe, hxh⟩, ⟨z, hz, hze, hzh⟩, h4⟩ := trace_of hr
        refine ⟨⟨e, h, v, true⟩ :: tr, by simp only [traceA, hw, ho, h3], ⟨_, rfl, rfl, rfl⟩, ⟨z, by simpa using hz, hze, hzh⟩, ?_⟩
        intro i o' ho'
        cases i with
        | zero =>
          simp at ho'
          subst ho'
          exact ⟨⟨e, h, v, true⟩, x, rfl, by simpa using hx, .inl ⟨rfl, hw, by rw [hxh]; exact ho, hxe⟩⟩
        | succ i =>
          simp at ho'
          obtain ⟨a, b, ha, hb, hab⟩ := h4 i o' ho'
          exact ⟨a, b, by simpa using ha, by simpa using hb, hab⟩
      · cases hr
      · cases hr
    · rename_i hw
      obtain ⟨tr, h3, ⟨x, hx, hxe, hxh⟩, ⟨z, hz, hze, hzh⟩, h4⟩ := trace_of hr
      refine ⟨⟨e, h, .tuple [], false⟩ :: tr, by simp only [traceA, hw, h3], ⟨_, rfl, rfl, rfl⟩, ⟨z, by simpa using hz, hze, hzh⟩, ?_⟩
      intro i o' ho'
      cases i with
      | zero =>
        simp at ho'
        subst ho'
        exact ⟨⟨e, h, .tuple [], false⟩, x, rfl, by simpa using hx, .inr ⟨rfl, hw, rfl, hxh, hxe⟩⟩
      | succ i =>
        simp at ho'
        obtain ⟨a, b, ha, hb, hab⟩ := h4 i o' ho'
        exact ⟨a, b, by simpa using ha, by simpa using hb, hab⟩
    · cases hr

/-- The text's run, by place. -/
structure TextRun (call : CallF) (P : Program) (ops : Array Oper) (bs : List Nat) (e : List AV) (h : Heap) (e' : List AV) (h' : Heap) (X : Nat → TR) : Prop where
  first : (X 0).env = e ∧ (X 0).heap = h
  last : (X ops.size).env = e' ∧ (X ops.size).heap = h'
  step : ∀ (i : Nat) (o : Oper), ops[i]? = some o → TrStep call P ops o (X i) (X (i + 1))
  /-- A reading may be done wherever it may come to be done. -/
  same : ∀ (i : Nat) (o : Oper), ops[i]? = some o → (X i).on = true → readsA P o.op = true → loudA P o.op = false → ∀ p ∈ louds P ops.toList 0, mayAt bs i p (louds P ops.toList 0) = true →
    aop P (X i).env (X p).heap o.op = some ((X i).val, (X p).heap)

theorem sameAt_at {P : Program} {bs ls : List Nat} {full : List TR} {i : Nat} {o : Oper} {x : TR} : ∀ {ps : List Nat}, sameAt P bs ls full i o x ps = true → ∀ p ∈ ps, mayAt bs i p ls = true → ∃ y v k, full[p]? = some y ∧ aop P x.env y.heap o.op = some (v, k) ∧ v = x.val
  | [], _, p, hp, _ => by simp at hp
  | q :: qs, h, p, hp, hm => by
    simp only [sameAt, Bool.and_eq_true] at h
    rcases List.mem_cons.1 hp with rfl | hp
    · have h1 := h.1
      rw [hm] at h1
      simp only [cond_true] at h1
      split at h1
      · rename_i y hy
        split at h1
        · rename_i v k ha
          exact ⟨y, v, k, hy, ha, beqV_eq _ _ h1⟩
        · cases h1
      · cases h1
    · exact sameAt_at h.2 p hp hm

theorem dynAll_at {P : Program} {bs ls : List Nat} {full : List TR} : ∀ {os : List Oper} {xs : List TR} {k : Nat}, dynAll P bs ls full os xs k = true → ∀ (i : Nat) (o : Oper) (x : TR), os[i]? = some o → xs[i]? = some x → x.on = true → readsA P o.op = true → loudA P o.op = false → sameAt P bs ls full (k + i) o x ls = true
  | [], _, _, _, i, o, x, ho, _, _, _, _ => by simp at ho
  | _ :: _, [], _, _, i, o, x, _, hx, _, _, _ => by simp at hx
  | o0 :: os, x0 :: xs, k, h, i, o, x, ho, hx, hon, hr, hl => by
    simp only [dynAll, Bool.and_eq_true] at h
    cases i with
    | zero =>
      simp at ho hx
      subst ho hx
      have := h.1
      simpa [hon, hr, hl] using this
    | succ i =>
      simp at ho hx
      have := dynAll_at h.2 i o x ho hx hon hr hl
      rwa [show k + 1 + i = k + (i + 1) by omega] at this

theorem only_at {bs ls : List Nat} {i : Nat} : ∀ {ps : List Nat}, only bs ls i ps = true → ∀ p ∈ ps, mayAt bs i p ls = true → i < p ∧ ∀ q ∈ ls, ¬ (i < q ∧ q < p)
  | [], _, p, hp, _ => by simp at hp
  | q :: qs, h, p, hp, hm => by
    simp only [only, Bool.and_eq_true] at h
    rcases List.mem_cons.1 hp with rfl | hp
    · have h1 := h.1
      rw [hm] at h1
      simp only [Bool.not_true, Bool.false_or, Bool.and_eq_true, List.all_eq_true] at h1
      refine ⟨(blt_iff _ _).1 h1.1, fun r hr ⟨h3, h4⟩ => ?_⟩
      have := h1.2 r hr
      rw [(blt_iff _ _).2 h3, (blt_iff _ _).2 h4] at this
      simp at this
    · exact only_at h.2 p hp hm
theorem needNot_at {P : Program} {bs ls : List Nat} : ∀ {os : List Oper} {k : Nat}, needNot P bs ls os k = true → ∀ (i : Nat) (o : Oper), os[i]? = some o → readsA P o.op = true → loudA P o.op = false → only bs ls (k + i) ls = true
  | [], _, _, i, o, ho, _, _ => by simp at ho
  | o0 :: os, k, h, i, o, ho, hr, hl => by
    simp only [needNot, Bool.and_eq_true] at h
    cases i with
    | zero =>
      simp at ho
      subst ho
      have := h.1
      simpa [hr, hl] using this
    | succ i =>
      simp at ho
      have := needNot_at h.2 i o ho hr hl
      rwa [show k + 1 + i = k + (i + 1) by omega] at this

/-- Between two loud operations memory stands. -/
theorem quiet_between {call : CallF} {P : Program} {ops : Array Oper} {X : Nat → TR} (step : ∀ (i : Nat) (o : Oper), ops[i]? = some o → TrStep call P ops o (X i) (X (i + 1))) {i : Nat} : ∀ (k : Nat), i ≤ k → k ≤ ops.size → (∀ q, q ∈ louds P ops.toList 0 → ¬ (i ≤ q ∧ q < k)) → (X k).heap = (X i).heap := by
  intro k
  induction k with
  | zero => intro h1 h2 h3; rw [show i = 0 by omega]
  | succ k ih =>
    intro h1 h2 h3
    by_cases hik : i = k + 1
    · rw [hik]
    · have := ih (by omega) (by omega) (fun q hq hh => h3 q hq ⟨hh.1, by omega⟩)
      rw [← this]
      have hk : k < ops.size := by omega
      have ho : ops[k]? = some ops[k] := Array.getElem?_eq_getElem hk
      have hq : loudA P ops[k].op = false := by
        cases hl : loudA P ops[k].op with
        | false => rfl
        | true =>
          refine absurd ⟨by omega, by omega⟩ (h3 k ?_)
          rw [mem_louds]
          exact .inr ⟨ops[k], by omega, by simp, hl⟩
      rcases step k _ ho with ⟨h4, h5, h6, h7⟩ | ⟨h4, h5, h6, h7, h8⟩
      · obtain ⟨v, h8, h9⟩ := quiet_same hq h6
        simp only [CRes.ret.injEq] at h8
        exact h8.2
      · exact h7

theorem textRun_of {call : CallF} {P : Program} {ops : Array Oper} {e : List AV} {h : Heap} {e' : List AV} {h' : Heap} (hr : opsA call P ops ops.toList e h = some (.normal, e', h'))
    (hd : (needNot P (masks ops.toList []) (louds P ops.toList 0) ops.toList 0 || dynOk call P ops e h) = true) : ∃ X, TextRun call P ops (masks ops.toList []) e h e' h' X := by
  obtain ⟨tr, h1, ⟨x, hx, hxe, hxh⟩, ⟨z, hz, hze, hzh⟩, h2⟩ := trace_of hr
  let X : Nat → TR := fun i => tr.getD i ⟨[], h, .unk, false⟩
  have hX : ∀ i y, tr[i]? = some y → X i = y := fun i y hy => by simp [X, List.getD, hy]
  have step : ∀ (i : Nat) (o : Oper), ops[i]? = some o → TrStep call P ops o (X i) (X (i + 1)) := fun i o ho => by
    obtain ⟨a, b, ha, hb, hab⟩ := h2 i o (by rw [Array.getElem?_toList]; exact ho)
    rw [hX i a ha, hX (i + 1) b hb]
    exact hab
  refine ⟨X, ⟨by rw [hX 0 x hx]; exact ⟨hxe, hxh⟩, by rw [hX ops.size z (by simpa using hz)]; exact ⟨hze, hzh⟩, step, ?_⟩⟩
  intro i o ho hon hrd hl p hp hm
  have hil : i < ops.size := (Array.getElem?_eq_some_iff.1 ho).1
  have hps : p ≤ ops.size := by
    rw [mem_louds] at hp
    rcases hp with hp | ⟨o', _, ho', _⟩
    · simp at hp; omega
    · have := (List.getElem?_eq_some_iff.1 ho').1
      simp at this
      omega
  have text : opA call P (X i).env (X i).heap o.op = some (.ret (X i).val (X (i + 1)).heap) := by
    rcases step i o ho with ⟨_, _, h6, _⟩ | ⟨h6, _⟩
    · exact h6
    · rw [hon] at h6; cases h6
  obtain ⟨v, hv, ha⟩ := quiet_same hl text
  simp only [CRes.ret.injEq] at hv
  rw [← hv.1] at ha
  rw [Bool.or_eq_true] at hd
  rcases hd with hd | hd
  · have h3 := needNot_at hd i o (by rw [Array.getElem?_toList]; exact ho) hrd hl
    rw [Nat.zero_add] at h3
    obtain ⟨h4, h5⟩ := only_at h3 p hp hm
    have : (X p).heap = (X i).heap := by
      refine quiet_between step p (by omega) hps (fun q hq hh => ?_)
      by_cases hqi : q = i
      · subst hqi
        rw [mem_louds] at hq
        rcases hq with hq | ⟨o', _, ho', hlo⟩
        · simp at hq; omega
        · have : o' = o := by
            rw [Nat.sub_zero, Array.getElem?_toList, ho] at ho'
            cases ho'; rfl
          subst this
          rw [hl] at hlo
          cases hlo
      · exact h5 q hq ⟨by omega, hh.2⟩
    rw [this]
    exact ha
  · simp only [dynOk, h1] at hd
    obtain ⟨y, v2, k, hy, ha2, hval⟩ := sameAt_at (dynAll_at hd i o (X i) (by rw [Array.getElem?_toList]; exact ho) (by
      obtain ⟨a, b, hai, _, _⟩ := h2 i o (by rw [Array.getElem?_toList]; exact ho)
      rw [hX i a hai]; exact hai) hon hrd hl) p hp (by rw [Nat.zero_add]; exact hm)
    rw [hX p y hy]
    subst hval
    have hk : k = y.heap := by
      have : toRet (aop P (X i).env y.heap o.op) = some (.ret (X i).val k) := by rw [ha2]; rfl
      have hop : opA call P (X i).env y.heap o.op = some (.ret (X i).val k) := by
        cases hop : o.op with
        | call c =>
          rw [hop] at this hl
          obtain ⟨callee, args, ats⟩ := c
          cases callee with
          | value f => simp [loudA] at hl
          | invoke r n => simp [loudA] at hl
          | builtin b =>
            simp only [opA]
            have hb : b ≠ .panic := by rintro rfl; simp [loudA] at hl
            unfold biA
            split
            · exact absurd rfl hb
            · exact this
        | panic x => rw [hop] at hl; simp [loudA] at hl
        | _ => rw [hop] at this; exact this
      obtain ⟨v3, h7, _⟩ := quiet_same hl hop
      simp only [CRes.ret.injEq] at h7
      exact h7.2
    rw [← hk] at ha2 ⊢
    exact ha2
end Go.Am

noncomputable section
namespace Go.Am
open Go.RowKit

theorem nth_set (env : List AV) (d t : Nat) (v : AV) : nth (env.set d v) t = if d = t ∧ t < env.length then v else nth env t := by
  induction env generalizing d t with
  | nil => simp [nth]
  | cons x xs ih =>
    cases d with
    | zero => cases t <;> simp [nth]
    | succ d =>
      cases t with
      | zero => simp [nth]
      | succ t => simp [nth, ih]
theorem nth_big (env : List AV) (t : Nat) (h : env.length ≤ t) : nth env t = .unk := by
  induction env generalizing t with
  | nil => rfl
  | cons x xs ih =>
    cases t with
    | zero => simp at h
    | succ t => simp at h; exact ih t h
theorem putA_length (env : List AV) (d : Option Tmp) (v : AV) : (putA env d v).length = env.length := by cases d <;> simp [putA]
theorem nth_putA (env : List AV) (d : Option Tmp) (v : AV) (t : Nat) : nth (putA env d v) t = if d = some t ∧ t < env.length then v else nth env t := by
  cases d with
  | none => simp [putA]
  | some d => simp [putA, nth_set]

theorem nth_list : ∀ (env : List AV) (i : Nat) (a : AV), env[i]? = some a → nth env i = a
  | [], i, a, h => by simp at h
  | x :: xs, 0, a, h => by simp at h; simp [nth, h]
  | x :: xs, i + 1, a, h => by simp at h; simp [nth]; exact nth_list xs i a h

section
variable {call : CallF} {P : Program} {ops : Array Oper} {bs : List Nat} {e : List AV} {h : Heap} {e' : List AV} {h' : Heap} {X : Nat → TR}

theorem TextRun.env_step (T : TextRun call P ops bs e h e' h' X) {i : Nat} {o : Oper} (ho : ops[i]? = some o) : (X (i + 1)).env = putA (X i).env o.dst (X i).val := by
  rcases T.step i o ho with ⟨_, _, _, h4⟩ | ⟨_, _, h3, _, h5⟩
  · exact h4
  · rw [h3]; exact h5
theorem TextRun.env_length (T : TextRun call P ops bs e h e' h' X) : ∀ i, i ≤ ops.size → (X i).env.length = e.length
  | 0, _ => by rw [T.first.1]
  | i + 1, hi => by
    have ho : ops[i]? = some ops[i] := Array.getElem?_eq_getElem (by omega)
    rw [T.env_step ho, putA_length, T.env_length i (by omega)]
/-- What a slot holds: what its one writer has put, or what it held. -/
theorem TextRun.env_written (T : TextRun call P ops bs e h e' h' X) (S : Static P ops bs) {j : Nat} {y : Oper} {t : Tmp} (hy : ops[j]? = some y) (ht : y.dst = some t) (hlt : t < e.length) : ∀ i, j < i → i ≤ ops.size → nth (X i).env t = (X j).val
  | 0, h1, _ => by omega
  | i + 1, h1, h2 => by
    have ho : ops[i]? = some ops[i] := Array.getElem?_eq_getElem (by omega)
    rw [T.env_step ho, nth_putA]
    by_cases hij : i = j
    · subst hij
      rw [ho] at hy
      cases hy
      rw [if_pos ⟨ht, by rw [T.env_length i (by omega)]; exact hlt⟩]
    · rw [if_neg (fun hh => S.dst j i y ops[i] t (by omega) hy ho ht hh.1)]
      exact T.env_written S hy ht hlt i (by omega) (by omega)
theorem TextRun.env_kept (T : TextRun call P ops bs e h e' h' X) {t : Tmp} : ∀ i, i ≤ ops.size → (∀ j y, j < i → ops[j]? = some y → y.dst ≠ some t) → nth (X i).env t = nth e t
  | 0, _, _ => by rw [T.first.1]
  | i + 1, h1, h2 => by
    have ho : ops[i]? = some ops[i] := Array.getElem?_eq_getElem (by omega)
    rw [T.env_step ho, nth_putA, if_neg (fun hh => h2 i _ (by omega) ho hh.1)]
    exact T.env_kept i (by omega) (fun j y hj => h2 j y (by omega))
end

/-- How many are still to be done. -/
def todo (n : Nat) (listed : Array Bool) : Nat := (List.range n).countP fun i => !listed.getD i true
theorem todo_zero {n : Nat} {listed : Array Bool} (h : todo n listed = 0) : ∀ i, i < n → listed.getD i true = true := by
  intro i hi
  unfold todo at h
  rw [List.countP_eq_zero] at h
  have := h i (List.mem_range.2 hi)
  simpa using this
theorem todo_set {n i : Nat} {listed : Array Bool} (hi : i < n) (hs : listed.size = n) (hl : listed.getD i true = false) : todo n (listed.setIfInBounds i true) + 1 = todo n listed := by
  unfold todo
  have key : ∀ (l : List Nat), l.Nodup → (∀ x ∈ l, x < n) → (l.countP fun k => !(listed.setIfInBounds i true).getD k true) + (if i ∈ l then 1 else 0) = l.countP fun k => !listed.getD k true := by
    intro l
    induction l with
    | nil => simp
    | cons x xs ih =>
      intro hn hb
      rw [List.nodup_cons] at hn
      have ih' := ih hn.2 (fun y hy => hb y (List.mem_cons_of_mem _ hy))
      rw [List.countP_cons, List.countP_cons]
      by_cases hx : x = i
      · subst hx
        have h1 : (listed.setIfInBounds x true).getD x true = true := by
          simp [Array.getD_eq_getD_getElem?, hs, hi]
        rw [if_neg hn.1] at ih'
        simp only [h1, hl, Bool.not_true, Bool.false_eq_true, if_false, Bool.not_false, if_true, List.mem_cons, true_or]
        omega
      · have h1 : (listed.setIfInBounds i true).getD x true = listed.getD x true := by
          simp [Array.getD_eq_getD_getElem?, Array.getElem?_setIfInBounds_ne (Ne.symm hx)]
        rw [h1]
        have h2 : (i ∈ x :: xs) ↔ i ∈ xs := by simp [Ne.symm hx]
        by_cases hm : i ∈ xs
        · rw [if_pos (h2.2 hm)]; rw [if_pos hm] at ih'; omega
        · rw [if_neg (fun hh => hm (h2.1 hh))]; rw [if_neg hm] at ih'; omega
  have := key (List.range n) List.nodup_range (fun x hx => List.mem_range.1 hx)
  rw [if_pos (List.mem_range.2 hi)] at this
  exact this

theorem ready_iff {ops : Array Oper} {listed : Array Bool} {i : Nat} : i ∈ Region.ready .any ops listed ↔ ∃ o, ops[i]? = some o ∧ listed.getD i true = false ∧ ∀ e ∈ o.after.toList, bindsA e = true → listed.getD e.on false = true := by
  unfold Region.ready
  rw [List.mem_filter, List.mem_range]
  constructor
  · rintro ⟨hi, hh⟩
    rw [Bool.and_eq_true] at hh
    obtain ⟨h1, h2⟩ := hh
    rw [Array.getElem?_eq_getElem hi] at h2
    simp only [Option.map_some, Option.getD_some] at h2
    refine ⟨_, Array.getElem?_eq_getElem hi, by simpa using h1, fun e he hb => ?_⟩
    rw [Array.all_eq_true_iff_forall_mem] at h2
    have := h2 e (by simpa using he)
    rw [show Region.binds .any e = bindsA e from rfl, hb] at this
    simpa using this
  · rintro ⟨o, ho, h1, h2⟩
    obtain ⟨hi, rfl⟩ := Array.getElem?_eq_some_iff.1 ho
    refine ⟨hi, ?_⟩
    rw [Bool.and_eq_true]
    refine ⟨by simpa using h1, ?_⟩
    rw [Array.getElem?_eq_getElem hi]
    simp only [Option.map_some, Option.getD_some]
    rw [Array.all_eq_true_iff_forall_mem]
    intro e he
    rw [show Region.binds .any e = bindsA e from rfl]
    cases hb : bindsA e with
    | false => rfl
    | true => simpa using h2 e (by simpa using he) hb

/-- Whatever is done, all that stands before it is done. -/
def Closed (ops : Array Oper) (listed : Array Bool) : Prop := ∀ (i : Nat) (o : Oper), ops[i]? = some o → listed.getD i false = true → ∀ e ∈ o.after.toList, bindsA e = true → listed.getD e.on false = true

theorem closed_bit {P : Program} {ops : Array Oper} (S : Static P ops (masks ops.toList [])) {listed : Array Bool} (hc : Closed ops listed) : ∀ (i : Nat) (o : Oper), ops[i]? = some o → (∀ e ∈ o.after.toList, bindsA e = true → listed.getD e.on false = true) → ∀ j, Nat.testBit ((masks ops.toList []).getD i 0) j = true → listed.getD j false = true ∧ j < i := by
  intro i
  induction i using Nat.strongRecOn with
  | _ i ih =>
    intro o ho he j hj
    obtain ⟨pre, h1, h2, h3⟩ := masks_at ops.toList [] i o (by rw [Array.getElem?_toList]; exact ho)
    simp only [List.length_nil, Nat.zero_add] at h1 h2
    rw [h2] at hj
    obtain ⟨ed, hed, hb, hh⟩ := maskOf_bit hj
    have hlt := S.edge i o ho ed hed hb
    have hl := he ed hed hb
    rcases hh with rfl | hh
    · exact ⟨hl, hlt⟩
    · rw [h3 _ (by omega)] at hh
      have hil : i < ops.size := (Array.getElem?_eq_some_iff.1 ho).1
      have ho2 : ops[ed.on]? = some ops[ed.on] := Array.getElem?_eq_getElem (by omega)
      have := ih ed.on hlt ops[ed.on] ho2 (hc ed.on _ ho2 hl) j hh
      exact ⟨this.1, by omega⟩

theorem least_above (l : List Nat) (i : Nat) : ∀ m, (∃ q ∈ l, i < q ∧ q ≤ m) → ∃ p ∈ l, i < p ∧ ∀ q ∈ l, i < q → p ≤ q := by
  intro m
  induction m using Nat.strongRecOn with
  | _ m ih =>
    rintro ⟨q, hq, h1, h2⟩
    by_cases hx : ∃ r ∈ l, i < r ∧ r < q
    · obtain ⟨r, hr, h3, h4⟩ := hx
      exact ih (q - 1) (by omega) ⟨r, hr, h3, by omega⟩
    · refine ⟨q, hq, h1, fun r hr h3 => ?_⟩
      rcases Nat.lt_or_ge r q with h4 | h4
      · exact absurd ⟨r, hr, h3, h4⟩ hx
      · exact h4

theorem draw_wp {ρ : Option Nat} {P : Program} (hF : Fns P) {call : CallF} (hcall : CallsOk P call) {ops : Array Oper} (S : Static P ops (masks ops.toList [])) {w0 : World} {Q : Exit → Act → World → Prop} {e : List AV} {h : Heap} {e' : List AV} {h' : Heap} {X : Nat → TR}
    (T : TextRun call P ops (masks ops.toList []) e h e' h' X) {ds : List Deferred} : ∀ (fuel : Nat) (listed : Array Bool) (φ : List Emb) (a : Act) (w : World) (p : Nat),
    listed.size = ops.size → Closed ops listed → todo ops.size listed ≤ fuel →
    p ∈ louds P ops.toList 0 → (∀ q ∈ louds P ops.toList 0, q < p → listed.getD q false = true) → (p < ops.size → listed.getD p false = false) → R P φ (X p).heap w0 w →
    (∀ (j : Nat) (y : Oper) (t : Tmp), ops[j]? = some y → listed.getD j false = true → y.dst = some t → t < e.length → V φ (X j).val (a.tmps.getD t undef)) →
    (∀ t : Tmp, (∀ (j : Nat) (y : Oper), ops[j]? = some y → listed.getD j false = true → y.dst ≠ some t) → V φ (nth e t) (a.tmps.getD t undef)) →
    a.tmps.size = e.length → a.defers = ds → Final P φ w0 ds Q (.normal, e', h') → wpAnyIn (wideR ρ) 0 P .any ops Q fuel listed a w := by
  have finish : ∀ (listed : Array Bool) (φ : List Emb) (a : Act) (w : World) (p : Nat), (∀ i, i < ops.size → listed.getD i false = true) → p ∈ louds P ops.toList 0 → (p < ops.size → listed.getD p false = false) → R P φ (X p).heap w0 w →
      (∀ (j : Nat) (y : Oper) (t : Tmp), ops[j]? = some y → listed.getD j false = true → y.dst = some t → t < e.length → V φ (X j).val (a.tmps.getD t undef)) →
      (∀ t : Tmp, (∀ (j : Nat) (y : Oper), ops[j]? = some y → listed.getD j false = true → y.dst ≠ some t) → V φ (nth e t) (a.tmps.getD t undef)) →
      a.tmps.size = e.length → a.defers = ds → Final P φ w0 ds Q (.normal, e', h') → Q .normal a w := by
    intro listed φ a w p hall hp hpf hR hT1 hT2 hsz hds hfin
    have hpn : p = ops.size := by
      rcases Nat.lt_or_ge p ops.size with hlt | hge
      · rw [hall p hlt] at hpf; exact absurd (hpf hlt) (by simp)
      · rw [mem_louds] at hp
        rcases hp with hp | ⟨o', _, ho', _⟩
        · simp at hp; exact hp
        · have := (List.getElem?_eq_some_iff.1 ho').1
          simp at this; omega
    subst hpn
    rw [T.last.2] at hR
    refine hfin φ w a (Up.refl _) hR ?_ hds
    refine Vs.of_get (by rw [Array.length_toList, hsz, ← T.last.1, T.env_length _ (Nat.le_refl _)]) fun t b v hb hv => ?_
    have hgd : a.tmps.getD t undef = v := by
      rw [Array.getElem?_toList] at hv
      simp [Array.getD_eq_getD_getElem?, hv]
    have hnb := nth_list e' t b hb
    have htl : t < e.length := by
      have := (List.getElem?_eq_some_iff.1 hb).1
      rw [← T.last.1, T.env_length _ (Nat.le_refl _)] at this
      exact this
    rw [← hgd, ← hnb, ← T.last.1]
    by_cases hw : ∃ (j : Nat) (y : Oper), ops[j]? = some y ∧ y.dst = some t
    · obtain ⟨j, y, hy, hyt⟩ := hw
      have hjl := (Array.getElem?_eq_some_iff.1 hy).1
      rw [T.env_written S hy hyt htl ops.size hjl (Nat.le_refl _)]
      exact hT1 j y t hy (hall j hjl) hyt htl
    · rw [T.env_kept ops.size (Nat.le_refl _) (fun j y _ hy hyt => hw ⟨j, y, hy, hyt⟩)]
      exact hT2 t (fun j y hy _ hyt => hw ⟨j, y, hy, hyt⟩)
  have getDs : ∀ (listed : Array Bool) (i : Nat), listed.size = ops.size → i < ops.size → listed.getD i true = listed.getD i false := by
    intro listed i hs hi
    simp [Array.getD_eq_getD_getElem?, Array.getElem?_eq_getElem (show i < listed.size by omega)]
  have allDone : ∀ (listed : Array Bool), listed.size = ops.size → Region.ready .any ops listed = [] → ∀ i, i < ops.size → listed.getD i false = true := by
    intro listed hs hr i
    induction i using Nat.strongRecOn with
    | _ i ih =>
      intro hi
      cases hl : listed.getD i false with
      | true => rfl
      | false =>
        have ho : ops[i]? = some ops[i] := Array.getElem?_eq_getElem hi
        have : i ∈ Region.ready .any ops listed := by
          rw [ready_iff]
          refine ⟨_, ho, by rw [getDs listed i hs hi]; exact hl, fun ed hed hb => ?_⟩
          have := S.edge i _ ho ed hed hb
          exact ih ed.on this (by omega)
        rw [hr] at this
        cases this
  intro fuel
  induction fuel with
  | zero =>
    intro listed φ a w p hs hc htodo hp hpl hpf hR hT1 hT2 hsz hds hfin
    have hall : ∀ i, i < ops.size → listed.getD i false = true := fun i hi => by
      rw [← getDs listed i hs hi]; exact todo_zero (Nat.le_zero.1 htodo) i hi
    refine ⟨?_, finish listed φ a w p hall hp hpf hR hT1 hT2 hsz hds hfin⟩
    rw [List.eq_nil_iff_forall_not_mem]
    intro i hi
    rw [ready_iff] at hi
    obtain ⟨o, ho, h1, _⟩ := hi
    have hil := (Array.getElem?_eq_some_iff.1 ho).1
    rw [getDs listed i hs hil, hall i hil] at h1
    cases h1
  | succ fuel ih =>
    intro listed φ a w p hs hc htodo hp hpl hpf hR hT1 hT2 hsz hds hfin
    refine ⟨fun hr => finish listed φ a w p (allDone listed hs hr) hp hpf hR hT1 hT2 hsz hds hfin, ?_⟩
    intro i hi
    rw [ready_iff] at hi
    obtain ⟨o, ho, hil, hedges⟩ := hi
    have hin := (Array.getElem?_eq_some_iff.1 ho).1
    have hil' : listed.getD i false = false := by rw [← getDs listed i hs hin]; exact hil
    -- what the operation looks at
    have hbit := closed_bit S hc i o ho hedges
    have look : ∀ t, t ∈ usesA ops o → V φ (nth (X i).env t) (a.tmps.getD t undef) := by
      intro t ht
      by_cases htl : t < e.length
      · by_cases hw : ∃ (j : Nat) (y : Oper), j < i ∧ ops[j]? = some y ∧ y.dst = some t
        · obtain ⟨j, y, hji, hy, hyt⟩ := hw
          have hlj : listed.getD j false = true := by
            rcases S.pair j i y o hji hy ho with hb | ⟨_, h2, _⟩
            · exact (hbit j hb).1
            · exact absurd ht (h2 t hyt)
          rw [T.env_written S hy hyt htl i hji (by omega)]
          exact hT1 j y t hy hlj hyt htl
        · rw [T.env_kept i (by omega) (fun j y hj hy hyt => hw ⟨j, y, hj, hy, hyt⟩)]
          refine hT2 t fun j y hy hlj hyt => ?_
          have hjl := (Array.getElem?_eq_some_iff.1 hy).1
          rcases Nat.lt_trichotomy j i with h1 | h1 | h1
          · exact hw ⟨j, y, h1, hy, hyt⟩
          · subst h1; rw [hil'] at hlj; cases hlj
          · rcases S.pair i j o y h1 ho hy with hb | ⟨_, _, h3⟩
            · have := (closed_bit S hc j y hy (hc j y hy hlj) i hb).1
              rw [hil'] at this; cases this
            · exact h3 t hyt ht
      · rw [nth_big (X i).env t (by rw [T.env_length i (by omega)]; exact Nat.le_of_not_lt htl)]
        simp [V]
    -- the frame that holds no more than that
    let env : List AV := (List.range e.length).map fun t => if t ∈ usesA ops o then nth (X i).env t else .unk
    have henv : ∀ t, nth env t = if t ∈ usesA ops o ∧ t < e.length then nth (X i).env t else .unk := by
      intro t
      by_cases htl : t < e.length
      · have : env[t]? = some (if t ∈ usesA ops o then nth (X i).env t else .unk) := by simp [env, htl]
        rw [nth_list _ _ _ this]
        by_cases hu : t ∈ usesA ops o <;> simp [hu, htl]
      · rw [nth_big env t (by simp [env]; omega)]
        rw [if_neg (fun hh => htl hh.2)]
    have hVenv : ∀ t, V φ (nth env t) (a.tmps.getD t undef) := by
      intro t
      rw [henv]
      split
      · rename_i hh; exact look t hh.1
      · simp [V]
    have hρ : ∀ x, V φ (evalA P env x) (a.eval x) := by
      intro x
      cases x with
      | tmp t => exact hVenv t
      | const v =>
        simp only [evalA, Act.eval]
        split
        · rename_i b hb; exact ofValue_V hb
        · simp [V]
      | global g =>
        simp only [evalA, Act.eval]
        cases hb : Nat.blt g P.globals.size with
        | true =>
          obtain ⟨n, hn⟩ := hR.glob g ((blt_iff _ _).1 hb)
          simp only [cond_true, V]
          exact ⟨_, hn, by simp⟩
        | false => simp [V]
      | func f => simp [evalA, Act.eval, V, Vs]
    have hcongr : ∀ hh, opA call P env hh o.op = opA call P (X i).env hh o.op := by
      intro hh
      refine opA_congr fun x hx => ?_
      cases x with
      | tmp t =>
        have hmem : t ∈ usesA ops o := by
          unfold usesA
          refine List.mem_append.2 (.inl ?_)
          rw [List.mem_filterMap]
          exact ⟨.tmp t, hx, rfl⟩
        simp only [evalA]
        rw [henv]
        by_cases htl : t < e.length
        · rw [if_pos ⟨hmem, htl⟩]
        · rw [if_neg (fun hh => htl hh.2), nth_big (X i).env t (by rw [T.env_length i (by omega)]; exact Nat.le_of_not_lt htl)]
      | _ => rfl
    have hwant : ∀ b, wantedA ops (X i).env o = some b → Region.wanted o (yielded ops a.tmps) = b := by
      intro b hb
      refine wantedA_eq (φ := φ) hb fun j c d hg hd => look d ?_
      unfold usesA
      refine List.mem_append.2 (.inr ?_)
      rw [hg]
      simp only [hd]
      simp
    -- behind the operation
    let listed' := listed.setIfInBounds i true
    have hs' : listed'.size = ops.size := by simp [listed', hs]
    have hget : ∀ j, listed'.getD j false = if j = i then true else listed.getD j false := by
      intro j
      by_cases hj : j = i
      · subst hj; simp [listed', Array.getD_eq_getD_getElem?, hs, hin]
      · simp [listed', Array.getD_eq_getD_getElem?, Array.getElem?_setIfInBounds_ne (Ne.symm hj), hj]
    have hc' : Closed ops listed' := by
      intro j y hy hlj ed hed hb
      rw [hget] at hlj ⊢
      by_cases hj : j = i
      · subst hj
        rw [ho] at hy; cases hy
        have := hedges ed hed hb
        rw [this]; simp
      · rw [if_neg hj] at hlj
        have := hc j y hy hlj ed hed hb
        rw [this]; simp
    have htodo' : todo ops.size listed' ≤ fuel := by
      have := todo_set hin hs hil
      show todo ops.size (listed.setIfInBounds i true) ≤ fuel
      omega
    have next : ∀ (φ' : List Emb) (w' : World) (v' : Value) (p' : Nat), Up φ φ' → V φ' (X i).val v' → p' ∈ louds P ops.toList 0 → (∀ q ∈ louds P ops.toList 0, q < p' → listed'.getD q false = true) → (p' < ops.size → listed'.getD p' false = false) → R P φ' (X p').heap w0 w' →
        wpAnyIn (wideR ρ) 0 P .any ops Q fuel listed' (a.put o.dst v') w' := by
      intro φ' w' v' p' hu hv hp' hpl' hpf' hR'
      have hput : ∀ t, (a.put o.dst v').tmps.getD t undef = if o.dst = some t ∧ t < e.length then v' else a.tmps.getD t undef := by
        intro t
        cases hd : o.dst with
        | none => simp [Act.put]
        | some d =>
          simp only [Act.put, Option.some.injEq]
          by_cases hdt : d = t
          · subst hdt
            by_cases htl : d < e.length
            · simp [Array.getD_eq_getD_getElem?, hsz, htl]
            · simp [Array.getD_eq_getD_getElem?, hsz, htl]
          · simp [Array.getD_eq_getD_getElem?, Array.getElem?_setIfInBounds_ne hdt, hdt]
      refine ih listed' φ' _ w' p' hs' hc' htodo' hp' hpl' hpf' hR' ?_ ?_ ?_ (by rw [put_defers']; exact hds) (hfin.up hu)
      · intro j y t hy hlj hyt htl
        rw [hput]
        rw [hget] at hlj
        by_cases hj : j = i
        · subst hj
          rw [ho] at hy; cases hy
          rw [if_pos ⟨hyt, htl⟩]
          exact hv
        · rw [if_neg hj] at hlj
          rw [if_neg (fun hh => ?_)]
          · exact V.up hu _ _ (hT1 j y t hy hlj hyt htl)
          · rcases Nat.lt_or_gt_of_ne hj with h1 | h1
            · exact S.dst j i y o t h1 hy ho hyt hh.1
            · exact S.dst i j o y t h1 ho hy hh.1 hyt
      · intro t hno
        have hne : o.dst ≠ some t := hno i o ho (by rw [hget]; simp)
        rw [hput, if_neg (fun hh => hne hh.1)]
        refine V.up hu _ _ (hT2 t fun j y hy hlj => hno j y hy ?_)
        rw [hget]
        by_cases hj : j = i
        · simp [hj]
        · rw [if_neg hj]; exact hlj
      · cases hd : o.dst <;> simp [Act.put, hsz]
    -- the frontier
    have loudMem : ∀ q, q < ops.size → (q ∈ louds P ops.toList 0 ↔ ∃ y, ops[q]? = some y ∧ loudA P y.op = true) := by
      intro q hq
      rw [mem_louds]
      constructor
      · rintro (h1 | ⟨y, _, h2, h3⟩)
        · simp at h1; omega
        · exact ⟨y, by rw [Nat.sub_zero, Array.getElem?_toList] at h2; exact h2, h3⟩
      · rintro ⟨y, h2, h3⟩
        exact .inr ⟨y, Nat.zero_le _, by rw [Nat.sub_zero, Array.getElem?_toList]; exact h2, h3⟩
    have endMem : ops.size ∈ louds P ops.toList 0 := by rw [mem_louds]; exact .inl (by simp)
    cases hloud : loudA P o.op with
    | true =>
      have hiF : i ∈ louds P ops.toList 0 := (loudMem i hin).2 ⟨o, ho, hloud⟩
      have hpi : p = i := by
        have h1 : p ≤ i := by
          rcases Nat.lt_or_ge i p with h | h
          · have := hpl i hiF h; rw [hil'] at this; cases this
          · exact h
        rcases Nat.lt_or_ge p i with h | h
        · exfalso
          obtain ⟨y, hy, hly⟩ := (loudMem p (by omega)).1 hp
          rcases S.pair p i y o h hy ho with hb | ⟨hh, _⟩
          · have := (hbit p hb).1
            rw [hpf (by omega)] at this; cases this
          · rw [hly, hloud] at hh; simp at hh
        · omega
      subst hpi
      obtain ⟨p', hp', hlt', hmin⟩ := least_above (louds P ops.toList 0) p ops.size ⟨ops.size, endMem, hin, Nat.le_refl _⟩
      have hp'n : p' ≤ ops.size := hmin ops.size endMem hin
      have hpl' : ∀ q ∈ louds P ops.toList 0, q < p' → listed'.getD q false = true := by
        intro q hq hqp
        rw [hget]
        by_cases hqi : q = p
        · rw [if_pos hqi]
        · rw [if_neg hqi]
          refine hpl q hq ?_
          rcases Nat.lt_or_ge p q with h1 | h1
          · have := hmin q hq h1; omega
          · omega
      have hpf' : p' < ops.size → listed'.getD p' false = false := by
        intro hlt
        rw [hget, if_neg (by omega)]
        obtain ⟨y, hy, hly⟩ := (loudMem p' hlt).1 hp'
        cases hl : listed.getD p' false with
        | false => rfl
        | true =>
          rcases S.pair p p' o y hlt' ho hy with hb | ⟨hh, _⟩
          · have := (closed_bit S hc p' y hy (hc p' y hy hl) p hb).1
            rw [hil'] at this; cases this
          · rw [hly, hloud] at hh; simp at hh
      have hheap : (X p').heap = (X (p + 1)).heap := by
        refine quiet_between T.step p' (by omega) hp'n (fun q hq hh => ?_)
        have := hmin q hq (by omega)
        omega
      unfold wpOpIn
      rw [ho]
      simp only
      rcases T.step p o ho with ⟨_, h2, h3, _⟩ | ⟨_, h2, h3, h4, _⟩
      · rw [hwant true h2]
        simp only [if_true]
        rw [← hcongr] at h3
        refine opA_wp hF hcall hR hρ h3 ?_
        intro φ' w' v' hu hR' hv
        exact next φ' w' v' p' hu hv hp' hpl' hpf' (by rw [hheap]; exact hR')
      · rw [hwant false h2]
        simp only [Bool.false_eq_true, if_false]
        refine ⟨fun _ _ => trivial, next φ w undef p' (Up.refl _) (by rw [h3]; exact undef_V φ) hp' hpl' hpf' ?_⟩
        rw [hheap, h4]
        exact hR
    | false =>
      have hpi : p ≠ i := by
        intro hpi
        subst hpi
        obtain ⟨y, hy, hly⟩ := (loudMem p hin).1 hp
        rw [ho] at hy; cases hy
        rw [hloud] at hly; cases hly
      have hpl' : ∀ q ∈ louds P ops.toList 0, q < p → listed'.getD q false = true := by
        intro q hq hqp
        rw [hget, hpl q hq hqp]; simp
      have hpf' : p < ops.size → listed'.getD p false = false := by
        intro hlt
        rw [hget, if_neg hpi]; exact hpf hlt
      unfold wpOpIn
      rw [ho]
      simp only
      rcases T.step i o ho with ⟨h1, h2, h3, _⟩ | ⟨_, h2, h3, h4, _⟩
      · rw [hwant true h2]
        simp only [if_true]
        obtain ⟨v, hv, ha⟩ := quiet_same hloud h3
        simp only [CRes.ret.injEq] at hv
        obtain ⟨hv1, _⟩ := hv
        rw [← hv1] at ha
        have haop : aop P (X i).env (X p).heap o.op = some ((X i).val, (X p).heap) := by
          cases hrd : readsA P o.op with
          | false => exact quiet_free hloud hrd ha _
          | true =>
            refine T.same i o ho h1 hrd hloud p hp ?_
            rw [mayAt_iff]
            refine ⟨?_, fun q hq hqp => ?_⟩
            · cases hb : Nat.testBit ((masks ops.toList []).getD i 0) p with
              | false => rfl
              | true =>
                obtain ⟨h5, h6⟩ := hbit p hb
                rw [hpf (by omega)] at h5; cases h5
            · cases hb : Nat.testBit ((masks ops.toList []).getD q 0) i with
              | false => rfl
              | true =>
                have hpn : p ≤ ops.size := by
                  rw [mem_louds] at hp
                  rcases hp with hp | ⟨o', _, ho', _⟩
                  · simp at hp; omega
                  · have := (List.getElem?_eq_some_iff.1 ho').1
                    simp at this; omega
                have hyq : ops[q]? = some ops[q] := Array.getElem?_eq_getElem (by omega)
                have := (closed_bit S hc q _ hyq (hc q _ hyq (hpl q hq hqp)) i hb).1
                rw [hil'] at this; cases this
        have hop : opA call P env (X p).heap o.op = some (.ret (X i).val (X p).heap) := by
          rw [hcongr]
          have : toRet (aop P (X i).env (X p).heap o.op) = some (.ret (X i).val (X p).heap) := by rw [haop]; rfl
          cases hop : o.op with
          | call c =>
            rw [hop] at this hloud
            obtain ⟨callee, args, ats⟩ := c
            cases callee with
            | value f => simp [loudA] at hloud
            | invoke r n => simp [loudA] at hloud
            | builtin b =>
              simp only [opA]
              have hb : b ≠ .panic := by rintro rfl; simp [loudA] at hloud
              unfold biA
              split
              · exact absurd rfl hb
              · exact this
          | panic x => rw [hop] at hloud; simp [loudA] at hloud
          | _ => rw [hop] at this; exact this
        refine opA_wp hF hcall hR hρ hop ?_
        intro φ' w' v' hu hR' hv
        exact next φ' w' v' p hu hv hp hpl' hpf' hR'
      · rw [hwant false h2]
        simp only [Bool.false_eq_true, if_false]
        exact ⟨fun _ _ => trivial, next φ w undef p (Up.refl _) (by rw [h3]; exact undef_V φ) hp hpl' hpf' hR⟩

theorem drawA_ok {P : Program} (hF : Fns P) (hm : P.follows .mixedOrders = true) : DrawOk P (drawA P) := by
  intro ρ call hcall id ops w0 Q φ e h w a r hR he hr hf
  unfold drawA at hr
  cases hst : drawStatic P ops (masks ops.toList []) with
  | false => simp [hst] at hr
  | true =>
    simp only [hst, cond_true] at hr
    split at hr
    · rename_i e' h' hops
      cases hd : needNot P (masks ops.toList []) (louds P ops.toList 0) ops.toList 0 || dynOk call P ops e h with
      | false => simp [hd] at hr
      | true =>
        simp only [hd, cond_true, Option.some.injEq] at hr
        subst hr
        have S := static_of hst
        obtain ⟨X, T⟩ := textRun_of hops hd
        refine wpIn_region_any hm ?_
        have endMem : ops.size ∈ louds P ops.toList 0 := by rw [mem_louds]; exact .inl (by simp)
        have hfalse : ∀ i, (Array.replicate ops.size false).getD i false = false := by
          intro i
          simp [Array.getD_eq_getD_getElem?, Array.getElem?_replicate]
          split <;> rfl
        -- the first loud one
        obtain ⟨p, hp, hmin⟩ : ∃ p ∈ louds P ops.toList 0, ∀ q ∈ louds P ops.toList 0, p ≤ q := by
          by_cases h0 : 0 ∈ louds P ops.toList 0
          · exact ⟨0, h0, fun q _ => Nat.zero_le _⟩
          · have hpos : 0 < ops.size := by
              rcases Nat.eq_zero_or_pos ops.size with h1 | h1
              · rw [h1] at endMem; exact absurd endMem h0
              · exact h1
            obtain ⟨p, hp, _, hmin⟩ := least_above (louds P ops.toList 0) 0 ops.size ⟨ops.size, endMem, hpos, Nat.le_refl _⟩
            refine ⟨p, hp, fun q hq => hmin q hq ?_⟩
            rcases Nat.eq_zero_or_pos q with h1 | h1
            · rw [h1] at hq; exact absurd hq h0
            · exact h1
        have hpn := hmin ops.size endMem
        have hheap : (X p).heap = h := by
          rw [quiet_between T.step p (Nat.zero_le _) hpn (fun q hq hh => by have := hmin q hq; omega), T.first.2]
        refine draw_wp hF hcall S T ops.size _ φ a _ p (by simp) ?_ ?_ hp ?_ (fun _ => hfalse p) ?_ ?_ ?_ ?_ rfl hf
        · intro i o ho hl; rw [hfalse] at hl; cases hl
        · unfold todo
          refine Nat.le_trans (List.countP_le_length) (by simp)
        · intro q hq hqp; have := hmin q hq; omega
        · rw [hheap]; exact hR.drew rfl rfl rfl rfl
        · intro j y t hy hl; rw [hfalse] at hl; cases hl
        · intro t _
          have := nth_V he t
          simpa [Array.getD_eq_getD_getElem?, List.getD_eq_getElem?_getD] using this
        · rw [← Array.length_toList, he.length]
    · cases hr
end Go.Am

noncomputable section
namespace Go.Am
open Go.RowKit

/-! ### Lists, so that the kernel reckons them fast -/

def dropF {α : Type} (n : Nat) : List α → List α := Nat.rec (motive := fun _ => List α → List α) (fun l => l) (fun _ ih l => List.rec [] (fun _ t _ => ih t) l) n
def takeF {α : Type} (n : Nat) : List α → List α := Nat.rec (motive := fun _ => List α → List α) (fun _ => []) (fun _ ih l => List.rec [] (fun a t _ => a :: ih t) l) n
def appF {α : Type} (l m : List α) : List α := List.rec m (fun a _ ih => a :: ih) l
def mapF {α β : Type} (f : α → β) (l : List α) : List β := List.rec [] (fun a _ ih => f a :: ih) l
def forceN {α : Type} (n : Nat) (k : Nat → α) : α := Nat.rec (k 0) (fun m _ => k (Nat.succ m)) n
def lenAcc {α : Type} (l : List α) : Nat → Nat := List.rec (motive := fun _ => Nat → Nat) (fun n => n) (fun _ _ ih n => forceN n (fun n => ih (Nat.succ n))) l
def lenF {α : Type} (l : List α) : Nat := lenAcc l 0
/-- Are there n at least? -/
def hasF {α : Type} (n : Nat) : List α → Bool := Nat.rec (motive := fun _ => List α → Bool) (fun _ => true) (fun _ ih l => List.rec false (fun _ t _ => ih t) l) n
def nthF {α : Type} (n : Nat) : List α → Option α := Nat.rec (motive := fun _ => List α → Option α) (fun l => List.rec none (fun a _ _ => some a) l) (fun _ ih l => List.rec none (fun _ t _ => ih t) l) n
def overF {α : Type} (vs : List α) (o : Nat) : List α → List α := Nat.rec (motive := fun _ => List α → List α) (fun l => appF vs (dropF (lenF vs) l)) (fun _ ih l => List.rec [] (fun a t _ => a :: ih t) l) o
def eqS (a : List UInt8) : List UInt8 → Bool := List.rec (motive := fun _ => List UInt8 → Bool) (fun b => List.rec true (fun _ _ _ => false) b) (fun x _ ih b => List.rec false (fun y t _ => Bool.rec false (ih t) (Nat.beq x.toNat y.toNat)) b) a

/-! ### What a value is -/

structure IK where
  k : IntKind
  n : Int
structure SL where
  l : Option Loc
  n : Nat
  c : Cap
inductive FV where
  | no
  | fn (f : FuncId) (first cap : List AV)
  | yield (k : Nat)
structure IFV where
  t : TypeId
  v : AV
def fnOf (f : Fn) : Option FuncId := match f with | .func g => some g | _ => none
def asPtr (v : AV) : Option Loc := AV.rec (motive_1 := fun _ => Option Loc) (motive_2 := fun _ => Unit) none (fun _ => none) (fun _ _ => none) (fun _ => none) (fun l => l) (fun _ _ _ => none) (fun _ => none) (fun _ => none) (fun _ _ _ _ _ => none) none (fun _ _ _ => none) none (fun _ _ => none) (fun _ _ => none) (fun _ => none) () (fun _ _ _ _ => ()) v
def asI (v : AV) : Option IK := AV.rec (motive_1 := fun _ => Option IK) (motive_2 := fun _ => Unit) none (fun _ => none) (fun k n => some ⟨k, n⟩) (fun _ => none) (fun _ => none) (fun _ _ _ => none) (fun _ => none) (fun _ => none) (fun _ _ _ _ _ => none) none (fun _ _ _ => none) none (fun _ _ => none) (fun _ _ => none) (fun _ => none) () (fun _ _ _ _ => ()) v
def asB (v : AV) : Option Bool := AV.rec (motive_1 := fun _ => Option Bool) (motive_2 := fun _ => Unit) none (fun b => some b) (fun _ _ => none) (fun _ => none) (fun _ => none) (fun _ _ _ => none) (fun _ => none) (fun _ => none) (fun _ _ _ _ _ => none) none (fun _ _ _ => none) none (fun _ _ => none) (fun _ _ => none) (fun _ => none) () (fun _ _ _ _ => ()) v
def asSl (v : AV) : Option SL := AV.rec (motive_1 := fun _ => Option SL) (motive_2 := fun _ => Unit) none (fun _ => none) (fun _ _ => none) (fun _ => none) (fun _ => none) (fun l n c => some ⟨l, n, c⟩) (fun _ => none) (fun _ => none) (fun _ _ _ _ _ => none) none (fun _ _ _ => none) none (fun _ _ => none) (fun _ _ => none) (fun _ => none) () (fun _ _ _ _ => ()) v
def asStr (v : AV) : Option (List UInt8) := AV.rec (motive_1 := fun _ => Option (List UInt8)) (motive_2 := fun _ => Unit) none (fun _ => none) (fun _ _ => none) (fun s => some s) (fun _ => none) (fun _ _ _ => none) (fun _ => none) (fun _ => none) (fun _ _ _ _ _ => none) none (fun _ _ _ => none) none (fun _ _ => none) (fun _ _ => none) (fun _ => none) () (fun _ _ _ _ => ()) v
def asTup (v : AV) : Option (List AV) := AV.rec (motive_1 := fun _ => Option (List AV)) (motive_2 := fun _ => Unit) none (fun _ => none) (fun _ _ => none) (fun _ => none) (fun _ => none) (fun _ _ _ => none) (fun _ => none) (fun _ => none) (fun _ _ _ _ _ => none) none (fun _ _ _ => none) none (fun _ _ => none) (fun s _ => some s) (fun _ => none) () (fun _ _ _ _ => ()) v
def isTup (v : AV) : Option Bool := AV.rec (motive_1 := fun _ => Option Bool) (motive_2 := fun _ => Unit) none (fun _ => none) (fun _ _ => none) (fun _ => none) (fun _ => none) (fun _ _ _ => none) (fun _ => none) (fun _ => none) (fun _ _ _ _ _ => none) none (fun _ _ _ => none) none (fun _ _ => none) (fun _ _ => some false) (fun _ => none) () (fun _ _ _ _ => ()) v
def asFn (v : AV) : FV := AV.rec (motive_1 := fun _ => FV) (motive_2 := fun _ => Unit) .no (fun _ => .no) (fun _ _ => .no) (fun _ => .no) (fun _ => .no) (fun _ _ _ => .no) (fun _ => .no) (fun _ => .no) (fun f a b _ _ => Option.rec .no (fun g => .fn g a b) (fnOf f)) .no (fun _ _ _ => .no) .no (fun _ _ => .no) (fun _ _ => .no) (fun k => .yield k) () (fun _ _ _ _ => ()) v
def asIface (v : AV) : Option IFV := AV.rec (motive_1 := fun _ => Option IFV) (motive_2 := fun _ => Unit) none (fun _ => none) (fun _ _ => none) (fun _ => none) (fun _ => none) (fun _ _ _ => none) (fun _ => none) (fun _ => none) (fun _ _ _ _ _ => none) none (fun t x _ => some ⟨t, x⟩) none (fun _ _ => none) (fun _ _ => none) (fun _ => none) () (fun _ _ _ _ => ()) v
/-- The cells of a value. -/
def cellsM (v : AV) : Option (List AV) := AV.rec (motive_1 := fun _ => Option (List AV)) (motive_2 := fun _ => Unit) none (fun b => some [.bool b]) (fun k n => some [.int k n]) (fun s => some [.str s]) (fun l => some [.ptr l]) (fun l n c => some [.slice l n c]) (fun m => some [.map m]) (fun c => some [.chan c]) (fun f a b _ _ => some [.func f a b]) (some [.nilFunc]) (fun t x _ => some [.iface t x]) (some [.nilIface]) (fun cs _ => some cs) (fun _ _ => none) (fun k => some [.yield k]) () (fun _ _ _ _ => ()) v
def cellOkM (v : AV) : Bool := AV.rec (motive_1 := fun _ => Bool) (motive_2 := fun _ => Unit) false (fun _ => true) (fun _ _ => true) (fun _ => true) (fun _ => true) (fun _ _ _ => true) (fun _ => true) (fun _ => true) (fun _ _ _ _ _ => true) true (fun _ _ _ => true) true (fun _ _ => false) (fun _ _ => false) (fun _ => true) () (fun _ _ _ _ => ()) v
def cellsOkM (l : List AV) : Bool := List.rec true (fun a _ ih => Bool.rec false ih (cellOkM a)) l

/-! ### Operands -/

def constA (v : Value) : AV := Option.rec .unk (fun a => a) (ofValue v)
def globA (P : Program) (g : Nat) : AV := Bool.rec .unk (.ptr (some ⟨g, 0⟩)) (Nat.blt g P.globals.size)
def valS (v : AV) : Src := .mk fun _ => v
def tmpS (n t : Nat) : Src := Bool.rec (valS .unk) (srcTab (dig (Nat.div t 16)) (dig (Nat.mod t 16))) (Nat.blt t n)
def srcOf (P : Program) (n : Nat) (x : Operand) : Src := Operand.rec (fun t => tmpS n t) (fun v => valS (constA v)) (fun g => valS (globA P g)) (fun f => valS (.func (.func f) [] [])) x
def noD : Dst := .mk fun _ e => e
def tmpD (n t : Nat) : Dst := Bool.rec noD (dstTab (dig (Nat.div t 16)) (dig (Nat.mod t 16))) (Nat.blt t n)
def dstOf (n : Nat) (d : Option Tmp) : Dst := Option.rec noD (fun t => tmpD n t) d
abbrev G := Env → AV

/-! ### Operations -/

inductive R1 where
  | no
  | ok (v : AV) (h : Heap)
def okv (h : Heap) (x : Option AV) : R1 := Option.rec .no (fun v => .ok v h) x
def okp (x : Option (AV × Heap)) : R1 := Option.rec .no (fun p => Prod.rec (fun v h => .ok v h) p) x
abbrev OpK := Env → Heap → R1
inductive CI where
  | op (f : OpK)
def noOp : OpK := fun _ _ => .no
def s1 (a : Src) (k : G → OpK) : CI := Src.rec (fun g => .op (k g)) a
def s2 (a b : Src) (k : G → G → OpK) : CI := Src.rec (fun g => Src.rec (fun g' => .op (k g g')) b) a
def s3 (a b c : Src) (k : G → G → G → OpK) : CI := Src.rec (fun g => Src.rec (fun g' => Src.rec (fun g'' => .op (k g g' g'')) c) b) a

def objCells (o : Obj) : Option (List AV) := Obj.rec (motive := fun _ => Option (List AV)) (fun cs _ => some cs) (fun _ _ => none) (fun _ _ => none) (fun _ _ _ => none) (fun _ _ _ _ _ => none) (fun _ _ => none) (fun _ _ _ _ _ _ _ _ => none) none o
inductive OW where
  | no
  | mk (cs : List AV) (k : Kind)
def objOwn (o : Obj) : OW := Obj.rec (motive := fun _ => OW) (fun cs k => Kind.rec (fun t => .mk cs (.own t)) (fun t => .mk cs (.var t)) (.mk cs .str) .no k) (fun _ _ => .no) (fun _ _ => .no) (fun _ _ _ => .no) (fun _ _ _ _ _ => .no) (fun _ _ => .no) (fun _ _ _ _ _ _ _ _ => .no) .no o
def cellsAt (h : Heap) (l : Loc) : Option (List AV) := Option.rec none objCells (h.get l.id)
def ownAt (h : Heap) (l : Loc) : OW := Option.rec .no objOwn (h.get l.id)
def moveM (g : G) : OpK := fun e h => .ok (g e) h
def pickM (c a b : G) : OpK := fun e h => Option.rec .no (fun t => .ok (Bool.rec (b e) (a e) t) h) (asB (c e))
def load1 (h : Heap) (l : Loc) : R1 := Option.rec .no (fun cs => okv h (nthF l.off cs)) (cellsAt h l)
def loadN (n : Nat) (h : Heap) (l : Loc) : R1 := Option.rec .no (fun cs => Bool.rec .no (.ok (.agg (takeF n (dropF l.off cs))) h) (hasF (Nat.add l.off n) cs)) (cellsAt h l)
def load1M (g : G) : OpK := fun e h => Option.rec .no (fun l => load1 h l) (asPtr (g e))
def loadNM (n : Nat) (g : G) : OpK := fun e h => Option.rec .no (fun l => loadN n h l) (asPtr (g e))
def loadC (agg : Option Bool) (n : Option Nat) (s : Src) : CI := Option.rec (.op noOp) (fun b => Bool.rec (s1 s load1M) (Option.rec (.op noOp) (fun n => s1 s (loadNM n)) n) b) agg
def write1 (h : Heap) (l : Loc) (vs : List AV) : Option Heap := OW.rec none (fun cs k => Bool.rec none (some (h.set l.id (.cells (overF vs l.off cs) k))) (hasF (Nat.add l.off (lenF vs)) cs)) (ownAt h l)
def writeM (h : Heap) (l : Loc) (vs : List AV) : Option Heap := Bool.rec none (write1 h l vs) (cellsOkM vs)
def okh (x : Option Heap) : R1 := Option.rec .no (fun h => .ok (.tuple []) h) x
def storeM (n : Nat) (a x : G) : OpK := fun e h => Option.rec .no (fun l => Option.rec .no (fun cs => Bool.rec .no (okh (writeM h l cs)) (Nat.beq (lenF cs) n)) (cellsM (x e))) (asPtr (a e))
def newM (t : TypeId) (h : Heap) (cs : List AV) : R1 := .ok (.ptr (some ⟨h.next, 0⟩)) (h.alloc (.cells cs (.var t)))
def boxM (t : TypeId) (g : G) : OpK := fun e h => Option.rec .no (fun cs => newM t h cs) (cellsM (g e))
def allocM (t : TypeId) (cs : List AV) : OpK := fun _ h => newM t h cs
def allocC (t : TypeId) (z : Option AV) : CI := Option.rec (.op noOp) (fun z => Option.rec (.op noOp) (fun cs => .op (allocM t cs)) (cellsM z)) z
def nilCheckM (g : G) : OpK := fun e h => okv h (nilCheckA (g e))
/-- Where a field lies. -/
def fieldOff (P : Program) (s : TypeId) (f : Nat) : Option Nat :=
  match P.underlying s with
  | some (.struct fields) => (match fields[f]? with | some fl => (match sizeA P fl.type with | some (_ + 1) => some fl.offset | _ => none) | none => none)
  | _ => none
def fieldAddrM (off : Nat) (g : G) : OpK := fun e h => Option.rec .no (fun l => .ok (.ptr (some ⟨l.id, Nat.add l.off off⟩)) h) (asPtr (g e))
/-- An index's place: an array's (its length), a slice's; how much an element takes. -/
inductive IxK where
  | no
  | arr (len size : Nat)
  | sl (size : Nat)
def ixK (P : Program) (t : TypeId) : IxK :=
  match P.underlying t with
  | some (.array len e) => (match sizeA P e with | some s => .arr len s | none => .no)
  | some (.slice e) => (match sizeA P e with | some s => .sl s | none => .no)
  | _ => .no
def ixAt (h : Heap) (l : Loc) (len size : Nat) (i : IK) : R1 := Int.rec (fun j => Bool.rec .no (.ok (.ptr (some ⟨l.id, Nat.add l.off (Nat.mul j size)⟩)) h) (Nat.blt j len)) (fun _ => .no) i.n
def ixArrM (len size : Nat) (x i : G) : OpK := fun e h => Option.rec .no (fun i => Option.rec .no (fun l => ixAt h l len size i) (asPtr (x e))) (asI (i e))
def ixSlM (size : Nat) (x i : G) : OpK := fun e h => Option.rec .no (fun i => Option.rec .no (fun s => Option.rec .no (fun l => ixAt h l s.n size i) s.l) (asSl (x e))) (asI (i e))
def indexAddrC (k : IxK) (x i : Src) : CI := IxK.rec (.op noOp) (fun len size => s2 x i (ixArrM len size)) (fun size => s2 x i (ixSlM size)) k
def extractM (i : Nat) (g : G) : OpK := fun e h => Option.rec .no (fun vs => okv h (nthF i vs)) (asTup (g e))
def topN (k : IntKind) : Nat := IntKind.rec 127 32767 2147483647 9223372036854775807 255 65535 4294967295 18446744073709551615 k
def wrapM (k : IntKind) (n : Int) : Int := Int.rec (fun m => Bool.rec (k.wrap n) (Int.ofNat m) (Nat.ble m (topN k))) (fun _ => k.wrap n) n
def addI (a b : Int) : Int := Int.rec (fun x => Int.rec (fun y => Int.ofNat (Nat.add x y)) (fun _ => Int.add a b) b) (fun _ => Int.add a b) a
def subI (a b : Int) : Int := Int.rec (fun m => Int.rec (fun n => Bool.rec (Int.sub a b) (Int.ofNat (Nat.sub m n)) (Nat.ble n m)) (fun _ => Int.sub a b) b) (fun _ => Int.sub a b) a
def ltI (a b : Int) : Bool := Int.rec (fun a => Int.rec (fun b => Nat.blt a b) (fun _ => false) b) (fun a => Int.rec (fun _ => true) (fun b => Nat.blt b a) b) a
def eqI (a b : Int) : Bool := Int.rec (fun a => Int.rec (fun b => Nat.beq a b) (fun _ => false) b) (fun a => Int.rec (fun _ => false) (fun b => Nat.beq a b) b) a
def kNo (k : IntKind) : Nat := IntKind.rec 0 1 2 3 4 5 6 7 k
def sameK (a b : IntKind) : Bool := Nat.beq (kNo a) (kNo b)
abbrev BI := IK → IK → Option AV
def biAdd : BI := fun a b => some (.int a.k (wrapM a.k (addI a.n b.n)))
def biSub : BI := fun a b => some (.int a.k (wrapM a.k (subI a.n b.n)))
def biEql : BI := fun a b => some (.bool (eqI a.n b.n))
def biNeq : BI := fun a b => some (.bool (not (eqI a.n b.n)))
def biLss : BI := fun a b => some (.bool (ltI a.n b.n))
def biLeq : BI := fun a b => some (.bool (not (ltI b.n a.n)))
def biGtr : BI := fun a b => some (.bool (ltI b.n a.n))
def biGeq : BI := fun a b => some (.bool (not (ltI a.n b.n)))
def biRaw (op : BinOp) : BI := fun a b => intA op a.k a.n b.n
def biSh (op : BinOp) : BI := fun a b => shiftA op a.k a.n b.n
/-- Both of one kind. -/
def biSame (f : BI) : BI := fun a b => Bool.rec none (f a b) (sameK a.k b.k)
def biOf (op : BinOp) : BI := BinOp.rec (biSame biAdd) (biSame biSub) (biSame (biRaw .mul)) (biSame (biRaw .quo)) (biSame (biRaw .rem)) (biSame (biRaw .and)) (biSame (biRaw .or)) (biSame (biRaw .xor)) (biSh .shl) (biSh .shr) (biSame (biRaw .andNot)) (biSame biEql) (biSame biNeq) (biSame biLss) (biSame biLeq) (biSame biGtr) (biSame biGeq) op
abbrev BS := List UInt8 → List UInt8 → Option AV
def bsEql : BS := fun a b => some (.bool (eqS a b))
def bsNeq : BS := fun a b => some (.bool (not (eqS a b)))
def bsOf (op : BinOp) : BS := BinOp.rec (strA .add) (strA .sub) (strA .mul) (strA .quo) (strA .rem) (strA .and) (strA .or) (strA .xor) (strA .shl) (strA .shr) (strA .andNot) bsEql bsNeq (strA .lss) (strA .leq) (strA .gtr) (strA .geq) op
def binM (slow : AV → AV → Heap → R1) (bi : BI) (bs : BS) (x y : G) : OpK := fun e h =>
  Option.rec (Option.rec (slow (x e) (y e) h) (fun a => Option.rec .no (fun b => okv h (bs a b)) (asStr (y e))) (asStr (x e)))
    (fun a => Option.rec .no (fun b => okv h (bi a b)) (asI (y e))) (asI (x e))
def slowBin (P : Program) (op : BinOp) (t : TypeId) (xo yo : Operand) (x y : AV) (h : Heap) : R1 := okv h (binA P h op t xo yo x y)
inductive LenK where
  | str | sl | arr (n : Nat) | raw
def lenK (P : Program) (t : TypeId) : LenK :=
  match P.underlying t with
  | some .string => .str
  | some (.slice _) => .sl
  | some (.array n _) => .arr n
  | _ => .raw
def okI (h : Heap) (n : Nat) : R1 := .ok (.int .i64 (Int.ofNat n)) h
def lenStrM (x : G) : OpK := fun e h => Option.rec .no (fun s => okI h (lenF s)) (asStr (x e))
def lenSlM (x : G) : OpK := fun e h => Option.rec .no (fun s => okI h s.n) (asSl (x e))
def lenArrM (n : Nat) : OpK := fun _ h => okI h n
def lenRawM (P : Program) (t : TypeId) (x : G) : OpK := fun e h => okv h (lenA P h t (x e))
def lenC (P : Program) (t : TypeId) (k : LenK) (x : Src) : CI := LenK.rec (s1 x lenStrM) (s1 x lenSlM) (fun n => .op (lenArrM n)) (s1 x (lenRawM P t)) k
def notM (x : G) : OpK := fun e h => Option.rec .no (fun b => .ok (.bool (not b)) h) (asB (x e))
def byteM (b : UInt8) : AV := .int .u8 (Int.ofNat b.toNat)
def indexStrM (x i : G) : OpK := fun e h => Option.rec .no (fun i => Option.rec .no (fun s => Int.rec (fun j => Option.rec .no (fun b => .ok (byteM b) h) (nthF j s)) (fun _ => .no) i.n) (asStr (x e))) (asI (i e))
def indexRawM (P : Program) (t : TypeId) (x i : G) : OpK := fun e h => okv h (indexA P t (x e) (i e))
def srcsOf (P : Program) (n : Nat) (l : List Operand) : List Src := mapF (srcOf P n) l
def evM (e : Env) (l : List Src) : List AV := mapF (fun s => Src.ev s e) l
def makeFuncM (f : Fn) (a b : List Src) : OpK := fun e h => .ok (.func f (evM e a) (evM e b)) h
def isStr (P : Program) (t : TypeId) : Bool := match P.underlying t with | some .string => true | _ => false
/-- The slow way. -/
def rawM (P : Program) (n : Nat) (op : Op) : OpK := fun e h => okp (aopE P (fun x => (srcOf P n x).ev e) h op)
def raw0 (P : Program) (n : Nat) (op : Op) : CI := .op (rawM P n op)
def biC (P : Program) (n : Nat) (c : Call) (b : Builtin) : CI :=
  match b, c.args.toList, c.argTypes.toList with
  | .len, [x], [t] => lenC P t (lenK P t) (srcOf P n x)
  | _, _, _ => raw0 P n (.call c)
def compOp (P : Program) (n : Nat) (op : Op) : CI :=
  match op with
  | .move x | .assign x => s1 (srcOf P n x) moveM
  | .pick c a b => s3 (srcOf P n c) (srcOf P n a) (srcOf P n b) pickM
  | .alloc t => allocC t (zeroA P t)
  | .box t x => s1 (srcOf P n x) (boxM t)
  | .load t a => loadC (aggA P t) (sizeA P t) (srcOf P n a)
  | .store t a x => Option.rec (.op noOp) (fun k => s2 (srcOf P n a) (srcOf P n x) (storeM k)) (sizeA P t)
  | .nilCheck x => s1 (srcOf P n x) nilCheckM
  | .binOp op t x y _ => s2 (srcOf P n x) (srcOf P n y) (binM (slowBin P op t x y) (biOf op) (bsOf op))
  | .unOp .not _ x => s1 (srcOf P n x) notM
  | .fieldAddr s x f => Option.rec (.op noOp) (fun off => s1 (srcOf P n x) (fieldAddrM off)) (fieldOff P s f)
  | .indexAddr t x i => indexAddrC (ixK P t) (srcOf P n x) (srcOf P n i)
  | .index t x i => Bool.rec (s2 (srcOf P n x) (srcOf P n i) (indexRawM P t)) (s2 (srcOf P n x) (srcOf P n i) indexStrM) (isStr P t)
  | .extract x i => s1 (srcOf P n x) (extractM i)
  | .makeFunc f a b => .op (makeFuncM f (srcsOf P n a.toList) (srcsOf P n b.toList))
  | .call c => (match c.callee with | .builtin b => biC P n c b | _ => raw0 P n op)
  | op => raw0 P n op
end Go.Am

noncomputable section
namespace Go.Am
open Go.RowKit

/-- Which new number stands for which; those pairs that are still to be looked at. -/
structure Sg where
  al : List (Nat × Nat)
  todo : List (Nat × Nat)
def lookL (l : List (Nat × Nat)) (a : Nat) : Option Nat := List.rec none (fun p _ ih => Bool.rec ih (some p.2) (Nat.beq p.1 a)) l
def hasR (l : List (Nat × Nat)) (b : Nat) : Bool := List.rec false (fun p _ ih => Bool.rec ih true (Nat.beq p.2 b)) l
def mId (n0 : Nat) (s : Sg) (a b : Nat) : Option Sg :=
  bif Nat.blt a n0 then (bif Nat.beq a b then some s else none)
  else bif Nat.blt b n0 then none else
    match lookL s.al a with
    | some c => bif Nat.beq c b then some s else none
    | none => bif hasR s.al b then none else some ⟨(a, b) :: s.al, (a, b) :: s.todo⟩
def mOId (n0 : Nat) (s : Sg) (a b : Option Nat) : Option Sg :=
  match a, b with
  | none, none => some s
  | some a, some b => mId n0 s a b
  | _, _ => none
mutual
def mV (n0 : Nat) : AV → AV → Sg → Option Sg
  | .unk, .unk, s => some s
  | .bool a, .bool b, s => bif a == b then some s else none
  | .int k a, .int k' b, s => bif decide (k = k') && decide (a = b) then some s else none
  | .str a, .str b, s => bif decide (a = b) then some s else none
  | .ptr none, .ptr none, s => some s
  | .ptr (some a), .ptr (some b), s => bif Nat.beq a.off b.off then mId n0 s a.id b.id else none
  | .slice none n c, .slice none m d, s => bif Nat.beq n m && beqCap c d then some s else none
  | .slice (some a) n c, .slice (some b) m d, s => bif Nat.beq a.off b.off && Nat.beq n m && beqCap c d then mId n0 s a.id b.id else none
  | .map a, .map b, s => mOId n0 s a b
  | .chan a, .chan b, s => mOId n0 s a b
  | .func f a b, .func g c d, s => bif decide (f = g) then (match mVs n0 a c s with | some s => mVs n0 b d s | none => none) else none
  | .nilFunc, .nilFunc, s => some s
  | .iface t a, .iface u b, s => bif Nat.beq t u then mV n0 a b s else none
  | .nilIface, .nilIface, s => some s
  | .agg a, .agg b, s => mVs n0 a b s
  | .tuple a, .tuple b, s => mVs n0 a b s
  | .yield a, .yield b, s => mId n0 s a b
  | _, _, _ => none
def mVs (n0 : Nat) : List AV → List AV → Sg → Option Sg
  | [], [], s => some s
  | a :: as, b :: bs, s => (match mV n0 a b s with | some s => mVs n0 as bs s | none => none)
  | _, _, _ => none
end
def mEs (n0 : Nat) : List EN → List EN → Sg → Option Sg
  | [], [], s => some s
  | (k, v, b) :: es, (k', v', b') :: es', s => bif Nat.beq b b' then (match mV n0 k k' s with | some s => (match mV n0 v v' s with | some s => mEs n0 es es' s | none => none) | none => none) else none
  | _, _, _ => none
def mBs (n0 : Nat) : List (AV × AV) → List (AV × AV) → Sg → Option Sg
  | [], [], s => some s
  | (k, v) :: es, (k', v') :: es', s => (match mV n0 k k' s with | some s => (match mV n0 v v' s with | some s => mBs n0 es es' s | none => none) | none => none)
  | _, _, _ => none
def mO (n0 : Nat) (a b : Option Obj) (s : Sg) : Option Sg :=
  match a, b with
  | none, none => some s
  | some (.cells cs k), some (.cells ds k') => bif decide (k = k') then mVs n0 cs ds s else none
  | some (.map es c), some (.map es' c') => bif Nat.beq c c' then mEs n0 es es' s else none
  | some (.bag es c), some (.bag es' c') => bif Nat.beq c c' then mBs n0 es es' s else none
  | some (.chan c b x), some (.chan c' b' x') => bif Nat.beq c c' && (x == x') then mVs n0 b b' s else none
  | some (.iter m a b k c), some (.iter m' a' b' k' c') => bif Nat.beq a a' && decide (b = b') && Nat.beq c c' && (k.isNone || decide (k = k')) then mOId n0 s m m' else none
  | some (.siter a b), some (.siter a' b') => bif decide (a = a') && Nat.beq b b' then some s else none
  | some .defs, some .defs => some s
  | _, _ => none
/-- Every pair's contents. -/
def mGo (n0 : Nat) (h1 h2 : Heap) : Nat → Sg → Option Sg
  | 0, _ => none
  | f + 1, s =>
    match s.todo with
    | [] => some s
    | (a, b) :: t => (match mO n0 (h1.get a) (h2.get b) ⟨s.al, t⟩ with | some s => mGo n0 h1 h2 f s | none => none)
/-- The state and the way out of a range over a function. -/
def sameLS : LoopState → Option Code → LoopState → Option Code → Bool
  | .ready, none, .ready, none => true
  | .busy, none, .busy, none => true
  | .done, none, .done, none => true
  | .done, some .ret, .done, some .ret => true
  | .done, some (.exit i), .done, some (.exit j) => Nat.beq i j
  | _, _, _, _ => false
/-- Old things: of the record of a range over a function the most cannot change. -/
def mOO (n0 : Nat) (a b : Option Obj) (s : Sg) : Option Sg :=
  match a, b with
  | some (.loop st p _ _ _ _ _ _), some (.loop st' p' _ _ _ _ _ _) => bif sameLS st p st' p' then some s else none
  | a, b => mO n0 a b s
def mOld (n0 : Nat) (h1 h2 : Heap) : List Nat → Sg → Option Sg
  | [], s => some s
  | i :: is, s => bif Nat.blt i n0 then (match mOO n0 (h1.get i) (h2.get i) s with | some s => mOld n0 h1 h2 is s | none => none) else mOld n0 h1 h2 is s
def belowL (n : Nat) (l : List (Nat × Nat)) : Bool := List.rec true (fun p _ ih => Bool.rec false ih (Nat.blt p.1 n)) l
/-- Are values and memories the same, up to the new numbers? -/
def mrg (n0 : Nat) (vs1 : List AV) (h1 : Heap) (vs2 : List AV) (h2 : Heap) : Option Sg :=
  match mVs n0 vs1 vs2 ⟨[], []⟩ with
  | some s => (match mOld n0 h1 h2 h1.log s with | some s => (match mOld n0 h1 h2 h2.log s with | some s => (match mGo n0 h1 h2 100000 s with | some s => bif belowL h1.next s.al then some s else none | none => none) | none => none) | none => none)
  | none => none
/-- What is new and not met is forgotten. -/
def sweep (al : List (Nat × Nat)) : Nat → Nat → Heap → Heap
  | 0, _, h => h
  | f + 1, i, h => (match h.get i with | none => sweep al f (i + 1) h | some _ => (match lookL al i with | some _ => sweep al f (i + 1) h | none => sweep al f (i + 1) ⟨h.next, h.tr.put i none, h.log⟩))
def tidy (n0 : Nat) (s : Sg) (h : Heap) : Heap := sweep s.al (Nat.sub h.next n0) n0 h
end Go.Am

noncomputable section
namespace Go.Am
open Go.RowKit

/-- A way to look at every order: what is quiet is done as soon as it may be; of what is loud each may be the next. -/
inductive Plan where
  | done
  | quiet (i : Nat) (p : Plan)
  | alt (i : Nat) (cs : List Nat) (p q : Plan)
  | stop

def strictOk (ops : Array Oper) (bs : List Nat) : Bool :=
  allFrom (fun j y => (y.after.toList.all fun e => !bindsA e || Nat.blt e.on j) &&
    allFrom (fun i x => (Nat.beq i j || dstOk x y) && (match x.dst with | some d => !(usesA ops y).contains d || Nat.testBit (bs.getD j 0) i || Nat.testBit (bs.getD i 0) j | none => true)) ops.toList 0) ops.toList 0
def subOk (ops : Array Oper) (bs : List Nat) (i : Nat) (L : List Nat) : Bool := allFrom (fun j _ => !Nat.testBit (bs.getD i 0) j || L.contains j) ops.toList 0
/-- Whoever looks at what i writes is done indeed. -/
def useOk (P : Program) (ops : Array Oper) (bs : List Nat) (i : Nat) (L : List Nat) : Bool :=
  match (ops[i]?).bind (·.dst) with
  | none => true
  | some d => allFrom (fun x y => !L.contains x || !(usesA ops y).contains d || loudA P y.op || L.any (fun l => (match ops[l]? with | some z => loudA P z.op | none => false) && Nat.testBit (bs.getD l 0) x)) ops.toList 0
def planOk (P : Program) (ops : Array Oper) (bs : List Nat) : Plan → List Nat → List Nat → Bool
  | .done, L, _ => allFrom (fun i _ => L.contains i) ops.toList 0
  | .quiet i p, L, _ => (match ops[i]? with | some o => !loudA P o.op | none => false) && !L.contains i && subOk ops bs i L && useOk P ops bs i L && planOk P ops bs p (i :: L) []
  | .alt i cs p q, L, as => Nat.blt i ops.size && !L.contains i && subOk ops bs i L && allFrom (fun s x => !L.contains s || Nat.testBit (bs.getD i 0) s || loudA P x.op || !readsA P x.op || cs.contains s) ops.toList 0 &&
      planOk P ops bs p (i :: L) [] && planOk P ops bs q L (i :: as)
  | .stop, L, as => !as.isEmpty && allFrom (fun i _ => L.contains i || !subOk ops bs i L || as.contains i) ops.toList 0
def dstsOk (ops : Array Oper) (n : Nat) : Bool := allFrom (fun _ o => match o.dst with | some d => Nat.blt d n | none => true) ops.toList 0
end Go.Am

namespace Go.Am
open Go.RowKit

def Le (c c' : CallF) : Prop := ∀ f a h r, c f a h = some r → c' f a h = some r
theorem Le.refl (c : CallF) : Le c c := fun _ _ _ _ h => h

/-- It hangs on finitely many answers of the calls. -/
structure Cont (ch : Nat → CallF) (top : CallF) {α : Type} (F : CallF → Option α) : Prop where
  mono : ∀ c c', Le c c' → ∀ r, F c = some r → F c' = some r
  comp : ∀ r, F top = some r → ∃ N, F (ch N) = some r

structure Chain (ch : Nat → CallF) (top : CallF) : Prop where
  up : ∀ n m, n ≤ m → Le (ch n) (ch m)
  top : ∀ f a h r, top f a h = some r → ∃ N, ch N f a h = some r

section
variable {ch : Nat → CallF} {top : CallF} (C : Chain ch top) {α β : Type}
include C

omit C in
theorem Cont.const' (x : Option α) : Cont ch top (fun _ => x) := ⟨fun _ _ _ _ h => h, fun _ h => ⟨0, h⟩⟩
theorem Cont.const (x : Option α) : Cont ch top (fun _ => x) := have _ := C; Cont.const' x
theorem Cont.call (f : FuncId) (a : List AV) (h : Heap) : Cont ch top (fun c => c f a h) := ⟨fun _ _ hl r hr => hl f a h r hr, fun r hr => C.top f a h r hr⟩
theorem Cont.bind {G : CallF → Option α} {K : CallF → α → Option β} (hG : Cont ch top G) (hK : ∀ x, Cont ch top (fun c => K c x)) : Cont ch top (fun c => (G c).bind (K c)) where
  mono := fun c c' hl r hr => by
    rw [Option.bind_eq_some_iff] at hr ⊢
    obtain ⟨x, h1, h2⟩ := hr
    exact ⟨x, hG.mono c c' hl x h1, (hK x).mono c c' hl r h2⟩
  comp := fun r hr => by
    rw [Option.bind_eq_some_iff] at hr
    obtain ⟨x, h1, h2⟩ := hr
    obtain ⟨n, hn⟩ := hG.comp x h1
    obtain ⟨m, hm⟩ := (hK x).comp r h2
    refine ⟨max n m, ?_⟩
    rw [Option.bind_eq_some_iff]
    exact ⟨x, hG.mono _ _ (C.up n _ (Nat.le_max_left _ _)) x hn, (hK x).mono _ _ (C.up m _ (Nat.le_max_right _ _)) r hm⟩
omit C in
theorem Cont.of_eq {F G : CallF → Option α} (h : ∀ c, F c = G c) (hG : Cont ch top G) : Cont ch top F := by
  rw [show F = G from funext h]; exact hG

theorem cont_callA (P : Program) (h : Heap) (f : FuncId) (args : List AV) : Cont ch top (fun c => callA c P h f args) := Cont.call C f args h

theorem cont_bif (b : Bool) {F : CallF → Option α} (hF : Cont ch top F) : Cont ch top (fun c => bif b then F c else none) := by
  cases b with
  | true => exact hF
  | false => exact Cont.const C none
theorem cont_opA (P : Program) (e : List AV) (h : Heap) (op : Op) : Cont ch top (fun c => opA c P e h op) := by
  cases op with
  | call c =>
    obtain ⟨callee, args, ats⟩ := c
    cases callee with
    | builtin b => exact Cont.const C _
    | value f =>
      simp only [opA]
      split
      · exact cont_bif C _ (cont_callA C _ _ _ _)
      · exact cont_callA C _ _ _ _
      · exact Cont.const C none
    | invoke r n =>
      simp only [opA]
      split
      · split
        · exact cont_bif C _ (cont_callA C _ _ _ _)
        · exact Cont.const C none
      · exact Cont.const C none
  | _ => exact Cont.const C _

theorem cont_opsA (P : Program) (ops : Array Oper) : ∀ (rest : List Oper) (e : List AV) (h : Heap), Cont ch top (fun c => opsA c P ops rest e h)
  | [], e, h => Cont.const C _
  | o :: rest, e, h => by
    cases hw : wantedA ops e o with
    | none => exact Cont.of_eq (G := fun _ => none) (fun c => by simp only [opsA, hw]) (Cont.const C _)
    | some b =>
      cases b with
      | false => exact Cont.of_eq (fun c => by simp only [opsA, hw]) (cont_opsA P ops rest (putA e o.dst (.tuple [])) h)
      | true =>
        refine Cont.of_eq (G := fun c => (opA c P e h o.op).bind fun r => match r with | .ret v h' => opsA c P ops rest (putA e o.dst v) h' | .pan v h' => some (.pan v, e, h')) (fun c => ?_) (Cont.bind C (cont_opA C P e h o.op) fun r => ?_)
        · simp only [opsA, hw]
          cases opA c P e h o.op with
          | none => rfl
          | some r => cases r <;> rfl
        · cases r with
          | ret v h' => exact cont_opsA P ops rest _ h'
          | pan v h' => exact Cont.const C _

theorem cont_traceA (P : Program) (ops : Array Oper) : ∀ (rest : List Oper) (e : List AV) (h : Heap), Cont ch top (fun c => traceA c P ops rest e h)
  | [], e, h => Cont.const C _
  | o :: rest, e, h => by
    cases hw : wantedA ops e o with
    | none => exact Cont.of_eq (G := fun _ => none) (fun c => by simp only [traceA, hw]) (Cont.const C _)
    | some b =>
      cases b with
      | false =>
        refine Cont.of_eq (G := fun c => (traceA c P ops rest (putA e o.dst (.tuple [])) h).bind fun tr => some (⟨e, h, .tuple [], false⟩ :: tr)) (fun c => ?_) (Cont.bind C (cont_traceA P ops rest _ h) fun tr => Cont.const C _)
        simp only [traceA, hw]
        cases traceA c P ops rest (putA e o.dst (.tuple [])) h <;> rfl
      | true =>
        refine Cont.of_eq (G := fun c => (opA c P e h o.op).bind fun r => match r with | .ret v h' => (traceA c P ops rest (putA e o.dst v) h').bind (fun tr => some (⟨e, h, v, true⟩ :: tr)) | .pan _ _ => none) (fun c => ?_) (Cont.bind C (cont_opA C P e h o.op) fun r => ?_)
        · simp only [traceA, hw]
          cases opA c P e h o.op with
          | none => rfl
          | some r => cases r with
            | ret v h' => simp only [Option.bind_some]; cases traceA c P ops rest (putA e o.dst v) h' <;> rfl
            | pan v h' => rfl
        · cases r with
          | ret v h' => exact Cont.bind C (cont_traceA P ops rest _ h') fun tr => Cont.const C _
          | pan v h' => exact Cont.const C _

def boolO (b : Bool) : Option Unit := bif b then some () else none

theorem cont_dyn (P : Program) (ops : Array Oper) (e : List AV) (h : Heap) : Cont ch top (fun c => boolO (dynOk c P ops e h)) := by
  refine Cont.of_eq (G := fun c => (traceA c P ops ops.toList e h).bind fun tr => boolO (dynAll P (masks ops.toList []) (louds P ops.toList 0) tr ops.toList tr 0)) (fun c => ?_) (Cont.bind C (cont_traceA C P ops _ e h) fun tr => Cont.const C _)
  unfold dynOk
  cases traceA c P ops ops.toList e h <;> rfl

theorem cont_drawA (P : Program) (ops : Array Oper) (e : List AV) (h : Heap) : Cont ch top (fun c => drawA P c ops e h) := by
  unfold drawA
  cases hs : drawStatic P ops (masks ops.toList []) with
  | false => exact Cont.const C _
  | true =>
    simp only [cond_true]
    refine Cont.of_eq (G := fun c => (opsA c P ops ops.toList e h).bind fun r => match r with
      | (.normal, e', h') => (if needNot P (masks ops.toList []) (louds P ops.toList 0) ops.toList 0 then some () else boolO (dynOk c P ops e h)).bind fun _ => some (.normal, e', h')
      | _ => none) (fun c => ?_) (Cont.bind C (cont_opsA C P ops _ e h) fun r => ?_)
    · cases opsA c P ops ops.toList e h with
      | none => rfl
      | some r =>
        obtain ⟨o, e', h'⟩ := r
        cases o with
        | normal =>
          simp only [Option.bind_some]
          cases needNot P (masks ops.toList []) (louds P ops.toList 0) ops.toList 0 with
          | true => simp
          | false => simp only [Bool.false_or, Bool.false_eq_true, if_false, boolO]; cases dynOk c P ops e h <;> rfl
        | _ => rfl
    · obtain ⟨o, e', h'⟩ := r
      cases o with
      | normal =>
        simp only
        refine Cont.bind C ?_ fun _ => Cont.const C _
        split
        · exact Cont.const C _
        · exact cont_dyn C P ops e h
      | _ => exact Cont.const C _

theorem cont_loopA {B : CallF → List AV → Heap → Option (Out × List AV × Heap)} (hB : ∀ e h, Cont ch top (fun c => B c e h)) : ∀ (n : Nat) (e : List AV) (h : Heap), Cont ch top (fun c => loopA (B c) n e h)
  | 0, e, h => Cont.const C _
  | n + 1, e, h => by
    refine Cont.of_eq (G := fun c => (B c e h).bind fun r => match r with | (.normal, e', h') => loopA (B c) n e' h' | r => some r) (fun c => ?_) (Cont.bind C (hB e h) fun r => ?_)
    · simp only [loopA]
      cases B c e h with
      | none => rfl
      | some r => obtain ⟨o, e', h'⟩ := r; cases o <;> rfl
    · obtain ⟨o, e', h'⟩ := r
      cases o with
      | normal => exact cont_loopA hB n e' h'
      | _ => exact Cont.const C _

theorem cont_execA (P : Program) (n : Nat) : ∀ (code : Code) (e : List AV) (h : Heap), Cont ch top (fun c => execA (drawA P) c P n code e h)
  | .skip, e, h => Cont.const C _
  | .label _, e, h => Cont.const C _
  | .region _ ops dr, e, h => by
    cases dr with
    | true => exact cont_drawA C P ops e h
    | false => exact cont_opsA C P ops _ e h
  | .seq a b, e, h => by
    refine Cont.of_eq (G := fun c => (execA (drawA P) c P n a e h).bind fun r => match r with | (.normal, e', h') => execA (drawA P) c P n b e' h' | r => some r) (fun c => ?_) (Cont.bind C (cont_execA P n a e h) fun r => ?_)
    · simp only [execA]
      cases execA (drawA P) c P n a e h with
      | none => rfl
      | some r => obtain ⟨o, e', h'⟩ := r; cases o <;> rfl
    · obtain ⟨o, e', h'⟩ := r
      cases o with
      | normal => exact cont_execA P n b e' h'
      | _ => exact Cont.const C _
  | .cond x a b, e, h => by
    simp only [execA]
    split
    · rename_i t _
      cases t with
      | true => exact cont_execA P n a e h
      | false => exact cont_execA P n b e h
    · exact Cont.const C _
  | .block id b, e, h => by
    refine Cont.of_eq (G := fun c => (execA (drawA P) c P n b e h).bind fun r => match r with | (.exit i, e', h') => bif Nat.beq i id then some (.normal, e', h') else some (.exit i, e', h') | r => some r) (fun c => ?_) (Cont.bind C (cont_execA P n b e h) fun r => Cont.const C _)
    simp only [execA]
    cases execA (drawA P) c P n b e h with
    | none => rfl
    | some r => obtain ⟨o, e', h'⟩ := r; cases o <;> rfl
  | .loop b, e, h => cont_loopA C (fun e h => cont_execA P n b e h) n e h
  | .exit _, e, h => Cont.const C _
  | .ret, e, h => Cont.const C _
  | .rangeFunc .., e, h => Cont.const C _
  | .scope .., e, h => Cont.const C _
  | .goto .., e, h => Cont.const C _
  | .refuse .., e, h => Cont.const C _

theorem cont_callBody (P : Program) (n : Nat) (fn : Func) (args : List AV) (h : Heap) : Cont ch top (fun c => callBody (execA (drawA P) c P n) P fn args h) := by
  cases hb : fn.body with
  | none => exact Cont.of_eq (G := fun _ => none) (fun c => by simp only [callBody, hb]) (Cont.const C _)
  | some code =>
    refine Cont.of_eq (G := fun c => (execA (drawA P) c P n code (frameA fn args) h).bind fun r => match r with
      | (.normal, e, h') | (.ret, e, h') => (match resultsA P e h' fn.results.toList with | some vs => some (.ret (single vs) h') | none => none)
      | (.pan v, _, h') => some (.pan v h')
      | _ => none) (fun c => ?_) (Cont.bind C (cont_execA C P n code _ h) fun r => Cont.const C _)
    simp only [callBody, hb]
    cases execA (drawA P) c P n code (frameA fn args) h with
    | none => rfl
    | some r => obtain ⟨o, e', h'⟩ := r; cases o <;> rfl
end

/-- More rounds tell the same. -/
theorem loopA_more {B B' : List AV → Heap → Option (Out × List AV × Heap)} (hB : ∀ e h r, B e h = some r → B' e h = some r) : ∀ (n m : Nat), n ≤ m → ∀ e h r, loopA B n e h = some r → loopA B' m e h = some r
  | 0, _, _, e, h, r, hr => by simp [loopA] at hr
  | n + 1, 0, hnm, e, h, r, hr => by omega
  | n + 1, m + 1, hnm, e, h, r, hr => by
    simp only [loopA] at hr ⊢
    split at hr
    · rename_i e' h' hb
      rw [hB _ _ _ hb]
      exact loopA_more hB n m (by omega) e' h' r hr
    · rename_i hno
      rw [hB _ _ _ hr]
      obtain ⟨o, e', h'⟩ := r
      cases o with
      | normal => exact absurd hr (hno e' h')
      | _ => rfl

theorem execA_more {draw : DrawF} {call : CallF} {P : Program} {n m : Nat} (hnm : n ≤ m) : ∀ (code : Code) (e : List AV) (h : Heap) (r : Out × List AV × Heap), execA draw call P n code e h = some r → execA draw call P m code e h = some r
  | .skip, e, h, r, hr => hr
  | .label _, e, h, r, hr => hr
  | .region _ ops dr, e, h, r, hr => hr
  | .seq a b, e, h, r, hr => by
    simp only [execA] at hr ⊢
    split at hr
    · rename_i e' h' hx
      rw [execA_more hnm a e h _ hx]
      exact execA_more hnm b e' h' r hr
    · rename_i hno
      rw [execA_more hnm a e h _ hr]
      obtain ⟨o, e', h'⟩ := r
      cases o with
      | normal => exact absurd hr (hno e' h')
      | _ => rfl
  | .cond x a b, e, h, r, hr => by
    simp only [execA] at hr ⊢
    split at hr
    · rename_i t ht
      cases t with
      | true => exact execA_more hnm a e h r hr
      | false => exact execA_more hnm b e h r hr
    · cases hr
  | .block id b, e, h, r, hr => by
    simp only [execA] at hr ⊢
    split at hr
    · rename_i i e' h' hx
      rw [execA_more hnm b e h _ hx]
      exact hr
    · rename_i hno
      rw [execA_more hnm b e h _ hr]
      obtain ⟨o, e', h'⟩ := r
      cases o with
      | exit i => exact absurd hr (hno i e' h')
      | _ => rfl
  | .loop b, e, h, r, hr => by
    simp only [execA] at hr ⊢
    exact loopA_more (fun e h r => execA_more hnm b e h r) n m hnm e h r hr
  | .exit _, e, h, r, hr => hr
  | .ret, e, h, r, hr => hr
  | .rangeFunc .., e, h, r, hr => by simp [execA] at hr
  | .scope .., e, h, r, hr => by simp [execA] at hr
  | .goto .., e, h, r, hr => by simp [execA] at hr
  | .refuse .., e, h, r, hr => by simp [execA] at hr

theorem callBody_more {draw : DrawF} {call : CallF} {P : Program} {n m : Nat} (hnm : n ≤ m) {fn : Func} {args : List AV} {h : Heap} {r : CRes} (hr : callBody (execA draw call P n) P fn args h = some r) : callBody (execA draw call P m) P fn args h = some r := by
  unfold callBody at hr ⊢
  split at hr
  · cases hr
  · rename_i c hb
    split at hr
    · rename_i e h' hx; simp only [execA_more hnm c _ _ _ hx]; exact hr
    · rename_i e h' hx; simp only [execA_more hnm c _ _ _ hx]; exact hr
    · rename_i v e h' hx; simp only [execA_more hnm c _ _ _ hx]; exact hr
    · cases hr

section
variable (ov : CallF) (P : Program)

theorem callN_mono : ∀ (d d' n n' : Nat), d ≤ d' → n ≤ n' → Le (callN (drawA P) ov P n d) (callN (drawA P) ov P n' d')
  | 0, 0, n, n', _, _ => fun f a h r hr => hr
  | 0, d' + 1, n, n', _, _ => fun f a h r hr => by
    simp only [callN] at hr ⊢
    rw [hr]
  | d + 1, 0, n, n', hd, _ => by omega
  | d + 1, d' + 1, n, n', hd, hn => fun f a h r hr => by
    have ih := callN_mono d d' n n' (by omega) hn
    simp only [callN] at hr ⊢
    split at hr
    · exact hr
    · rename_i ho
      split at hr
      · cases hr
      · rename_i fn hf
        have C : Chain (fun _ => callN (drawA P) ov P n' d') (callN (drawA P) ov P n' d') := ⟨fun _ _ _ => Le.refl _, fun _ _ _ _ h => ⟨0, h⟩⟩
        exact callBody_more hn ((cont_callBody C P n fn a h).mono _ _ ih r hr)

/-- What a call comes to, however deep. -/
noncomputable def callT : CallF := fun f a h => by
  classical exact if hx : ∃ N r, callN (drawA P) ov P N N f a h = some r then some hx.choose_spec.choose else none

theorem callT_iff (f : FuncId) (a : List AV) (h : Heap) (r : CRes) : callT ov P f a h = some r ↔ ∃ N, callN (drawA P) ov P N N f a h = some r := by
  unfold callT
  constructor
  · intro hr
    split at hr
    · rename_i hx
      cases hr
      exact ⟨hx.choose, hx.choose_spec.choose_spec⟩
    · cases hr
  · rintro ⟨N, hN⟩
    have hx : ∃ N r, callN (drawA P) ov P N N f a h = some r := ⟨N, r, hN⟩
    rw [dif_pos hx]
    have h1 := hx.choose_spec.choose_spec
    have h2 := callN_mono ov P hx.choose (max hx.choose N) hx.choose (max hx.choose N) (Nat.le_max_left _ _) (Nat.le_max_left _ _) f a h _ h1
    have h3 := callN_mono ov P N (max hx.choose N) N (max hx.choose N) (Nat.le_max_right _ _) (Nat.le_max_right _ _) f a h r hN
    rw [h2] at h3
    exact h3

theorem chainT : Chain (fun N => callN (drawA P) ov P N N) (callT ov P) :=
  ⟨fun n m hnm => callN_mono ov P n m n m hnm hnm, fun f a h r hr => (callT_iff ov P f a h r).1 hr⟩

theorem callT_ok (hF : Fns P) (hm : P.follows .mixedOrders = true) (hov : CallsOk P ov) : CallsOk P (callT ov P) := by
  intro f a h r hr
  obtain ⟨N, hN⟩ := (callT_iff ov P f a h r).1 hr
  exact callN_ok hF (drawA_ok hF hm) hov N f a h r hN

theorem callT_ov {f : FuncId} {a : List AV} {h : Heap} {r : CRes} (ho : ov f a h = some r) : callT ov P f a h = some r := by
  rw [callT_iff]
  exact ⟨0, ho⟩

/-- A call of a function with a body: the body's run, over calls however deep. -/
theorem callT_body {f : FuncId} {fn : Func} {a : List AV} {h : Heap} {r : CRes} (ho : ov f a h = none) (hf : P.funcs[f]? = some fn) {n : Nat} (hr : callBody (execA (drawA P) (callT ov P) P n) P fn a h = some r) : callT ov P f a h = some r := by
  obtain ⟨N, hN⟩ := (cont_callBody (chainT ov P) P n fn a h).comp r hr
  rw [callT_iff]
  refine ⟨max n N + 1, ?_⟩
  simp only [callN, ho, hf]
  have h1 := callBody_more (m := max n N + 1) (by omega) hN
  have C : Chain (fun _ => callN (drawA P) ov P (max n N + 1) (max n N)) (callN (drawA P) ov P (max n N + 1) (max n N)) := ⟨fun _ _ _ => Le.refl _, fun _ _ _ _ h => ⟨0, h⟩⟩
  exact (cont_callBody C P _ fn a h).mono _ _ (callN_mono ov P N _ N _ (by omega) (by omega)) r h1
end

/-! ### Code, over calls however deep -/

section
variable {ov : CallF} {P : Program}

/-- The code runs, in some number of rounds. -/
def Runs (ov : CallF) (P : Program) (c : Code) (e : List AV) (h : Heap) (r : Out × List AV × Heap) : Prop := ∃ n, execA (drawA P) (callT ov P) P n c e h = some r

theorem Runs.skip {e : List AV} {h : Heap} : Runs ov P .skip e h (.normal, e, h) := ⟨0, rfl⟩
theorem Runs.label {l : Nat} {e : List AV} {h : Heap} : Runs ov P (.label l) e h (.normal, e, h) := ⟨0, rfl⟩
theorem Runs.exit {i : Nat} {e : List AV} {h : Heap} : Runs ov P (.exit i) e h (.exit i, e, h) := ⟨0, rfl⟩
theorem Runs.ret {e : List AV} {h : Heap} : Runs ov P .ret e h (.ret, e, h) := ⟨0, rfl⟩
theorem Runs.region {id : Nat} {ops : Array Oper} {e : List AV} {h : Heap} {r : Out × List AV × Heap} (hr : opsA (callT ov P) P ops ops.toList e h = some r) : Runs ov P (.region id ops false) e h r := ⟨0, hr⟩
theorem Runs.draw {id : Nat} {ops : Array Oper} {e : List AV} {h : Heap} {r : Out × List AV × Heap} (hr : drawA P (callT ov P) ops e h = some r) : Runs ov P (.region id ops true) e h r := ⟨0, hr⟩
theorem Runs.seq {a b : Code} {e e' : List AV} {h h' : Heap} {r : Out × List AV × Heap} (h1 : Runs ov P a e h (.normal, e', h')) (h2 : Runs ov P b e' h' r) : Runs ov P (.seq a b) e h r := by
  obtain ⟨n, hn⟩ := h1
  obtain ⟨m, hm⟩ := h2
  refine ⟨max n m, ?_⟩
  simp only [execA, execA_more (Nat.le_max_left n m) a e h _ hn]
  exact execA_more (Nat.le_max_right n m) b e' h' r hm
theorem Runs.seq_out {a b : Code} {e e' : List AV} {h h' : Heap} {o : Out} (h1 : Runs ov P a e h (o, e', h')) (ho : o ≠ .normal) : Runs ov P (.seq a b) e h (o, e', h') := by
  obtain ⟨n, hn⟩ := h1
  refine ⟨n, ?_⟩
  simp only [execA, hn]
  cases o <;> first | rfl | exact absurd rfl ho
theorem Runs.cond_true {c : Operand} {a b : Code} {e : List AV} {h : Heap} {r : Out × List AV × Heap} (hc : evalA P e c = .bool true) (h1 : Runs ov P a e h r) : Runs ov P (.cond c a b) e h r := by
  obtain ⟨n, hn⟩ := h1
  exact ⟨n, by simp only [execA, hc, _root_.cond_true]; exact hn⟩
theorem Runs.cond_false {c : Operand} {a b : Code} {e : List AV} {h : Heap} {r : Out × List AV × Heap} (hc : evalA P e c = .bool false) (h1 : Runs ov P b e h r) : Runs ov P (.cond c a b) e h r := by
  obtain ⟨n, hn⟩ := h1
  exact ⟨n, by simp only [execA, hc, _root_.cond_false]; exact hn⟩
theorem Runs.cond {c : Operand} {a b : Code} {e : List AV} {h : Heap} {r : Out × List AV × Heap} {t : Bool} (hc : evalA P e c = .bool t) (h1 : t = true → Runs ov P a e h r) (h2 : t = false → Runs ov P b e h r) : Runs ov P (.cond c a b) e h r := by
  cases t with
  | true => exact Runs.cond_true hc (h1 rfl)
  | false => exact Runs.cond_false hc (h2 rfl)
theorem Runs.block_exit {id : Nat} {b : Code} {e e' : List AV} {h h' : Heap} (h1 : Runs ov P b e h (.exit id, e', h')) : Runs ov P (.block id b) e h (.normal, e', h') := by
  obtain ⟨n, hn⟩ := h1
  refine ⟨n, ?_⟩
  simp only [execA, hn, beq1, decide_true, _root_.cond_true]
theorem Runs.block {id : Nat} {b : Code} {e e' : List AV} {h h' : Heap} {o : Out} (h1 : Runs ov P b e h (o, e', h')) (ho : o ≠ .exit id) : Runs ov P (.block id b) e h (o, e', h') := by
  obtain ⟨n, hn⟩ := h1
  refine ⟨n, ?_⟩
  simp only [execA, hn]
  cases o with
  | exit i =>
    have : i ≠ id := fun hh => ho (by rw [hh])
    simp only [beq1, this, decide_false, _root_.cond_false]
  | _ => rfl
theorem Runs.loop {b : Code} {e e' : List AV} {h h' : Heap} {r : Out × List AV × Heap} (h1 : Runs ov P b e h (.normal, e', h')) (h2 : Runs ov P (.loop b) e' h' r) : Runs ov P (.loop b) e h r := by
  obtain ⟨n, hn⟩ := h1
  obtain ⟨m, hm⟩ := h2
  refine ⟨max n m + 1, ?_⟩
  simp only [execA, loopA, execA_more (show n ≤ max n m + 1 by omega) b e h _ hn]
  simp only [execA] at hm
  exact loopA_more (fun e h r => execA_more (by omega) b e h r) m (max n m) (by omega) e' h' r hm
theorem Runs.loop_out {b : Code} {e e' : List AV} {h h' : Heap} {o : Out} (h1 : Runs ov P b e h (o, e', h')) (ho : o ≠ .normal) : Runs ov P (.loop b) e h (o, e', h') := by
  obtain ⟨n, hn⟩ := h1
  refine ⟨n + 1, ?_⟩
  simp only [execA, loopA, execA_more (show n ≤ n + 1 by omega) b e h _ hn]
  cases o <;> first | rfl | exact absurd rfl ho

theorem callT_ret {f : FuncId} {fn : Func} {c : Code} {a e : List AV} {h h' : Heap} {o : Out} {vs : List AV} (hov : ov f a h = none) (hf : P.funcs[f]? = some fn) (hb : fn.body = some c) (hr : Runs ov P c (frameA fn a) h (o, e, h')) (ho : o = .normal ∨ o = .ret)
    (hv : resultsA P e h' fn.results.toList = some vs) : callT ov P f a h = some (.ret (single vs) h') := by
  obtain ⟨n, hn⟩ := hr
  refine callT_body ov P hov hf (n := n) ?_
  unfold callBody
  rw [hb]
  simp only [hn]
  rcases ho with rfl | rfl <;> simp only [hv]
theorem callT_pan {f : FuncId} {fn : Func} {c : Code} {a e : List AV} {h h' : Heap} {v : AV} (hov : ov f a h = none) (hf : P.funcs[f]? = some fn) (hb : fn.body = some c) (hr : Runs ov P c (frameA fn a) h (.pan v, e, h')) : callT ov P f a h = some (.pan v h') := by
  obtain ⟨n, hn⟩ := hr
  refine callT_body ov P hov hf (n := n) ?_
  unfold callBody
  rw [hb]
  simp only [hn]
end
end Go.Am

noncomputable section
namespace Go.Am
open Go.RowKit

section
variable {call : CallF} {P : Program} {ops : Array Oper} {dst : Option Tmp} {op : Op} {ty : TypeId} {pos : String} {after : Array Edge} {rest : List Oper} {e : List AV} {h : Heap}

theorem sim_nil : opsA call P ops [] e h = some (.normal, e, h) := rfl
/-- One operation's answer, handed on. -/
def stepR (call : CallF) (P : Program) (ops : Array Oper) (rest : List Oper) (dst : Option Tmp) (e : List AV) : Option CRes → Option (Out × List AV × Heap)
  | some (.ret v h') => opsA call P ops rest (putA e dst v) h'
  | some (.pan v h') => some (.pan v, e, h')
  | none => none
theorem sim_cons : opsA call P ops (⟨dst, op, ty, pos, after, none⟩ :: rest) e h = stepR call P ops rest dst e (opA call P e h op) := by
  simp only [opsA, wantedA]
  cases opA call P e h op with
  | none => rfl
  | some r => cases r <;> rfl
theorem stepR_ret {v : AV} {h' : Heap} {d : Tmp} : stepR call P ops rest (some d) e (some (.ret v h')) = opsA call P ops rest (e.set d v) h' := rfl
theorem stepR_none {v : AV} {h' : Heap} : stepR call P ops rest none e (some (.ret v h')) = opsA call P ops rest e h' := rfl
/-- A guarded operation: is it wanted? -/
def guardA (ops : Array Oper) (e : List AV) (j : Nat) (b : Bool) : Option Bool :=
  match (ops[j]?).bind (·.dst) with
  | none => some false
  | some d =>
    match nth e d with
    | .bool c => some (c == b)
    | .unk => none
    | _ => some false
def gstep (call : CallF) (P : Program) (ops : Array Oper) (rest : List Oper) (dst : Option Tmp) (op : Op) (e : List AV) (h : Heap) : Option Bool → Option (Out × List AV × Heap)
  | some true => stepR call P ops rest dst e (opA call P e h op)
  | some false => opsA call P ops rest (putA e dst (.tuple [])) h
  | none => none
theorem sim_guard {j : Nat} {b : Bool} : opsA call P ops (⟨dst, op, ty, pos, after, some (j, b)⟩ :: rest) e h = gstep call P ops rest dst op e h (guardA ops e j b) := by
  have hw : wantedA ops e ⟨dst, op, ty, pos, after, some (j, b)⟩ = guardA ops e j b := rfl
  simp only [opsA, hw]
  cases guardA ops e j b with
  | none => rfl
  | some t =>
    cases t with
    | false => rfl
    | true =>
      simp only [gstep]
      cases opA call P e h op with
      | none => rfl
      | some r => cases r <;> rfl
theorem gstep_true : gstep call P ops rest dst op e h (some true) = stepR call P ops rest dst e (opA call P e h op) := rfl
theorem gstep_false {d : Tmp} : gstep call P ops rest (some d) op e h (some false) = opsA call P ops rest (e.set d (.tuple [])) h := rfl
theorem guardA_at {j : Nat} {b c : Bool} {d : Tmp} (h1 : (ops[j]?).bind (·.dst) = some d) (h2 : nth e d = .bool c) : guardA ops e j b = some (c == b) := by
  simp only [guardA, h1, h2]

theorem nth_zero {x : AV} {xs : List AV} : nth (x :: xs) 0 = x := rfl
theorem nth_succ {x : AV} {xs : List AV} {n : Nat} : nth (x :: xs) (n + 1) = nth xs n := rfl
theorem ev_tmp {t : Tmp} : evalA P e (.tmp t) = nth e t := rfl
theorem ev_func {f : FuncId} : evalA P e (.func f) = .func (.func f) [] [] := rfl
theorem ev_int {k : IntKind} {n : Int} : evalA P e (.const (.int k n)) = .int k n := rfl
theorem ev_bool {b : Bool} : evalA P e (.const (.bool b)) = .bool b := rfl
theorem ev_nilptr : evalA P e (.const (.pointer none)) = .ptr none := rfl
theorem ev_nilslice : evalA P e (.const (.slice none 0 0)) = .slice none 0 (.exact 0) := rfl
theorem ev_nilIface : evalA P e (.const .nilIface) = .nilIface := rfl
theorem ev_nilFunc : evalA P e (.const .nilFunc) = .nilFunc := rfl
theorem ev_nilmap : evalA P e (.const (.map none)) = .map none := rfl

theorem op_move {x : Operand} : opA call P e h (.move x) = some (.ret (evalA P e x) h) := rfl
theorem op_assign {x : Operand} : opA call P e h (.assign x) = some (.ret (evalA P e x) h) := rfl
def pickA (c : AV) (a b : AV) (h : Heap) : Option CRes := match c with | .bool t => some (.ret (bif t then a else b) h) | _ => none
theorem op_pick {c a b : Operand} : opA call P e h (.pick c a b) = pickA (evalA P e c) (evalA P e a) (evalA P e b) h := by
  simp only [opA, aop]
  cases evalA P e c <;> rfl
theorem pickA_bool {t : Bool} {a b : AV} : pickA (.bool t) a b h = some (.ret (bif t then a else b) h) := rfl
theorem op_alloc {t : TypeId} : opA call P e h (.alloc t) = toRet (allocA P h t) := rfl
theorem op_box {t : TypeId} {x : Operand} : opA call P e h (.box t x) = toRet (boxA t h (evalA P e x)) := rfl
theorem op_build {t : TypeId} {ps : Array (Nat × Operand)} : opA call P e h (.build t ps) = toRet (withH h (buildA P t (evalParts P e ps.toList))) := rfl
theorem op_buildSlice {t : TypeId} {n : Nat} {ps : Array (Nat × Operand)} : opA call P e h (.buildSlice t n ps) = toRet (buildSliceA P h t n (evalParts P e ps.toList)) := rfl
def loadR (P : Program) (h : Heap) (t : TypeId) (x : AV) : Option CRes := match x with | .ptr (some l) => toRet (withH h (loadA P h t l)) | _ => none
theorem op_load {t : TypeId} {a : Operand} : opA call P e h (.load t a) = loadR P h t (evalA P e a) := by
  simp only [opA, aop, loadR]
  split <;> simp_all [toRet]
theorem loadR_ptr {t : TypeId} {l : Loc} : loadR P h t (.ptr (some l)) = toRet (withH h (loadA P h t l)) := rfl
def storeR (P : Program) (h : Heap) (t : TypeId) (x v : AV) : Option CRes := match x with | .ptr (some l) => (match storeA P h t l v with | some h' => some (.ret (.tuple []) h') | none => none) | _ => none
theorem op_store {t : TypeId} {a x : Operand} : opA call P e h (.store t a x) = storeR P h t (evalA P e a) (evalA P e x) := by
  simp only [opA, aop, storeR]
  cases evalA P e a with
  | ptr l =>
    cases l with
    | none => rfl
    | some l =>
      simp only []
      cases storeA P h t l (evalA P e x) <;> rfl
  | _ => rfl
theorem storeR_ptr {t : TypeId} {l : Loc} {v : AV} {h' : Heap} (hs : storeA P h t l v = some h') : storeR P h t (.ptr (some l)) v = some (.ret (.tuple []) h') := by simp only [storeR, hs]
theorem op_nilCheck {x : Operand} : opA call P e h (.nilCheck x) = toRet (withH h (nilCheckA (evalA P e x))) := rfl
theorem op_binOp {o : BinOp} {t yt : TypeId} {x y : Operand} : opA call P e h (.binOp o t x y yt) = toRet (withH h (binA P h o t x y (evalA P e x) (evalA P e y))) := rfl
theorem op_unOp {o : UnOp} {t : TypeId} {x : Operand} : opA call P e h (.unOp o t x) = toRet (withH h (unA o (evalA P e x))) := rfl
theorem op_convert {s d : TypeId} {x : Operand} : opA call P e h (.convert s d x) = toRet (convA P h s d (evalA P e x)) := rfl
theorem op_makeInterface {t : TypeId} {x : Operand} : opA call P e h (.makeInterface t x) = toRet (withH h (makeInterfaceA P t (evalA P e x))) := rfl
theorem op_makeFunc {fn : Fn} {a b : Array Operand} : opA call P e h (.makeFunc fn a b) = some (.ret (.func fn (evals P e a.toList) (evals P e b.toList)) h) := rfl
theorem op_makeSlice {t : TypeId} {l c : Operand} : opA call P e h (.makeSlice t l c) = toRet (makeSliceA P h t (evalA P e l) (evalA P e c)) := rfl
theorem op_slice {t : TypeId} {x : Operand} {lo hi mx : Option Operand} : opA call P e h (.slice t x lo hi mx) = toRet (withH h (match sliceA P t (evalA P e x) (evalO P e lo) (evalO P e hi) (evalO P e mx) with | some r => some r | none => sliceUp P h t (evalA P e x) (evalO P e lo) (evalO P e hi) (evalO P e mx))) := rfl
theorem op_fieldAddr {s : TypeId} {x : Operand} {f : Nat} : opA call P e h (.fieldAddr s x f) = toRet (withH h (fieldAddrA P s (evalA P e x) f)) := rfl
theorem op_field {s : TypeId} {x : Operand} {f : Nat} : opA call P e h (.field s x f) = toRet (withH h (fieldA P s (evalA P e x) f)) := rfl
theorem op_indexAddr {t : TypeId} {x i : Operand} : opA call P e h (.indexAddr t x i) = toRet (withH h (indexAddrA P t (evalA P e x) (evalA P e i))) := rfl
theorem op_index {t : TypeId} {x i : Operand} : opA call P e h (.index t x i) = toRet (withH h (indexA P t (evalA P e x) (evalA P e i))) := rfl
theorem op_typeAssert {x : Operand} {t a : TypeId} {ok : Bool} : opA call P e h (.typeAssert x t a ok) = toRet (withH h (typeAssertA P (evalA P e x) a ok)) := rfl
theorem op_extract {x : Operand} {i : Nat} : opA call P e h (.extract x i) = toRet (withH h (extractA (evalA P e x) i)) := rfl
theorem op_builtin {b : Builtin} {xs : Array Operand} {ats : Array TypeId} : opA call P e h (.call ⟨.builtin b, xs, ats⟩) = biA P h b ats.toList (evals P e xs.toList) := rfl
theorem bi_len {t : TypeId} {x : AV} : biA P h .len [t] [x] = toRet (withH h (lenA P h t x)) := rfl
/-- What an append comes to; a number stands for so many zeros. -/
def appA (P : Program) (h : Heap) (t u : TypeId) (s x : AV) : Option (AV × Heap) := match appendA P h t u s x with | some r => some r | none => appendZA P h t u s x
theorem appA_of {t u : TypeId} {s x : AV} {r : AV × Heap} (ha : appendA P h t u s x = some r) : appA P h t u s x = some r := by simp only [appA, ha]
theorem bi_append {t u : TypeId} {s x : AV} : biA P h .append [t, u] [s, x] = toRet (appA P h t u s x) := rfl
theorem bi_copy {t u : TypeId} {d s : AV} : biA P h .copy [t, u] [d, s] = toRet (copyA P h t d s) := rfl
theorem bi_max2 {t u : TypeId} {x y : AV} : biA P h .max [t, u] [x, y] = toRet (withH h (maxA x [y])) := rfl
theorem bi_min2 {t u : TypeId} {x y : AV} : biA P h .min [t, u] [x, y] = toRet (withH h (minA x [y])) := rfl
theorem maxA_two {k k' : IntKind} {x y : Int} : maxA (.int k x) [.int k' y] = some (.int k (if y > x then y else x)) := rfl
theorem minA_two {k k' : IntKind} {x y : Int} : minA (.int k x) [.int k' y] = some (.int k (if y < x then y else x)) := rfl
def valR (call : CallF) (P : Program) (h : Heap) (f : AV) (args : List AV) : Option CRes := match f with | .func (.func g) first captured => (bif Nat.blt g P.funcs.size then callA call P h g ((first ++ args) ++ captured) else none) | .yield k => callA call P h (P.funcs.size + k) args | _ => none
theorem op_callv {f : Operand} {xs : Array Operand} {ats : Array TypeId} : opA call P e h (.call ⟨.value f, xs, ats⟩) = valR call P h (evalA P e f) (evals P e xs.toList) := by
  simp only [opA, valR]
  cases evalA P e f with
  | func g a b => cases g <;> rfl
  | _ => rfl
theorem valR_func {g : FuncId} {a b args : List AV} (hg : Nat.blt g P.funcs.size = true) : valR call P h (.func (.func g) a b) args = callA call P h g ((a ++ args) ++ b) := by simp only [valR, hg, cond_true]
theorem callA_of {f : FuncId} {fn : Func} {c : Code} {args : List AV} (_hf : P.funcs[f]? = some fn) (_hb : fn.body = some c) : callA call P h f args = call f args h := rfl
theorem callA_eq {f : FuncId} {args : List AV} : callA call P h f args = call f args h := rfl
theorem evals_nil : evals P e [] = [] := rfl
theorem evals_cons {x : Operand} {xs : List Operand} : evals P e (x :: xs) = evalA P e x :: evals P e xs := rfl
theorem parts_nil : evalParts P e [] = [] := rfl
theorem parts_cons {i : Nat} {x : Operand} {xs : List (Nat × Operand)} : evalParts P e ((i, x) :: xs) = (i, evalA P e x) :: evalParts P e xs := rfl
theorem evalO_none : evalO P e none = none := rfl
theorem evalO_some {x : Operand} : evalO P e (some x) = some (evalA P e x) := rfl

theorem withH_ret {v : AV} : withH h (some v) = some (v, h) := rfl
theorem toRet_ret {v : AV} {h' : Heap} : toRet (some (v, h')) = some (.ret v h') := rfl
theorem toRet_withH {v : AV} : toRet (withH h (some v)) = some (.ret v h) := rfl

theorem bin_add {t : TypeId} {xo yo : Operand} {k : IntKind} {a b : Int} : binA P h .add t xo yo (.int k a) (.int k b) = some (.int k (k.wrap (a + b))) := by simp [binA, intA]
theorem bin_sub {t : TypeId} {xo yo : Operand} {k : IntKind} {a b : Int} : binA P h .sub t xo yo (.int k a) (.int k b) = some (.int k (k.wrap (a - b))) := by simp [binA, intA]
theorem bin_mul {t : TypeId} {xo yo : Operand} {k : IntKind} {a b : Int} : binA P h .mul t xo yo (.int k a) (.int k b) = some (.int k (k.wrap (a * b))) := by simp [binA, intA]
theorem bin_eql {t : TypeId} {xo yo : Operand} {k : IntKind} {a b : Int} : binA P h .eql t xo yo (.int k a) (.int k b) = some (.bool (a == b)) := by simp [binA, intA]
theorem bin_neq {t : TypeId} {xo yo : Operand} {k : IntKind} {a b : Int} : binA P h .neq t xo yo (.int k a) (.int k b) = some (.bool (a != b)) := by simp [binA, intA]
theorem bin_lss {t : TypeId} {xo yo : Operand} {k : IntKind} {a b : Int} : binA P h .lss t xo yo (.int k a) (.int k b) = some (.bool (decide (a < b))) := by simp [binA, intA]
theorem bin_leq {t : TypeId} {xo yo : Operand} {k : IntKind} {a b : Int} : binA P h .leq t xo yo (.int k a) (.int k b) = some (.bool (decide (a ≤ b))) := by simp [binA, intA]
theorem bin_gtr {t : TypeId} {xo yo : Operand} {k : IntKind} {a b : Int} : binA P h .gtr t xo yo (.int k a) (.int k b) = some (.bool (decide (b < a))) := by simp [binA, intA]
theorem bin_geq {t : TypeId} {xo yo : Operand} {k : IntKind} {a b : Int} : binA P h .geq t xo yo (.int k a) (.int k b) = some (.bool (decide (b ≤ a))) := by simp [binA, intA]
theorem bin_rem {t : TypeId} {xo yo : Operand} {k : IntKind} {a b : Int} (hb : b ≠ 0) : binA P h .rem t xo yo (.int k a) (.int k b) = some (.int k (a.tmod b)) := by simp [binA, intA, hb]
theorem bin_quo {t : TypeId} {xo yo : Operand} {k : IntKind} {a b : Int} (hb : b ≠ 0) : binA P h .quo t xo yo (.int k a) (.int k b) = some (.int k (k.wrap (a.tdiv b))) := by simp [binA, intA, hb]
theorem bin_beq {t : TypeId} {xo yo : Operand} {a b : Bool} (hu : P.underlying t = some .bool) : binA P h .eql t xo yo (.bool a) (.bool b) = some (.bool (a == b)) := by simp [binA, eqA, hu]
theorem bin_bne {t : TypeId} {xo yo : Operand} {a b : Bool} (hu : P.underlying t = some .bool) : binA P h .neq t xo yo (.bool a) (.bool b) = some (.bool (a != b)) := by cases a <;> cases b <;> simp [binA, eqA, hu]
theorem bin_slnil {t el : TypeId} {xo yo : Operand} {l : Option Loc} {n m : Nat} {c d : Cap} (hu : P.underlying t = some (.slice el)) : binA P h .eql t xo yo (.slice l n c) (.slice none m d) = some (.bool l.isNone) := by
  cases l <;> simp [binA, eqA, hu]
theorem bin_slnil' {t el : TypeId} {xo yo : Operand} {l : Option Loc} {n m : Nat} {c d : Cap} (hu : P.underlying t = some (.slice el)) : binA P h .neq t xo yo (.slice l n c) (.slice none m d) = some (.bool (!l.isNone)) := by
  cases l <;> simp [binA, eqA, hu]
theorem bin_ptnil {t el : TypeId} {xo yo : Operand} {l : Option Loc} (hu : P.underlying t = some (.pointer el)) : binA P h .eql t xo yo (.ptr l) (.ptr none) = some (.bool l.isNone) := by
  cases l <;> simp [binA, eqA, hu]
theorem bin_ptnil' {t el : TypeId} {xo yo : Operand} {l : Option Loc} (hu : P.underlying t = some (.pointer el)) : binA P h .neq t xo yo (.ptr l) (.ptr none) = some (.bool (!l.isNone)) := by
  cases l <;> simp [binA, eqA, hu]
theorem un_not {b : Bool} : unA .not (.bool b) = some (.bool !b) := rfl

theorem nilCheck_ptr {l : Loc} : nilCheckA (.ptr (some l)) = some (.ptr (some l)) := rfl
theorem nilCheck_iface {t : TypeId} {v : AV} : nilCheckA (.iface t v) = some (.iface t v) := rfl
theorem nilCheck_func {f : FuncId} {a b : List AV} : nilCheckA (.func (.func f) a b) = some (.func (.func f) a b) := rfl
theorem lenA_slice {t el : TypeId} {l : Option Loc} {n : Nat} {c : Cap} (hu : P.underlying t = some (.slice el)) : lenA P h t (.slice l n c) = some (.int .i64 n) := by simp [lenA, hu]
theorem lenA_str {t : TypeId} {s : List UInt8} (hu : P.underlying t = some .string) : lenA P h t (.str s) = some (.int .i64 s.length) := by simp [lenA, hu]

theorem field_at {s ft : TypeId} {f : Nat} {l : Loc} {n : Nat} {fs : Array Field} {fl : Field} (hu : P.underlying s = some (.struct fs)) (hf : fs[f]? = some fl) (ht : fl.type = ft) (hs : sizeA P ft = some (n + 1)) : fieldAddrA P s (.ptr (some l)) f = some (.ptr (some ⟨l.id, l.off + fl.offset⟩)) := by
  subst ht
  simp [fieldAddrA, hu, hf, hs]
theorem index_at {t el : TypeId} {l : Loc} {n s : Nat} {c : Cap} {k : IntKind} {i : Nat} (hu : P.underlying t = some (.slice el)) (hs : sizeA P el = some s) (hi : i < n) : indexAddrA P t (.slice (some l) n c) (.int k (i : Int)) = some (.ptr (some ⟨l.id, l.off + i * s⟩)) := by
  have : (0 : Int) ≤ i ∧ (i : Int) < n := by omega
  simp only [indexAddrA, hu, hs, if_pos this, Int.toNat_natCast]
theorem load_cell {t : TypeId} {i o : Nat} {cs : List AV} {k : Kind} {v : AV} (ha : aggA P t = some false) (hg : h.get i = some (.cells cs k)) (hv : cs[o]? = some v) : loadA P h t ⟨i, o⟩ = some v := by
  have hlt := (List.getElem?_eq_some_iff.1 hv).1
  have hv2 := (List.getElem?_eq_some_iff.1 hv).2
  simp only [loadA, ha, readA, hg]
  rw [(ble_iff _ _).2 (by omega)]
  simp only [cond_true]
  rw [List.drop_eq_getElem_cons hlt, List.take_succ_cons, hv2]
  simp
theorem load_agg {t : TypeId} {i o n : Nat} {cs : List AV} {k : Kind} (ha : aggA P t = some true) (hs : sizeA P t = some n) (hg : h.get i = some (.cells cs k)) (hle : o + n ≤ cs.length) : loadA P h t ⟨i, o⟩ = some (.agg ((cs.drop o).take n)) := by
  simp only [loadA, ha, hs, readA, hg]
  rw [(ble_iff _ _).2 hle]
  rfl
theorem store_cell {t : TypeId} {i o : Nat} {cs : List AV} {k : Kind} {v : AV} (hs : sizeA P t = some 1) (hc : cellsA v = some [v]) (hok : cellOk v = true) (hg : h.get i = some (.cells cs k)) (hk : k ≠ .ro) (ho : o < cs.length) : storeA P h t ⟨i, o⟩ v = some (h.set i (.cells (cs.set o v) k)) := by
  have hov : over cs o [v] = cs.set o v := by
    rw [over_cons _ _ _ _ (by simp; omega), over_nil]
  have hb : (cellsOk [v] && Nat.ble (o + 1) cs.length) = true := by
    rw [Bool.and_eq_true, ble_iff]
    exact ⟨by simp [cellsOk, hok], by omega⟩
  simp only [storeA, hs, hc, List.length_singleton, beq1, decide_true, cond_true, writeA, hg]
  cases k with
  | ro => exact absurd rfl hk
  | own => simp only [hb, cond_true, hov]
  | var => simp only [hb, cond_true, hov]
  | str => simp only [hb, cond_true, hov]

theorem wrap_small {x : Int} (h1 : -9223372036854775808 ≤ x) (h2 : x ≤ 9223372036854775807) : IntKind.wrap .i64 x = x := by
  rw [IntKind.wrap_i64]; omega
end
end Go.Am

noncomputable section
namespace Go.Am
open Go.RowKit

section
variable {ov : CallF} {P : Program}

abbrev Post := Out → List AV → Heap → Prop

def WP (ov : CallF) (P : Program) (c : Code) (e : List AV) (h : Heap) (K : Post) : Prop := ∃ o e' h', Runs ov P c e h (o, e', h') ∧ K o e' h'

/-- A region's outcome. -/
def W (K : Post) : Option (Out × List AV × Heap) → Prop
  | some (o, e, h) => K o e h
  | none => False
theorem W_none {K : Post} : W K none = False := rfl
theorem W_some {K : Post} {o : Out} {e : List AV} {h : Heap} : W K (some (o, e, h)) = K o e h := rfl

def seqK (ov : CallF) (P : Program) (b : Code) (K : Post) : Post
  | .normal, e, h => WP ov P b e h K
  | o, e, h => K o e h
def blockK (id : Nat) (K : Post) : Post
  | .exit i, e, h => bif Nat.beq i id then K .normal e h else K (.exit i) e h
  | o, e, h => K o e h
/-- What a loop's round may come to: out, or once more. -/
def loopK (I : List AV → Heap → Prop) (K : Post) : Post
  | .normal, e, h => I e h
  | o, e, h => K o e h

theorem WP.mono {c : Code} {e : List AV} {h : Heap} {K K' : Post} (hw : WP ov P c e h K) (hk : ∀ o e h, K o e h → K' o e h) : WP ov P c e h K' := by
  obtain ⟨o, e', h', h1, h2⟩ := hw
  exact ⟨o, e', h', h1, hk _ _ _ h2⟩
theorem WP.skip {e : List AV} {h : Heap} {K : Post} (hk : K .normal e h) : WP ov P .skip e h K := ⟨_, _, _, Runs.skip, hk⟩
theorem WP.label {l : Nat} {e : List AV} {h : Heap} {K : Post} (hk : K .normal e h) : WP ov P (.label l) e h K := ⟨_, _, _, Runs.label, hk⟩
theorem WP.exit {l : Nat} {e : List AV} {h : Heap} {K : Post} (hk : K (.exit l) e h) : WP ov P (.exit l) e h K := ⟨_, _, _, Runs.exit, hk⟩
theorem WP.ret {e : List AV} {h : Heap} {K : Post} (hk : K .ret e h) : WP ov P .ret e h K := ⟨_, _, _, Runs.ret, hk⟩
theorem WP.region {id : Nat} {ops : Array Oper} {e : List AV} {h : Heap} {K : Post} (hw : W K (opsA (callT ov P) P ops ops.toList e h)) : WP ov P (.region id ops false) e h K := by
  generalize hr : opsA (callT ov P) P ops ops.toList e h = r at hw
  match r, hw with
  | some (o, e', h'), hw => exact ⟨o, e', h', Runs.region hr, hw⟩
theorem WP.seq {a b : Code} {e : List AV} {h : Heap} {K : Post} (hw : WP ov P a e h (seqK ov P b K)) : WP ov P (.seq a b) e h K := by
  obtain ⟨o, e', h', h1, h2⟩ := hw
  cases o with
  | normal =>
    obtain ⟨o2, e2, h2', h3, h4⟩ := h2
    exact ⟨o2, e2, h2', Runs.seq h1 h3, h4⟩
  | exit i => exact ⟨_, _, _, Runs.seq_out h1 (by simp), h2⟩
  | ret => exact ⟨_, _, _, Runs.seq_out h1 (by simp), h2⟩
  | pan v => exact ⟨_, _, _, Runs.seq_out h1 (by simp), h2⟩
theorem WP.cond {c : Operand} {a b : Code} {e : List AV} {h : Heap} {K : Post} {t : Bool} (hc : evalA P e c = .bool t) (h1 : t = true → WP ov P a e h K) (h2 : t = false → WP ov P b e h K) : WP ov P (.cond c a b) e h K := by
  cases t with
  | true => obtain ⟨o, e', h', h3, h4⟩ := h1 rfl; exact ⟨o, e', h', Runs.cond_true hc h3, h4⟩
  | false => obtain ⟨o, e', h', h3, h4⟩ := h2 rfl; exact ⟨o, e', h', Runs.cond_false hc h3, h4⟩
theorem WP.block {id : Nat} {b : Code} {e : List AV} {h : Heap} {K : Post} (hw : WP ov P b e h (blockK id K)) : WP ov P (.block id b) e h K := by
  obtain ⟨o, e', h', h1, h2⟩ := hw
  cases o with
  | exit i =>
    by_cases hi : i = id
    · subst hi
      simp only [blockK, beq1, decide_true, _root_.cond_true] at h2
      exact ⟨_, _, _, Runs.block_exit h1, h2⟩
    · simp only [blockK, beq1, hi, decide_false, _root_.cond_false] at h2
      exact ⟨_, _, _, Runs.block h1 (by simpa using hi), h2⟩
  | normal => exact ⟨_, _, _, Runs.block h1 (by simp), h2⟩
  | ret => exact ⟨_, _, _, Runs.block h1 (by simp), h2⟩
  | pan v => exact ⟨_, _, _, Runs.block h1 (by simp), h2⟩
/-- A loop by an invariant that counts down. -/
theorem WP.loop {b : Code} {K : Post} (I : Nat → List AV → Heap → Prop) (step : ∀ n e h, I n e h → WP ov P b e h (loopK (fun e h => ∃ m, m < n ∧ I m e h) K)) : ∀ (n : Nat) (e : List AV) (h : Heap), I n e h → WP ov P (.loop b) e h K := by
  intro n
  induction n using Nat.strongRecOn with
  | ind n ih =>
    intro e h hI
    obtain ⟨o, e', h', h1, h2⟩ := step n e h hI
    cases o with
    | normal =>
      obtain ⟨m, hm, hI'⟩ := h2
      obtain ⟨o2, e2, h2', h3, h4⟩ := ih m hm e' h' hI'
      exact ⟨o2, e2, h2', Runs.loop h1 h3, h4⟩
    | exit i => exact ⟨_, _, _, Runs.loop_out h1 (by simp), h2⟩
    | ret => exact ⟨_, _, _, Runs.loop_out h1 (by simp), h2⟩
    | pan v => exact ⟨_, _, _, Runs.loop_out h1 (by simp), h2⟩

theorem seqK_normal {b : Code} {K : Post} {e : List AV} {h : Heap} : seqK ov P b K .normal e h = WP ov P b e h K := rfl
theorem seqK_exit {b : Code} {K : Post} {e : List AV} {h : Heap} {i : Nat} : seqK ov P b K (.exit i) e h = K (.exit i) e h := rfl
theorem seqK_ret {b : Code} {K : Post} {e : List AV} {h : Heap} : seqK ov P b K .ret e h = K .ret e h := rfl
theorem blockK_same {id : Nat} {K : Post} {e : List AV} {h : Heap} : blockK id K (.exit id) e h = K .normal e h := by
  simp only [blockK, beq1, decide_true, _root_.cond_true]
theorem blockK_ne {id i : Nat} (hn : i ≠ id) {K : Post} {e : List AV} {h : Heap} : blockK id K (.exit i) e h = K (.exit i) e h := by
  simp only [blockK, beq1, hn, decide_false, _root_.cond_false]
theorem blockK_normal {id : Nat} {K : Post} {e : List AV} {h : Heap} : blockK id K .normal e h = K .normal e h := rfl
theorem blockK_ret {id : Nat} {K : Post} {e : List AV} {h : Heap} : blockK id K .ret e h = K .ret e h := rfl
theorem loopK_normal {I : List AV → Heap → Prop} {K : Post} {e : List AV} {h : Heap} : loopK I K .normal e h = I e h := rfl
theorem loopK_exit {I : List AV → Heap → Prop} {K : Post} {e : List AV} {h : Heap} {i : Nat} : loopK I K (.exit i) e h = K (.exit i) e h := rfl
theorem loopK_ret {I : List AV → Heap → Prop} {K : Post} {e : List AV} {h : Heap} : loopK I K .ret e h = K .ret e h := rfl

@[congr] theorem W_congr {K : Post} {x y : Option (Out × List AV × Heap)} (h : x = y) : W K x = W K y := by rw [h]
@[congr] theorem WP_congr {c : Code} {K : Post} {e e' : List AV} {h h' : Heap} (he : e = e') (hh : h = h') : WP ov P c e h K = WP ov P c e' h' K := by rw [he, hh]
@[congr] theorem seqK_congr {b : Code} {K : Post} {o o' : Out} {e e' : List AV} {h h' : Heap} (ho : o = o') (he : e = e') (hh : h = h') : seqK ov P b K o e h = seqK ov P b K o' e' h' := by rw [ho, he, hh]
@[congr] theorem blockK_congr {id : Nat} {K : Post} {o o' : Out} {e e' : List AV} {h h' : Heap} (ho : o = o') (he : e = e') (hh : h = h') : blockK id K o e h = blockK id K o' e' h' := by rw [ho, he, hh]
@[congr] theorem loopK_congr {I : List AV → Heap → Prop} {K : Post} {o o' : Out} {e e' : List AV} {h h' : Heap} (ho : o = o') (he : e = e') (hh : h = h') : loopK I K o e h = loopK I K o' e' h' := by rw [ho, he, hh]

/-- A region that draws its order and needs no look at what it does. -/
theorem WP.draw {id : Nat} {ops : Array Oper} {e : List AV} {h : Heap} {K : Post} (hs : drawStatic P ops (masks ops.toList []) = true) (hn : needNot P (masks ops.toList []) (louds P ops.toList 0) ops.toList 0 = true)
    (hw : W (fun o e h => o = .normal ∧ K .normal e h) (opsA (callT ov P) P ops ops.toList e h)) : WP ov P (.region id ops true) e h K := by
  generalize hr : opsA (callT ov P) P ops ops.toList e h = r at hw
  match r, hw with
  | some (o, e', h'), hw =>
    obtain ⟨rfl, hk⟩ := hw
    refine ⟨.normal, e', h', Runs.draw ?_, hk⟩
    simp only [drawA, hs, cond_true, hr, hn, Bool.true_or]
theorem WP.drawDyn {id : Nat} {ops : Array Oper} {e : List AV} {h : Heap} {K : Post} (hs : drawStatic P ops (masks ops.toList []) = true) (hn : dynOk (callT ov P) P ops e h = true)
    (hw : W (fun o e h => o = .normal ∧ K .normal e h) (opsA (callT ov P) P ops ops.toList e h)) : WP ov P (.region id ops true) e h K := by
  generalize hr : opsA (callT ov P) P ops ops.toList e h = r at hw
  match r, hw with
  | some (o, e', h'), hw =>
    obtain ⟨rfl, hk⟩ := hw
    refine ⟨.normal, e', h', Runs.draw ?_, hk⟩
    simp only [drawA, hs, cond_true, hr, hn, Bool.or_true]

/-- A function's call. -/
theorem callT_wp {f : FuncId} {fn : Func} {c : Code} {a : List AV} {h : Heap} {Q : AV → Heap → Prop} (hov : ov f a h = none) (hf : P.funcs[f]? = some fn) (hb : fn.body = some c)
    (hw : WP ov P c (frameA fn a) h (fun o e h' => (o = .normal ∨ o = .ret) ∧ ∃ vs, resultsA P e h' fn.results.toList = some vs ∧ Q (single vs) h')) : ∃ v h', callT ov P f a h = some (.ret v h') ∧ Q v h' := by
  obtain ⟨o, e, h', h1, ho, vs, hv, hq⟩ := hw
  exact ⟨_, _, callT_ret hov hf hb h1 ho hv, hq⟩

/-! ### Frames by what they hold -/

theorem nth_set_eq : ∀ {e : List AV} {i : Nat} {v : AV}, i < e.length → nth (e.set i v) i = v
  | _ :: _, 0, _, _ => rfl
  | _ :: e, i + 1, v, h => by simp only [List.set_cons_succ, nth]; exact nth_set_eq (by simpa using h)
theorem nth_set_ne : ∀ {e : List AV} {i j : Nat} {v : AV}, i ≠ j → nth (e.set i v) j = nth e j
  | [], _, _, _, _ => rfl
  | _ :: _, 0, 0, _, h => absurd rfl h
  | _ :: _, 0, _ + 1, _, _ => rfl
  | _ :: _, _ + 1, 0, _, _ => rfl
  | _ :: e, i + 1, j + 1, v, h => by simp only [List.set_cons_succ, nth]; exact nth_set_ne (by omega)

/-! ### Memory by what it holds -/

def Wf (h : Heap) : Prop := ∀ i o, h.get i = some o → i < h.next
theorem Wf.set {h : Heap} (hw : Wf h) {i : Nat} (o : Obj) (hi : i < h.next) : Wf (h.set i o) := by
  intro j o' hj
  rw [Heap.next_set]
  by_cases hij : i = j
  · omega
  · rw [Heap.get_set_ne _ _ hij] at hj; exact hw _ _ hj
theorem Wf.alloc {h : Heap} (hw : Wf h) (o : Obj) : Wf (h.alloc o) := by
  intro j o' hj
  rw [Heap.next_alloc]
  by_cases hij : h.next = j
  · omega
  · rw [Heap.get_alloc_ne _ _ hij] at hj; have := hw _ _ hj; omega
theorem Wf.del {h : Heap} (hw : Wf h) (i : Nat) : Wf (h.del i) := by
  intro j o' hj
  rw [Heap.next_del]
  by_cases hij : i = j
  · subst hij; rw [Heap.get_del] at hj; cases hj
  · rw [Heap.get_del_ne _ hij] at hj; exact hw _ _ hj
theorem Wf.none {h : Heap} (hw : Wf h) {i : Nat} (hi : h.next ≤ i) : h.get i = none := by
  cases hg : h.get i with
  | none => rfl
  | some o => have := hw _ _ hg; omega

/-- Behind h0 all that was there is still there, but for some. -/
structure Keep (ex : List Nat) (h0 h : Heap) : Prop where
  wf0 : Wf h0
  wf : Wf h
  le : h0.next ≤ h.next
  get : ∀ i o, h0.get i = some o → i ∉ ex → h.get i = some o
theorem Keep.refl {ex : List Nat} {h : Heap} (hw : Wf h) : Keep ex h h := ⟨hw, hw, Nat.le_refl _, fun _ _ h _ => h⟩
theorem Keep.trans {ex : List Nat} {a b c : Heap} (h : Keep ex a b) (h' : Keep ex b c) : Keep ex a c := ⟨h.wf0, h'.wf, Nat.le_trans h.le h'.le, fun i o hi hx => h'.get i o (h.get i o hi hx) hx⟩
theorem Keep.more {ex ex' : List Nat} {a b : Heap} (h : Keep ex a b) (hx : ∀ i, i ∈ ex → i ∈ ex' ∨ a.next ≤ i) : Keep ex' a b := ⟨h.wf0, h.wf, h.le, fun i o hi hn => h.get i o hi (fun hm => by
  rcases hx i hm with h1 | h1
  · exact hn h1
  · have := h.wf0 _ _ hi; omega)⟩
theorem Keep.alloc {ex : List Nat} {h0 h : Heap} (hk : Keep ex h0 h) (o : Obj) : Keep ex h0 (h.alloc o) :=
  ⟨hk.wf0, hk.wf.alloc o, by rw [Heap.next_alloc]; have := hk.le; omega, fun i o' hi hx => by
    have h1 := hk.get i o' hi hx
    have := hk.wf _ _ h1
    rw [Heap.get_alloc_ne _ _ (by omega)]; exact h1⟩
theorem Keep.set {ex : List Nat} {h0 h : Heap} (hk : Keep ex h0 h) {i : Nat} (o : Obj) (hi : i < h.next) (hx : i ∈ ex ∨ h0.next ≤ i) : Keep ex h0 (h.set i o) :=
  ⟨hk.wf0, hk.wf.set o hi, hk.le, fun j o' hj hn => by
    have h1 := hk.get j o' hj hn
    have h2 := hk.wf0 _ _ hj
    rw [Heap.get_set_ne _ _ (by rintro rfl; rcases hx with hx | hx; exact hn hx; omega)]; exact h1⟩
theorem Keep.del {ex : List Nat} {h0 h : Heap} (hk : Keep ex h0 h) {i : Nat} (hx : i ∈ ex ∨ h0.next ≤ i) : Keep ex h0 (h.del i) :=
  ⟨hk.wf0, hk.wf.del i, hk.le, fun j o' hj hn => by
    have h1 := hk.get j o' hj hn
    have h2 := hk.wf0 _ _ hj
    rw [Heap.get_del_ne _ (by rintro rfl; rcases hx with hx | hx; exact hn hx; omega)]; exact h1⟩

/-- What is said of a capacity fits the length. -/
def capOk (n : Nat) : Cap → Prop
  | .exact m => n ≤ m
  | .tip e => e = 1
  | .dim => True
/-- What a slice of one-cell elements shows. -/
def Sl (h : Heap) (v : AV) (xs : List AV) : Prop :=
  match v with
  | .slice none n _ => n = 0 ∧ xs = []
  | .slice (some l) n c => (xs.length = n ∧ capOk n c) ∧ (n = 0 ∨ ∃ cs k, h.get l.id = some (.cells cs k) ∧ l.off + n ≤ cs.length ∧ (cs.drop l.off).take n = xs)
  | _ => False
/-- Its block (none where it shows nothing). -/
def idOf : AV → Option Nat
  | .slice (some l) _ _ => some l.id
  | .ptr (some l) => some l.id
  | _ => none

theorem Sl.keep {ex : List Nat} {h0 h : Heap} (hk : Keep ex h0 h) {v : AV} {xs : List AV} (hs : Sl h0 v xs) (hx : ∀ i, idOf v = some i → i ∉ ex) : Sl h v xs := by
  match v, hs with
  | .slice none n _, hs => exact hs
  | .slice (some l) n _, hs =>
    obtain ⟨h1, h2⟩ := hs
    refine ⟨h1, h2.imp id ?_⟩
    rintro ⟨cs, k, h3, h4⟩
    exact ⟨cs, k, hk.get _ _ h3 (hx _ rfl), h4⟩
theorem Sl.keep' {ex : List Nat} {h0 h : Heap} (hk : Keep ex h0 h) {v : AV} {xs : List AV} (hs : Sl h0 v xs) (hx : xs ≠ [] → ∀ i, idOf v = some i → i ∉ ex) : Sl h v xs := by
  match v, hs with
  | .slice none n _, hs => exact hs
  | .slice (some l) n _, hs =>
    obtain ⟨h1, h2⟩ := hs
    refine ⟨h1, ?_⟩
    rcases h2 with h2 | ⟨cs, k, h3, h4⟩
    · exact .inl h2
    · by_cases hn : n = 0
      · exact .inl hn
      · refine .inr ⟨cs, k, hk.get _ _ h3 (hx ?_ _ rfl), h4⟩
        intro hh
        rw [hh] at h1
        exact hn h1.1.symm
theorem Sl.lt {h : Heap} (hw : Wf h) {v : AV} {xs : List AV} (hs : Sl h v xs) (hne : xs ≠ []) {i : Nat} (hi : idOf v = some i) : i < h.next := by
  match v, hs with
  | .slice (some l) n _, hs =>
    cases hi
    obtain ⟨h1, h2 | ⟨cs, k, h3, h4⟩⟩ := hs
    · exact absurd (List.length_eq_zero_iff.1 (h1.1.trans h2)) hne
    · exact hw _ _ h3
theorem Sl.slice {h : Heap} {v : AV} {xs : List AV} (hs : Sl h v xs) : ∃ l c, v = .slice l xs.length c := by
  match v, hs with
  | .slice none n c, hs => obtain ⟨rfl, rfl⟩ := hs; exact ⟨none, c, rfl⟩
  | .slice (some l) n c, hs => obtain ⟨⟨rfl, _⟩, _⟩ := hs; exact ⟨some l, c, rfl⟩
theorem Sl.len {h : Heap} {v : AV} {xs : List AV} (hs : Sl h v xs) {t el : TypeId} (hu : P.underlying t = some (.slice el)) : lenA P h t v = some (.int .i64 xs.length) := by
  obtain ⟨l, c, rfl⟩ := hs.slice
  exact lenA_slice hu
theorem Sl.at {h : Heap} {v : AV} {xs : List AV} (hs : Sl h v xs) {t el : TypeId} (hu : P.underlying t = some (.slice el)) (h1 : sizeA P el = some 1) (ha : aggA P el = some false) {i : Nat} {x : AV} (hx : xs[i]? = some x) {k : IntKind} :
    ∃ l, indexAddrA P t v (.int k (i : Int)) = some (.ptr (some l)) ∧ loadA P h el l = some x ∧ idOf v = some l.id := by
  have hlt := (List.getElem?_eq_some_iff.1 hx).1
  match v, hs with
  | .slice none n c, hs => obtain ⟨rfl, rfl⟩ := hs; simp at hx
  | .slice (some l) n c, hs =>
    obtain ⟨⟨rfl, _⟩, h0 | ⟨cs, k', hg, hle, hd⟩⟩ := hs
    · omega
    · refine ⟨_, index_at hu h1 hlt, ?_, rfl⟩
      refine load_cell ha hg ?_
      rw [← hd, List.getElem?_take_of_lt hlt, List.getElem?_drop] at hx
      simpa using hx
theorem Sl.src {h : Heap} {v : AV} {xs : List AV} (hs : Sl h v xs) {t el : TypeId} (hu : P.underlying t = some (.slice el)) (hok : cellsOk xs = true) : srcA P h 1 t v = some (xs.length, xs) := by
  match v, hs with
  | .slice none n c, hs => obtain ⟨rfl, rfl⟩ := hs; simp [srcA, hu]
  | .slice (some l) n c, hs =>
    obtain ⟨⟨rfl, _⟩, h0⟩ := hs
    cases hn : xs.length with
    | zero =>
      have : xs = [] := List.length_eq_zero_iff.1 hn
      simp [srcA, hu, this]
    | succ n =>
      rcases h0 with h0 | ⟨cs, k', hg, hle, hd⟩
      · omega
      · simp only [srcA, hu, readA, Nat.mul_one, hg]
        rw [hn] at hle hd
        rw [(ble_iff _ _).2 hle]
        simp only [cond_true, hd, hok]
end
attribute [irreducible] WP
end Go.Am

noncomputable section
namespace Go.Am
open Go.RowKit

section
variable {P : Program}

theorem flatten_length {s : Nat} : ∀ {rows : List (List AV)}, (∀ r ∈ rows, r.length = s) → rows.flatten.length = rows.length * s
  | [], _ => by simp
  | r :: rows, h => by
    have h1 := h r List.mem_cons_self
    have h2 := flatten_length (fun r hr => h r (List.mem_cons_of_mem _ hr))
    simp only [List.flatten_cons, List.length_append, List.length_cons, h1, h2, Nat.add_mul, Nat.one_mul]
    omega
theorem flatten_at {s : Nat} : ∀ {rows : List (List AV)}, (∀ r ∈ rows, r.length = s) → ∀ {i : Nat} {r : List AV}, rows[i]? = some r → (rows.flatten.drop (i * s)).take s = r
  | [], _, _, _, hr => by simp at hr
  | r :: rows, h, 0, r', hr => by
    simp only [List.getElem?_cons_zero, Option.some.injEq] at hr
    subst hr
    have h1 := h r List.mem_cons_self
    simp [← h1]
  | r :: rows, h, i + 1, r', hr => by
    have h1 := h r List.mem_cons_self
    have h2 := flatten_at (fun r hr => h r (List.mem_cons_of_mem _ hr)) (i := i) (r := r') (by simpa using hr)
    rw [List.flatten_cons, List.drop_append, List.drop_eq_nil_of_le (by rw [h1, Nat.add_mul]; omega), List.nil_append, h1]
    have h3 : (i + 1) * s - s = i * s := by rw [Nat.add_mul]; omega
    rw [h3]; exact h2

/-- What a slice shows, element by element. -/
def Slr (h : Heap) (s : Nat) (v : AV) (rows : List (List AV)) : Prop :=
  (∀ r ∈ rows, r.length = s) ∧ match v with
  | .slice none n _ => n = 0 ∧ rows = []
  | .slice (some l) n _ => rows.length = n ∧ (n = 0 ∨ ∃ cs k, h.get l.id = some (.cells cs k) ∧ l.off + n * s ≤ cs.length ∧ (cs.drop l.off).take (n * s) = rows.flatten)
  | _ => False
theorem Slr.keep' {ex : List Nat} {h0 h : Heap} (hk : Keep ex h0 h) {s : Nat} {v : AV} {rows : List (List AV)} (hs : Slr h0 s v rows) (hx : rows ≠ [] → ∀ i, idOf v = some i → i ∉ ex) : Slr h s v rows := by
  refine ⟨hs.1, ?_⟩
  have hs2 := hs.2
  match v, hs2 with
  | .slice none n _, hs2 => exact hs2
  | .slice (some l) n _, hs2 =>
    obtain ⟨h1, h2⟩ := hs2
    refine ⟨h1, ?_⟩
    by_cases hn : n = 0
    · exact .inl hn
    · rcases h2 with h2 | ⟨cs, k, h3, h4⟩
      · exact .inl h2
      · refine .inr ⟨cs, k, hk.get _ _ h3 (hx ?_ _ rfl), h4⟩
        intro hh
        rw [hh] at h1
        exact hn h1.symm
theorem Slr.lt {h : Heap} (hw : Wf h) {s : Nat} {v : AV} {rows : List (List AV)} (hs : Slr h s v rows) (hne : rows ≠ []) {i : Nat} (hi : idOf v = some i) : i < h.next := by
  have hs2 := hs.2
  match v, hs2 with
  | .slice (some l) n _, hs2 =>
    cases hi
    obtain ⟨h1, h2 | ⟨cs, k, h3, h4⟩⟩ := hs2
    · exact absurd (List.length_eq_zero_iff.1 (h1.trans h2)) hne
    · exact hw _ _ h3
theorem Slr.slice {h : Heap} {s : Nat} {v : AV} {rows : List (List AV)} (hs : Slr h s v rows) : ∃ l c, v = .slice l rows.length c := by
  have hs2 := hs.2
  match v, hs2 with
  | .slice none n c, hs2 => obtain ⟨rfl, rfl⟩ := hs2; exact ⟨none, c, rfl⟩
  | .slice (some l) n c, hs2 => obtain ⟨rfl, _⟩ := hs2; exact ⟨some l, c, rfl⟩
theorem Slr.len {h : Heap} {s : Nat} {v : AV} {rows : List (List AV)} (hs : Slr h s v rows) (h' : Heap) {t el : TypeId} (hu : P.underlying t = some (.slice el)) : lenA P h' t v = some (.int .i64 rows.length) := by
  obtain ⟨l, c, rfl⟩ := hs.slice
  exact lenA_slice hu
theorem Slr.at {h : Heap} {s : Nat} {v : AV} {rows : List (List AV)} (hs : Slr h s v rows) {t el : TypeId} (hu : P.underlying t = some (.slice el)) (h1 : sizeA P el = some s) (ha : aggA P el = some true) {i : Nat} {r : List AV} (hx : rows[i]? = some r) {k : IntKind} :
    ∃ l, indexAddrA P t v (.int k (i : Int)) = some (.ptr (some l)) ∧ loadA P h el l = some (.agg r) ∧ idOf v = some l.id := by
  have hlt := (List.getElem?_eq_some_iff.1 hx).1
  have hfl := flatten_length hs.1
  have hat := flatten_at hs.1 hx
  have hs2 := hs.2
  match v, hs2 with
  | .slice none n c, hs2 => obtain ⟨rfl, rfl⟩ := hs2; simp at hx
  | .slice (some l) n c, hs2 =>
    obtain ⟨rfl, h0 | ⟨cs, k', hg, hle, hd⟩⟩ := hs2
    · omega
    · have hb : (i + 1) * s ≤ rows.length * s := Nat.mul_le_mul_right _ hlt
      rw [Nat.add_mul, Nat.one_mul] at hb
      refine ⟨_, index_at hu h1 hlt, ?_, rfl⟩
      rw [load_agg ha h1 hg (by omega)]
      congr 2
      rw [← hat, ← hd, List.drop_take, List.take_take, List.drop_drop]
      congr 1
      omega
theorem Slr.src {h : Heap} {s : Nat} {v : AV} {rows : List (List AV)} (hs : Slr h s v rows) {t el : TypeId} (hu : P.underlying t = some (.slice el)) (hok : cellsOk rows.flatten = true) : srcA P h s t v = some (rows.length, rows.flatten) := by
  have hs2 := hs.2
  match v, hs2 with
  | .slice none n c, hs2 => obtain ⟨rfl, rfl⟩ := hs2; simp [srcA, hu]
  | .slice (some l) n c, hs2 =>
    obtain ⟨rfl, h0⟩ := hs2
    cases hn : rows.length with
    | zero =>
      have : rows = [] := List.length_eq_zero_iff.1 hn
      simp [srcA, hu, this]
    | succ n =>
      rcases h0 with h0 | ⟨cs, k', hg, hle, hd⟩
      · omega
      · simp only [srcA, hu, readA, hg]
        rw [hn] at hle hd
        rw [(ble_iff _ _).2 hle]
        simp only [cond_true, hd, hok]

/-- A literal without elements, and all of a slice appended to it. -/
theorem Slr.clone {h : Heap} (hw : Wf h) {s : Nat} {k : Kind} {t el : TypeId} (hu : P.underlying t = some (.slice el)) (h1 : sizeA P el = some s) (hs0 : 0 < s) {news : List (List AV)} {y : AV} (hy : Slr h s y news) (hok : cellsOk news.flatten = true) (hroom : news ≠ [] → roomA P el news.length = true) :
    ∃ v' h', appendA P (h.alloc (.cells [] k)) t t (.slice (some ⟨h.next, 0⟩) 0 (.exact 0)) y = some (v', h') ∧ Slr h' s v' news ∧ Keep [] h h' := by
  have hk := (Keep.refl (ex := []) hw).alloc (.cells [] k)
  have hy' : Slr (h.alloc (.cells [] k)) s y news := hy.keep' hk (by simp)
  have hsrc := hy'.src (P := P) hu hok
  cases hn2 : news.length with
  | zero =>
    have : news = [] := List.length_eq_zero_iff.1 hn2
    subst this
    refine ⟨.slice (some ⟨h.next, 0⟩) 0 (.exact 0), _, ?_, ⟨by simp, ?_⟩, hk⟩
    · simp only [appendA, hu, h1, hsrc, List.length_nil, appendCore]
    · exact ⟨rfl, .inl rfl⟩
  | succ m =>
    rw [hn2] at hsrc hroom
    have hne : news ≠ [] := by intro hh; simp [hh] at hn2
    have hroom := hroom hne
    have hg : (h.alloc (.cells [] k)).get h.next = some (.cells [] k) := Heap.get_alloc _ _
    have hb : Nat.ble (0 + (m + 1)) 0 = false := by simp [Nat.ble]
    have hrd : readA (h.alloc (.cells [] k)) ⟨h.next, 0⟩ (0 * s) = some [] := by
      simp only [readA, hg, Nat.zero_mul, List.length_nil]; rfl
    refine ⟨.slice (some ⟨h.next + 1, 0⟩) (0 + (m + 1)) (.tip s), (h.alloc (.cells [] k)).alloc (.cells news.flatten (.own (some el))), ?_, ⟨hy.1, ?_⟩, hk.alloc _⟩
    · simp only [Nat.zero_add] at hroom hb ⊢
      simp only [appendA, hu, h1, hsrc, appendCore, Nat.zero_add, hroom, cond_true, hb, cond_false, hrd, List.nil_append, Heap.next_alloc]
    · have hfl := flatten_length hy.1
      refine ⟨by simp [hn2], .inr ⟨_, .own (some el), Heap.get_alloc _ _, ?_, ?_⟩⟩
      · rw [hfl, hn2]; show 0 + (0 + (m + 1)) * s ≤ (m + 1) * s; rw [Nat.zero_add, Nat.zero_add]; exact Nat.le_refl _
      · rw [List.drop_zero, Nat.zero_add, ← hn2, ← hfl, List.take_length]
end
end Go.Am

noncomputable section
namespace Go.Am
open Go.RowKit

section
variable {P : Program}

/-- What is appended to, from nothing on, in blocks of the call's own. -/
def Acc (n0 : Nat) (el : TypeId) (h : Heap) (v : AV) (xs : List AV) : Prop :=
  (xs = [] ∧ ∃ l, v = .slice l 0 (.exact 0) ∧ ∀ x, l = some x → n0 ≤ x.id ∧ x.off = 0 ∧ ∃ cs k, h.get x.id = some (.cells cs k)) ∨ (∃ i, n0 ≤ i ∧ xs ≠ [] ∧ v = .slice (some ⟨i, 0⟩) xs.length (.tip 1) ∧ h.get i = some (.cells xs (.own (some el))))
theorem Acc.empty {n0 : Nat} {el : TypeId} {h : Heap} {i : Nat} {cs : List AV} {k : Kind} (hi : n0 ≤ i) (hg : h.get i = some (.cells cs k)) : Acc n0 el h (.slice (some ⟨i, 0⟩) 0 (.exact 0)) [] := .inl ⟨rfl, _, rfl, fun _ hx => by cases hx; exact ⟨hi, rfl, cs, k, hg⟩⟩
theorem Acc.sl {n0 : Nat} {el : TypeId} {h : Heap} {v : AV} {xs : List AV} (ha : Acc n0 el h v xs) : Sl h v xs := by
  rcases ha with ⟨rfl, l, rfl, hl⟩ | ⟨i, _, _, rfl, hg⟩
  · cases l with
    | none => exact ⟨rfl, rfl⟩
    | some x => exact ⟨⟨rfl, Nat.le_refl _⟩, .inl rfl⟩
  · exact ⟨⟨rfl, rfl⟩, .inr ⟨xs, _, hg, by simp, by simp⟩⟩
theorem Acc.keep {n0 : Nat} {el : TypeId} {ex : List Nat} {h0 h : Heap} (hk : Keep ex h0 h) {v : AV} {xs : List AV} (hs : Acc n0 el h0 v xs) (hx : ∀ i ∈ ex, i < n0) : Acc n0 el h v xs := by
  rcases hs with ⟨h1, l, h2, h3⟩ | ⟨j, h1, h2, h3, hg⟩
  · refine .inl ⟨h1, l, h2, fun x hx' => ?_⟩
    obtain ⟨h4, h5, cs, k, h6⟩ := h3 x hx'
    exact ⟨h4, h5, cs, k, hk.get _ _ h6 (fun hm => by have := hx _ hm; omega)⟩
  · exact .inr ⟨j, h1, h2, h3, hk.get _ _ hg (fun hm => by have := hx _ hm; omega)⟩
/-- One more is appended. -/
theorem Acc.push {n0 : Nat} {ex : List Nat} {h0 h : Heap} {v : AV} {xs : List AV} {t el : TypeId} (ha : Acc n0 el h v xs) (hk : Keep ex h0 h) (hn : h0.next ≤ n0) (hn' : n0 ≤ h.next) (hu : P.underlying t = some (.slice el)) (h1 : sizeA P el = some 1) (hroom : roomA P el (xs.length + 1) = true)
    {x y : AV} (hy : Sl h y [x]) (hok : cellOk x = true) : ∃ v' h', appendA P h t t v y = some (v', h') ∧ Acc n0 el h' v' (xs ++ [x]) ∧ Keep ex h0 h' ∧ h.next ≤ h'.next := by
  have hsrc := hy.src (P := P) hu (by simp [cellsOk, hok])
  rcases ha with ⟨rfl, l, rfl, hl⟩ | ⟨i, hi, hne, rfl, hg⟩
  · simp only [List.length_nil, Nat.zero_add] at hroom
    refine ⟨.slice (some ⟨h.next, 0⟩) 1 (.tip 1), h.alloc (.cells [x] (.own (some el))), ?_, .inr ⟨h.next, hn', by simp, by simp, Heap.get_alloc _ _⟩, hk.alloc _, by simp [Heap.next_alloc]⟩
    cases l with
    | none => simp only [appendA, appendCore, hu, h1, hsrc, List.length_singleton, Nat.zero_add, hroom, cond_true]
    | some y =>
      obtain ⟨_, hx0, cs, k, hgx⟩ := hl y rfl
      have hb : Nat.ble 1 0 = false := rfl
      have hrd : readA h y (0 * 1) = some [] := by
        have : Nat.ble y.off cs.length = true := by rw [ble_iff, hx0]; omega
        simp [readA, hgx, this]
      simp only [appendA, appendCore, hu, h1, hsrc, List.length_singleton, Nat.zero_add, hroom, cond_true, hb, cond_false, hrd, List.nil_append]
  · refine ⟨.slice (some ⟨h.next, 0⟩) (xs.length + 1) (.tip 1), (h.del i).alloc (.cells (xs ++ [x]) (.own (some el))), ?_, .inr ⟨h.next, hn', by simp, by simp, Heap.get_alloc _ _⟩, (hk.del (.inr (by omega))).alloc _, by simp [Heap.next_alloc, Heap.next_del]⟩
    have hb : Nat.ble (0 + (xs.length + 1) * 1) xs.length = false := by
      cases hb : Nat.ble (0 + (xs.length + 1) * 1) xs.length with
      | false => rfl
      | true => rw [ble_iff] at hb; omega
    have hb2 : Nat.beq (0 + xs.length * 1) xs.length = true := by simp
    have hb4 : Nat.beq 1 1 = true := rfl
    have hb5 : Nat.beq el el = true := Nat.beq_refl _
    have hx : cellsOk [x] = true := by simp [cellsOk, hok]
    simp only [appendA, appendCore, hu, h1, hsrc, List.length_singleton, hroom, cond_true, hg, hb, cond_false, hb4]
    rw [hb2]
    simp only [hx, Bool.and_true, cond_true, List.drop_zero, growK, hb5]
end
end Go.Am
