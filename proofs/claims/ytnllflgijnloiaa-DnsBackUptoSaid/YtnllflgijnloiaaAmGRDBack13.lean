/- Parts of the proof by the abstract machine: DeferX, DeferY. -/
import Derived.Test.YtnllflgijnloiaaAmGRDBack9
import Derived.Test.YtnllflgijnloiaaAmGRDBack12
import Derived.Recover
namespace Go.Am
open Go.RowKit

section
variable {P : Program}

abbrev StX := Out × List AV × Heap × List DV
/-- Code, deferred calls with it. -/
def loopX (body : List AV → Heap → List DV → Option StX) : Nat → List AV → Heap → List DV → Option StX
  | 0, _, _, _ => none
  | n + 1, e, h, ds =>
    match body e h ds with
    | some (.normal, e', h', ds') => loopX body n e' h' ds'
    | r => r
def execX (draw : DrawF) (call : CallF) (P : Program) (n : Nat) : Code → List AV → Heap → List DV → Option StX
  | .skip, e, h, ds => some (.normal, e, h, ds)
  | .label _, e, h, ds => some (.normal, e, h, ds)
  | .region _ ops dr, e, h, ds => bif dr then (match draw call ops e h with | some (.normal, e', h') => some (.normal, e', h', ds) | _ => none) else opsD call P ops ops.toList e h ds
  | .seq a b, e, h, ds =>
    match execX draw call P n a e h ds with
    | some (.normal, e', h', ds') => execX draw call P n b e' h' ds'
    | r => r
  | .cond c a b, e, h, ds =>
    match evalA P e c with
    | .bool t => bif t then execX draw call P n a e h ds else execX draw call P n b e h ds
    | _ => none
  | .block id b, e, h, ds =>
    match execX draw call P n b e h ds with
    | some (.exit i, e', h', ds') => bif Nat.beq i id then some (.normal, e', h', ds') else some (.exit i, e', h', ds')
    | r => r
  | .loop b, e, h, ds => loopX (execX draw call P n b) n e h ds
  | .exit id, e, h, ds => some (.exit id, e, h, ds)
  | .ret, e, h, ds => some (.ret, e, h, ds)
  | _, _, _, _ => none

def FinX (P : Program) (φ : List Emb) (w0 : World) (Q : Exit → Act → World → Prop) (r : StX) : Prop :=
  ∀ φ' w' a', Up φ φ' → R P φ' r.2.2.1 w0 w' → Vs φ' r.2.1 a'.tmps.toList → Ds φ' r.2.2.2 a'.defers → QOut φ' Q r.1 a' w'
theorem FinX.up {φ φ' : List Emb} {w0 : World} {Q : Exit → Act → World → Prop} {r : StX} (h : FinX P φ w0 Q r) (hu : Up φ φ') : FinX P φ' w0 Q r :=
  fun φ'' w' a' h1 => h φ'' w' a' (hu.trans h1)

theorem execX_wp (hF : Fns P) {draw : DrawF} (hD : DrawOk P draw) {call : CallF} (hcall : CallsOk P call) {w0 : World} {n : Nat} : ∀ (c : Code) (Q : Exit → Act → World → Prop) (φ : List Emb) (e : List AV) (h : Heap) (ds : List DV) (w : World) (a : Act) (r : StX),
    R P φ h w0 w → Vs φ e a.tmps.toList → Ds φ ds a.defers → execX draw call P n c e h ds = some r → FinX P φ w0 Q r → c.wp P Q a w
  | .skip, Q, φ, e, h, ds, w, a, r, hR, he, hd, hr, hf => by
    simp only [execX, Option.some.injEq] at hr; subst hr
    exact wp_skip (hf φ w a (Up.refl _) hR he hd)
  | .label l, Q, φ, e, h, ds, w, a, r, hR, he, hd, hr, hf => by
    simp only [execX, Option.some.injEq] at hr; subst hr
    exact wp_label (hf φ w a (Up.refl _) hR he hd)
  | .region id ops dr, Q, φ, e, h, ds, w, a, r, hR, he, hd, hr, hf => by
    cases dr with
    | true =>
      simp only [execX, cond_true] at hr
      split at hr
      · rename_i e' h' hx
        cases hr
        refine hD call hcall id ops w0 Q φ e h w a _ hR he hx ?_
        intro φ' w' a' hu hR' he' hd'
        exact hf φ' w' a' hu hR' he' (by rw [hd']; exact hd.up hu)
      · cases hr
    | false =>
      simp only [execX, cond_false] at hr
      refine wp_region ?_
      have := opsD_wp hF hcall (w0 := w0) (Q := Q) ops.toList 0 rfl φ e h ds w a hR he hd hr hf
      rw [Array.length_toList] at this
      rw [List.range_eq_range']
      exact this
  | .seq x y, Q, φ, e, h, ds, w, a, r, hR, he, hd, hr, hf => by
    refine wp_seq ?_
    simp only [execX] at hr
    split at hr
    · rename_i e' h' ds' hx
      refine execX_wp hF hD hcall x _ φ e h ds w a _ hR he hd hx ?_
      intro φ' w' a' hu hR' he' hd'
      exact execX_wp hF hD hcall y Q φ' e' h' ds' w' a' r hR' he' hd' hr (hf.up hu)
    · rename_i hno
      refine execX_wp hF hD hcall x _ φ e h ds w a r hR he hd hr ?_
      intro φ' w' a' hu hR' he' hd'
      have := hf φ' w' a' hu hR' he' hd'
      obtain ⟨o, e', h', ds'⟩ := r
      cases o with
      | normal => exact absurd hr (hno e' h' ds')
      | exit id => exact this
      | ret => exact this
      | pan v => exact this
  | .cond c x y, Q, φ, e, h, ds, w, a, r, hR, he, hd, hr, hf => by
    simp only [execX] at hr
    split at hr
    · rename_i t ht
      have hc := evalA_V hR he c
      rw [ht] at hc
      simp only [V] at hc
      cases t with
      | true => exact wp_cond_true hc (execX_wp hF hD hcall x Q φ e h ds w a r hR he hd hr hf)
      | false => exact wp_cond_false hc (execX_wp hF hD hcall y Q φ e h ds w a r hR he hd hr hf)
    · cases hr
  | .block id b, Q, φ, e, h, ds, w, a, r, hR, he, hd, hr, hf => by
    refine wp_block ?_
    simp only [execX] at hr
    split at hr
    · rename_i i e' h' ds' hx
      refine execX_wp hF hD hcall b _ φ e h ds w a _ hR he hd hx ?_
      intro φ' w' a' hu hR' he' hd'
      cases hb : Nat.beq i id with
      | true =>
        have := Nat.eq_of_beq_eq_true hb
        subst this
        simp only [hb, cond_true, Option.some.injEq] at hr
        subst hr
        have := hf φ' w' a' hu hR' he' hd'
        simpa [Exit.inBlock, QOut] using this
      | false =>
        have := Nat.ne_of_beq_eq_false hb
        simp only [hb, cond_false, Option.some.injEq] at hr
        subst hr
        have h2 := hf φ' w' a' hu hR' he' hd'
        simpa [Exit.inBlock, QOut, this] using h2
    · rename_i hno
      refine execX_wp hF hD hcall b _ φ e h ds w a r hR he hd hr ?_
      intro φ' w' a' hu hR' he' hd'
      have := hf φ' w' a' hu hR' he' hd'
      obtain ⟨o, e', h', ds'⟩ := r
      cases o with
      | normal => exact this
      | exit id => exact absurd hr (hno id e' h' ds')
      | ret => exact this
      | pan v => exact this
  | .loop b, Q, φ, e, h, ds, w, a, r, hR, he, hd, hr, hf => by
    simp only [execX] at hr
    have key : ∀ (m : Nat) (φ : List Emb) (e : List AV) (h : Heap) (ds : List DV) (w : World) (a : Act), R P φ h w0 w → Vs φ e a.tmps.toList → Ds φ ds a.defers → loopX (execX draw call P n b) m e h ds = some r → FinX P φ w0 Q r → Code.rounds P b Q m a w := by
      intro m
      induction m with
      | zero => intro φ e h ds w a hR he hd hr hf; simp [loopX] at hr
      | succ m ih =>
        intro φ e h ds w a hR he hd hr hf
        rw [rounds_succ]
        simp only [loopX] at hr
        split at hr
        · rename_i e' h' ds' hx
          refine execX_wp hF hD hcall b _ φ e h ds w a _ hR he hd hx ?_
          intro φ' w' a' hu hR' he' hd'
          exact ih φ' e' h' ds' w' a' hR' he' hd' hr (hf.up hu)
        · rename_i hno
          refine execX_wp hF hD hcall b _ φ e h ds w a r hR he hd hr ?_
          intro φ' w' a' hu hR' he' hd'
          have := hf φ' w' a' hu hR' he' hd'
          obtain ⟨o, e', h', ds'⟩ := r
          cases o with
          | normal => exact absurd hr (hno e' h' ds')
          | exit id => exact this
          | ret => exact this
          | pan v => exact this
    exact wp_loop_rounds n (key n φ e h ds w a hR he hd hr hf)
  | .exit id, Q, φ, e, h, ds, w, a, r, hR, he, hd, hr, hf => by
    simp only [execX, Option.some.injEq] at hr; subst hr
    exact wp_exit (hf φ w a (Up.refl _) hR he hd)
  | .ret, Q, φ, e, h, ds, w, a, r, hR, he, hd, hr, hf => by
    simp only [execX, Option.some.injEq] at hr; subst hr
    exact wp_ret (hf φ w a (Up.refl _) hR he hd)
  | .rangeFunc .., Q, φ, e, h, ds, w, a, r, hR, he, hd, hr, hf => by simp [execX] at hr
  | .scope .., Q, φ, e, h, ds, w, a, r, hR, he, hd, hr, hf => by simp [execX] at hr
  | .goto .., Q, φ, e, h, ds, w, a, r, hR, he, hd, hr, hf => by simp [execX] at hr
  | .refuse .., Q, φ, e, h, ds, w, a, r, hR, he, hd, hr, hf => by simp [execX] at hr

/-! ### The body of a deferred call, nobody panicking -/

def opsS (call : CallF) (P : Program) (ops : Array Oper) : List Oper → List AV → Heap → Option (List AV × Heap)
  | [], e, h => some (e, h)
  | o :: rest, e, h =>
    match wantedA ops e o with
    | some true =>
      (match o.op with
      | .call ⟨.builtin .recover, _, _⟩ => opsS call P ops rest (putA e o.dst .nilIface) h
      | _ => (match opA call P e h o.op with
        | some (.ret v h') => opsS call P ops rest (putA e o.dst v) h'
        | _ => none))
    | some false => opsS call P ops rest (putA e o.dst (.tuple [])) h
    | none => none
def execS (draw : DrawF) (call : CallF) (P : Program) (n : Nat) : Code → List AV → Heap → Option (Out × List AV × Heap)
  | .region _ ops false, e, h => (match opsS call P ops ops.toList e h with | some (e', h') => some (.normal, e', h') | none => none)
  | .seq a b, e, h =>
    match execS draw call P n a e h with
    | some (.normal, e', h') => execS draw call P n b e' h'
    | r => r
  | .cond c a b, e, h =>
    match evalA P e c with
    | .bool t => bif t then execS draw call P n a e h else execS draw call P n b e h
    | _ => none
  | c, e, h => execA draw call P n c e h

def FinS (P : Program) (φ : List Emb) (w0 : World) (ds : List Deferred) (cs : List Frame) (Q : Exit → Act → List Frame → World → Prop) (r : Out × List AV × Heap) : Prop :=
  ∀ φ' w' a', Up φ φ' → R P φ' r.2.2 w0 w' → Vs φ' r.2.1 a'.tmps.toList → a'.defers = ds → QOut φ' (fun e a w => Q e a cs w) r.1 a' w'
theorem FinS.up {φ φ' : List Emb} {w0 : World} {ds : List Deferred} {cs : List Frame} {Q : Exit → Act → List Frame → World → Prop} {r : Out × List AV × Heap} (h : FinS P φ w0 ds cs Q r) (hu : Up φ φ') : FinS P φ' w0 ds cs Q r :=
  fun φ'' w' a' h1 => h φ'' w' a' (hu.trans h1)

theorem opsS_wp (hF : Fns P) {call : CallF} (hcall : CallsOk P call) {ops : Array Oper} {w0 : World} {cs : List Frame} (hcs : recoverD cs = none) {Q : Exit → Act → List Frame → World → Prop} {ds : List Deferred} {r : List AV × Heap} : ∀ (rest : List Oper) (k : Nat), ops.toList.drop k = rest → ∀ (φ : List Emb) (e : List AV) (h : Heap) (w : World) (a : Act),
    R P φ h w0 w → Vs φ e a.tmps.toList → a.defers = ds → opsS call P ops rest e h = some r →
    (∀ φ' w' a', Up φ φ' → R P φ' r.2 w0 w' → Vs φ' r.1 a'.tmps.toList → a'.defers = ds → Q .normal a' cs w') → wpOpsS P ops Q (List.range' k rest.length) a cs w
  | [], k, hk, φ, e, h, w, a, hR, he, hd, hr, hf => by
    simp only [opsS, Option.some.injEq] at hr
    subst hr
    exact hf φ w a (Up.refl _) hR he hd
  | o :: rest, k, hk, φ, e, h, w, a, hR, he, hd, hr, hf => by
    have hok : ops[k]? = some o := by
      have : (ops.toList.drop k)[0]? = some o := by rw [hk]; rfl
      rw [List.getElem?_drop, Nat.add_zero, Array.getElem?_toList] at this
      exact this
    have hk' : ops.toList.drop (k + 1) = rest := by
      rw [← List.drop_drop, hk]; rfl
    have ih := opsS_wp hF hcall (w0 := w0) hcs (Q := Q) (ds := ds) (r := r) rest (k + 1) hk'
    have hρ := fun x => evalA_V hR he x
    have hguard : ∀ t, wantedA ops e o = some t → Region.wanted o (yielded ops a.tmps) = t := fun t ht =>
      wantedA_eq (φ := φ) ht fun j b d _ _ => by
        have := nth_V he d
        simpa [Array.getD_eq_getD_getElem?, List.getD_eq_getElem?_getD] using this
    simp only [List.length_cons, List.range'_succ, wpOpsS, hok]
    simp only [opsS] at hr
    split at hr
    · rename_i hw
      rw [hguard true hw]
      simp only [if_true]
      split at hr
      · rename_i xs ats hop
        obtain ⟨dst, op, type, pos, after, guard⟩ := o
        simp only at hop hr
        subst hop
        have hrun : (execOp a.eval ⟨dst, .call ⟨.builtin .recover, xs, ats⟩, type, pos, after, guard⟩).run P w = .ok .recover w := rfl
        rw [hrun]
        simp only [hcs]
        exact ih φ _ h w _ hR (putA_V he dst (by simp [V])) (by rw [put_defers']; exact hd) hr hf
      · rename_i hnot
        split at hr
        · rename_i v h' ho
          have hwp := opA_wp hF hcall hR hρ ho (K := fun a' w' => wpOpsS P ops Q (List.range' (k + 1) rest.length) a' cs w') (Q := fun e a' w' => Q e a' cs w') (fun φ' w' v' hu hR' hv =>
            ih φ' _ h' w' _ hR' (putA_V (Vs.up hu _ _ he) o.dst hv) (by rw [put_defers']; exact hd) hr (fun φ'' w'' a'' hu' => hf φ'' w'' a'' (hu.trans hu')))
          unfold Oper.wp at hwp
          split
          · rename_i w' hx
            rw [hx] at hwp
            exact absurd hwp (by simp [Oper.upon])
          · exact hwp
        · cases hr
    · rename_i hw
      rw [hguard false hw]
      simp only [Bool.false_eq_true, if_false]
      exact ih φ _ h w _ hR (putA_V he o.dst (undef_V φ)) (by rw [put_defers']; exact hd) hr hf
    · cases hr

theorem execS_of (hF : Fns P) {draw : DrawF} (hD : DrawOk P draw) {call : CallF} (hcall : CallsOk P call) {w0 : World} {n : Nat} {cs : List Frame} {c : Code} {Q : Exit → Act → List Frame → World → Prop} {φ : List Emb} {e : List AV} {h : Heap} {w : World} {a : Act} {r : Out × List AV × Heap}
    (hR : R P φ h w0 w) (he : Vs φ e a.tmps.toList) (hr : execA draw call P n c e h = some r) (hf : FinS P φ w0 a.defers cs Q r) : c.wpS P Q a cs w := by
  refine wpS_of_wp (execA_wp hF hD hcall c _ φ e h w a r hR he hr ?_)
  intro φ' w' a' hu hR' he' hd'
  have := hf φ' w' a' hu hR' he' hd'
  obtain ⟨o, e', h'⟩ := r
  cases o <;> exact this
theorem execS_wp (hF : Fns P) {draw : DrawF} (hD : DrawOk P draw) {call : CallF} (hcall : CallsOk P call) {w0 : World} {n : Nat} {cs : List Frame} (hcs : recoverD cs = none) : ∀ (c : Code) (Q : Exit → Act → List Frame → World → Prop) (φ : List Emb) (e : List AV) (h : Heap) (w : World) (a : Act) (r : Out × List AV × Heap),
    R P φ h w0 w → Vs φ e a.tmps.toList → execS draw call P n c e h = some r → FinS P φ w0 a.defers cs Q r → c.wpS P Q a cs w
  | .region id ops true, Q, φ, e, h, w, a, r, hR, he, hr, hf => execS_of hF hD hcall hR he (by simpa only [execS] using hr) hf
  | .region id ops false, Q, φ, e, h, w, a, r, hR, he, hr, hf => by
    simp only [execS] at hr
    split at hr
    · rename_i e' h' hx
      cases hr
      refine wpS_region ?_
      have := opsS_wp hF hcall (w0 := w0) hcs (Q := Q) (ds := a.defers) ops.toList 0 rfl φ e h w a hR he rfl hx (fun φ' w' a' hu hR' he' hd' => hf φ' w' a' hu hR' he' hd')
      rw [Array.length_toList] at this
      rw [List.range_eq_range']
      exact this
    · cases hr
  | .seq x y, Q, φ, e, h, w, a, r, hR, he, hr, hf => by
    refine wpS_seq ?_
    simp only [execS] at hr
    split at hr
    · rename_i e' h' hx
      refine execS_wp hF hD hcall hcs x _ φ e h w a _ hR he hx ?_
      intro φ' w' a' hu hR' he' hd'
      exact execS_wp hF hD hcall hcs y Q φ' e' h' w' a' r hR' he' hr (by rw [hd']; exact hf.up hu)
    · rename_i hno
      refine execS_wp hF hD hcall hcs x _ φ e h w a r hR he hr ?_
      intro φ' w' a' hu hR' he' hd'
      have := hf φ' w' a' hu hR' he' hd'
      obtain ⟨o, e', h'⟩ := r
      cases o with
      | normal => exact absurd hr (hno e' h')
      | exit id => exact this
      | ret => exact this
      | pan v => exact this
  | .cond c x y, Q, φ, e, h, w, a, r, hR, he, hr, hf => by
    simp only [execS] at hr
    split at hr
    · rename_i t ht
      have hc := evalA_V hR he c
      rw [ht] at hc
      simp only [V] at hc
      cases t with
      | true => exact wpS_cond hc (execS_wp hF hD hcall hcs x Q φ e h w a r hR he hr hf)
      | false => exact wpS_cond hc (execS_wp hF hD hcall hcs y Q φ e h w a r hR he hr hf)
    · cases hr
  | .skip, Q, φ, e, h, w, a, r, hR, he, hr, hf => execS_of hF hD hcall hR he (by simpa only [execS] using hr) hf
  | .label _, Q, φ, e, h, w, a, r, hR, he, hr, hf => execS_of hF hD hcall hR he (by simpa only [execS] using hr) hf
  | .block _ _, Q, φ, e, h, w, a, r, hR, he, hr, hf => execS_of hF hD hcall hR he (by simpa only [execS] using hr) hf
  | .loop _, Q, φ, e, h, w, a, r, hR, he, hr, hf => execS_of hF hD hcall hR he (by simpa only [execS] using hr) hf
  | .exit _, Q, φ, e, h, w, a, r, hR, he, hr, hf => execS_of hF hD hcall hR he (by simpa only [execS] using hr) hf
  | .ret, Q, φ, e, h, w, a, r, hR, he, hr, hf => execS_of hF hD hcall hR he (by simpa only [execS] using hr) hf
  | .rangeFunc .., Q, φ, e, h, w, a, r, hR, he, hr, hf => execS_of hF hD hcall hR he (by simpa only [execS] using hr) hf
  | .scope .., Q, φ, e, h, w, a, r, hR, he, hr, hf => execS_of hF hD hcall hR he (by simpa only [execS] using hr) hf
  | .goto .., Q, φ, e, h, w, a, r, hR, he, hr, hf => execS_of hF hD hcall hR he (by simpa only [execS] using hr) hf
  | .refuse .., Q, φ, e, h, w, a, r, hR, he, hr, hf => execS_of hF hD hcall hR he (by simpa only [execS] using hr) hf

/-! ### Functions -/

/-- A deferred call's body, on the way back. -/
def defBody (draw : DrawF) (call : CallF) (P : Program) (n : Nat) (d : DV) (h : Heap) : Option Heap :=
  match P.funcs[d.f]? with
  | none => none
  | some fn =>
    match fn.body with
    | none => none
    | some c =>
      match execS draw call P n c (frameA fn (d.args ++ d.cap)) h with
      | some (.normal, e, h') | some (.ret, e, h') => (match resultsA P e h' fn.results.toList with | some _ => some h' | none => none)
      | _ => none
def leaveX (draw : DrawF) (call : CallF) (P : Program) (n : Nat) : List DV → Heap → Option Heap
  | [], h => some h
  | d :: ds, h => match defBody draw call P n d h with | some h1 => leaveX draw call P n ds h1 | none => none
def bodyX (draw : DrawF) (call : CallF) (P : Program) (n : Nat) (fn : Func) (args : List AV) (h : Heap) : Option CRes :=
  match fn.body with
  | none => none
  | some c =>
    match execX draw call P n c (frameA fn args) h [] with
    | some (.normal, e, h', ds) | some (.ret, e, h', ds) =>
      (match leaveX draw call P n ds h' with
      | some h2 => (match resultsA P e h2 fn.results.toList with | some vs => some (.ret (single vs) h2) | none => none)
      | none => none)
    | _ => none

theorem frameA_V {φ : List Emb} {fn : Func} {args : List AV} {args' : Array Value} (ha : Vs φ args args'.toList) : Vs φ (frameA fn args) (args' ++ Array.replicate (fn.ntmps - args'.size) undef).toList := by
  have hlen : args'.size = args.length := by rw [← Array.length_toList, ha.length]
  simp only [frameA, Array.toList_append, Array.toList_replicate]
  refine ha.append (Vs.of_get (by simp [hlen]) fun i a v h1 h2 => ?_)
  rw [List.getElem?_replicate] at h1 h2
  split at h1
  · cases h1
    split at h2
    · cases h2; exact undef_V φ
    · cases h2
  · cases h1

theorem defBody_ok (hF : Fns P) {draw : DrawF} (hD : DrawOk P draw) {call : CallF} (hcall : CallsOk P call) {n : Nat} {d : DV} {h h1 : Heap} (hr : defBody draw call P n d h = some h1) {φ : List Emb} {w0 w : World} (hR : R P φ h w0 w) {args : Array Value} (ha : Vs φ (d.args ++ d.cap) args.toList) :
    (callFunc d.f args).run P w = .ok (.enter d.f args) w ∧ CallsD P d.f args .returning w (fun e u' w' => ∃ v φ', e = .returned v ∧ u' = .returning ∧ Up φ φ' ∧ R P φ' h1 w0 w') := by
  unfold defBody at hr
  split at hr
  · cases hr
  rename_i fn hfn
  split at hr
  · cases hr
  rename_i c hb
  refine ⟨callFunc_run hF hfn hb _ _, callsD_of_wpS hfn hb ?_⟩
  intro c₀ cs hu0
  have hcs : recoverD (c₀ :: cs) = none := by simp [recoverD, hu0]
  have fin : ∀ e h', (match resultsA P e h' fn.results.toList with | some _ => some h' | none => none) = some h1 → ∀ φ' w' (a' : Act), Up φ φ' → R P φ' h' w0 w' → Vs φ' e a'.tmps.toList → a'.defers = [] →
      a'.defers = [] ∧ ∃ u', (c₀ :: cs) = { c₀ with mode := u' } :: cs ∧ ∃ v, (results fn a'.tmps).run P w' = .ok v w' ∧ ∃ v2 φ2, (Ending.returned v) = .returned v2 ∧ u' = .returning ∧ Up φ φ2 ∧ R P φ2 h1 w0 w' := by
    intro e h' hres φ' w' a' hu hR' he' hd
    split at hres
    · rename_i vs hvs
      cases hres
      obtain ⟨u, h1, h2⟩ := results_run hR' he' hvs
      exact ⟨hd, .returning, by rw [← hu0], u, h1, u, φ', rfl, rfl, hu, hR'⟩
    · cases hres
  split at hr
  · rename_i e h' hx
    exact execS_wp hF hD hcall hcs c _ φ _ h w _ _ hR (frameA_V ha) hx (fun φ' w' a' hu hR' he' hd => fin e h' hr φ' w' a' hu hR' he' hd)
  · rename_i e h' hx
    exact execS_wp hF hD hcall hcs c _ φ _ h w _ _ hR (frameA_V ha) hx (fun φ' w' a' hu hR' he' hd => fin e h' hr φ' w' a' hu hR' he' hd)
  · cases hr

theorem leaveX_leaves (hF : Fns P) {draw : DrawF} (hD : DrawOk P draw) {call : CallF} (hcall : CallsOk P call) {n : Nat} {fn : Func} {e : List AV} {tmps : Array Value} {φ0 : List Emb} {w0 : World} {h2 : Heap} {vs : List AV} (hvs : resultsA P e h2 fn.results.toList = some vs) : ∀ (ds : List DV) (l : List Deferred) (φ : List Emb) (h : Heap) (w : World), Up φ0 φ → R P φ h w0 w → Vs φ e tmps.toList → Ds φ ds l → leaveX draw call P n ds h = some h2 →
    Leaves P fn tmps (PostC P φ0 w0 (.ret (single vs) h2)) l .returning w
  | [], l, φ, h, w, hu, hR, he, hd, hl => by
    simp only [Ds] at hd
    subst hd
    simp only [leaveX, Option.some.injEq] at hl
    subst hl
    obtain ⟨u, h1, h2⟩ := results_run hR he hvs
    exact ⟨u, h1, φ, u, rfl, hu, hR, h2⟩
  | d :: ds, l, φ, h, w, hu, hR, he, hd, hl => by
    obtain ⟨⟨tg, dargs⟩, xs, cap, rfl, ht, hcap, hargs, hds⟩ := hd
    simp only at ht hargs
    subst ht
    simp only [leaveX] at hl
    split at hl
    · rename_i h1 hb
      have hall : Vs φ (d.args ++ d.cap) (dargs ++ cap).toList := by
        simp only [Array.toList_append]; exact hargs.append hcap
      obtain ⟨hc1, hc2⟩ := defBody_ok hF hD hcall hb hR hall
      refine leaves_cons (by simp) (by simp only [invoke]; exact hc1) ?_
      refine hc2.mono ?_
      rintro e1 u' w' ⟨v, φ', rfl, rfl, hu', hR'⟩
      simp only [settle]
      exact leaveX_leaves hF hD hcall hvs ds xs φ' h1 w' (hu.trans hu') hR' (Vs.up hu' _ _ he) (hds.up hu') hl
    · cases hl

theorem bodyX_ok (hF : Fns P) {draw : DrawF} (hD : DrawOk P draw) {call : CallF} (hcall : CallsOk P call) {n : Nat} {f : FuncId} {fn : Func} (hf : P.funcs[f]? = some fn) {args : List AV} {h : Heap} {r : CRes} (hr : bodyX draw call P n fn args h = some r) : CallOk P f args h r := by
  intro φ w0 w args' hR ha
  unfold bodyX at hr
  split at hr
  · cases hr
  rename_i c hb
  refine .inl ⟨callFunc_run hF hf hb _ _, calls_of_wp_defers hf hb ?_⟩
  have fin : ∀ e h' ds, (match leaveX draw call P n ds h' with
      | some h2 => (match resultsA P e h2 fn.results.toList with | some vs => some (.ret (single vs) h2) | none => none)
      | none => none) = some r → ∀ φ' w' (a' : Act), Up φ φ' → R P φ' h' w0 w' → Vs φ' e a'.tmps.toList → Ds φ' ds a'.defers → Leaves P fn a'.tmps (PostC P φ w0 r) a'.defers .returning w' := by
    intro e h' ds hres φ' w' a' hu hR' he' hd
    split at hres
    · rename_i h2 hl
      split at hres
      · rename_i vs hvs
        cases hres
        exact leaveX_leaves hF hD hcall hvs ds a'.defers φ' h' w' hu hR' he' hd hl
      · cases hres
    · cases hres
  split at hr
  · rename_i e h' ds hx
    exact execX_wp hF hD hcall c _ φ _ h [] w _ _ hR (frameA_V ha) (by simp [Ds]) hx (fun φ' w' a' hu hR' he' hd => fin e h' ds hr φ' w' a' hu hR' he' hd)
  · rename_i e h' ds hx
    exact execX_wp hF hD hcall c _ φ _ h [] w _ _ hR (frameA_V ha) (by simp [Ds]) hx (fun φ' w' a' hu hR' he' hd => fin e h' ds hr φ' w' a' hu hR' he' hd)
  · cases hr

/-- Calls, d deep at most; those that 'dfs' names may defer. -/
def callX (draw : DrawF) (dfs : FuncId → Bool) (ov : CallF) (P : Program) (n : Nat) : Nat → CallF
  | 0, f, args, h => ov f args h
  | d + 1, f, args, h =>
    match ov f args h with
    | some r => some r
    | none =>
      match P.funcs[f]? with
      | none => none
      | some fn => bif dfs f then bodyX draw (callX draw dfs ov P n d) P n fn args h else callBody (execA draw (callX draw dfs ov P n d) P n) P fn args h

theorem callX_ok (hF : Fns P) {draw : DrawF} (hD : DrawOk P draw) {dfs : FuncId → Bool} {ov : CallF} (hov : CallsOk P ov) {n : Nat} : ∀ d, CallsOk P (callX draw dfs ov P n d)
  | 0 => hov
  | d + 1 => by
    intro f args h r hr
    simp only [callX] at hr
    split at hr
    · rename_i r' ho
      cases hr
      exact hov f args h _ ho
    · split at hr
      · cases hr
      · rename_i fn hf
        cases hdf : dfs f with
        | true => rw [hdf, cond_true] at hr; exact bodyX_ok hF hD (callX_ok hF hD hov d) hf hr
        | false => rw [hdf, cond_false] at hr; exact callBody_ok hF hD (callX_ok hF hD hov d) hf hr

theorem ovTrue_okX (hF : Fns P) (hm : P.follows .mixedOrders = true) {dfs : FuncId → Bool} {ov : CallF} (hov : CallsOk P ov) {f : FuncId} {n d : Nat} (hr : isTrue (callX (drawA P) dfs ov P n d f [] (heap0 P)) = true) : CallsOk P (ovTrue f) := by
  intro g a h r ho
  unfold ovTrue at ho
  split at ho
  · cases hb : Nat.beq g f with
    | false => simp [hb] at ho
    | true =>
      have := Nat.eq_of_beq_eq_true hb
      subst this
      simp only [hb, cond_true, Option.some.injEq] at ho
      subst ho
      have hD := callX_ok hF (drawA_ok hF hm) (dfs := dfs) hov (n := n) d
      generalize hx : callX (drawA P) dfs ov P n d g [] (heap0 P) = x at hr
      match x, hr with
      | some (.ret (.bool true) h1), _ => exact rebase (hD _ _ _ _ hx) h
  · cases ho
end
end Go.Am

namespace Go.Am
open Go.RowKit

section
variable {P : Program} {call : CallF}

theorem opsD_of_opsA {ops : Array Oper} {ds : List DV} : ∀ (rest : List Oper) (e : List AV) (h : Heap) (e' : List AV) (h' : Heap), opsA call P ops rest e h = some (.normal, e', h') → opsD call P ops rest e h ds = some (.normal, e', h', ds)
  | [], e, h, e', h', hr => by
    simp only [opsA, Option.some.injEq, Prod.mk.injEq, true_and] at hr
    obtain ⟨rfl, rfl⟩ := hr
    rfl
  | o :: rest, e, h, e', h', hr => by
    simp only [opsA] at hr
    simp only [opsD]
    split at hr
    · rename_i hw
      rw [hw]
      simp only
      have key : ∀ r, opA call P e h o.op = r → (match r with | some (.ret v h') => opsA call P ops rest (putA e o.dst v) h' | some (.pan v h') => some (.pan v, e, h') | none => none) = some (.normal, e', h') → ∃ v g, r = some (.ret v g) ∧ opsA call P ops rest (putA e o.dst v) g = some (.normal, e', h') := by
        intro r _ hh
        match r, hh with
        | some (.ret v g), hh => exact ⟨v, g, rfl, hh⟩
        | some (.pan v g), hh => simp at hh
      have hex : ∃ v g, opA call P e h o.op = some (.ret v g) ∧ opsA call P ops rest (putA e o.dst v) g = some (.normal, e', h') := by
        refine key _ rfl ?_
        rw [← hr]
        cases opA call P e h o.op with
        | none => rfl
        | some r => cases r <;> rfl
      obtain ⟨v, g, h1, h2⟩ := hex
      split
      · rename_i f xs ats hop
        rw [hop] at h1
        simp [opA, aop, toRet] at h1
      · rw [h1]
        exact opsD_of_opsA rest _ _ _ _ h2
    · rename_i hw
      rw [hw]
      exact opsD_of_opsA rest _ _ _ _ hr
    · cases hr

theorem drawA_normal {ops : Array Oper} {e : List AV} {h : Heap} {r : Out × List AV × Heap} (hr : drawA P call ops e h = some r) : r.1 = .normal := by
  unfold drawA at hr
  cases hs : drawStatic P ops (masks ops.toList []) with
  | false => rw [hs] at hr; cases hr
  | true =>
    rw [hs, cond_true] at hr
    split at hr
    · rename_i e' h' hx
      cases hn : (needNot P (masks ops.toList []) (louds P ops.toList 0) ops.toList 0 || dynOk call P ops e h) with
      | false => rw [hn] at hr; cases hr
      | true => rw [hn, cond_true] at hr; cases hr; rfl
    · cases hr

theorem opsA_out {ops : Array Oper} : ∀ (rest : List Oper) (e : List AV) (h : Heap) (r : Out × List AV × Heap), opsA call P ops rest e h = some r → r.1 = .normal ∨ ∃ v, r.1 = .pan v
  | [], e, h, r, hr => by simp only [opsA, Option.some.injEq] at hr; subst hr; exact .inl rfl
  | o :: rest, e, h, r, hr => by
    simp only [opsA] at hr
    split at hr
    · split at hr
      · exact opsA_out rest _ _ _ hr
      · cases hr; exact .inr ⟨_, rfl⟩
      · cases hr
    · exact opsA_out rest _ _ _ hr
    · cases hr

theorem loopX_of {B : List AV → Heap → Option (Out × List AV × Heap)} {B' : List AV → Heap → List DV → Option StX} {ds : List DV} (hB : ∀ e h o e' h', B e h = some (o, e', h') → (∀ v, o ≠ .pan v) → B' e h ds = some (o, e', h', ds)) : ∀ (n : Nat) (e : List AV) (h : Heap) (o : Out) (e' : List AV) (h' : Heap),
    loopA B n e h = some (o, e', h') → (∀ v, o ≠ .pan v) → loopX B' n e h ds = some (o, e', h', ds)
  | 0, e, h, o, e', h', hr, _ => by simp [loopA] at hr
  | n + 1, e, h, o, e', h', hr, ho => by
    simp only [loopA] at hr
    simp only [loopX]
    split at hr
    · rename_i e1 h1 hb
      rw [hB _ _ _ _ _ hb (by simp)]
      exact loopX_of hB n e1 h1 o e' h' hr ho
    · rename_i hno
      rw [hB _ _ _ _ _ hr ho]
      cases o with
      | normal => exact absurd hr (hno e' h')
      | _ => rfl

/-- Code without deferred calls runs the same. -/
theorem execX_of {n : Nat} {ds : List DV} : ∀ (c : Code) (e : List AV) (h : Heap) (o : Out) (e' : List AV) (h' : Heap), execA (drawA P) call P n c e h = some (o, e', h') → (∀ v, o ≠ .pan v) → execX (drawA P) call P n c e h ds = some (o, e', h', ds)
  | .skip, e, h, o, e', h', hr, ho => by simp only [execA, Option.some.injEq, Prod.mk.injEq] at hr; obtain ⟨rfl, rfl, rfl⟩ := hr; rfl
  | .label _, e, h, o, e', h', hr, ho => by simp only [execA, Option.some.injEq, Prod.mk.injEq] at hr; obtain ⟨rfl, rfl, rfl⟩ := hr; rfl
  | .region _ ops dr, e, h, o, e', h', hr, ho => by
    cases dr with
    | true =>
      simp only [execA, cond_true] at hr
      have := drawA_normal hr
      simp only at this
      subst this
      simp only [execX, cond_true, hr]
    | false =>
      simp only [execA, cond_false] at hr
      simp only [execX, cond_false]
      rcases opsA_out _ _ _ _ hr with h1 | ⟨v, h1⟩
      · simp only at h1
        subst h1
        exact opsD_of_opsA _ _ _ _ _ hr
      · exact absurd h1 (ho v)
  | .seq a b, e, h, o, e', h', hr, ho => by
    simp only [execA] at hr
    simp only [execX]
    split at hr
    · rename_i e1 h1 hx
      rw [execX_of a _ _ _ _ _ hx (by simp)]
      exact execX_of b _ _ _ _ _ hr ho
    · rename_i hno
      rw [execX_of a _ _ _ _ _ hr ho]
      cases o with
      | normal => exact absurd hr (hno e' h')
      | _ => rfl
  | .cond c a b, e, h, o, e', h', hr, ho => by
    simp only [execA] at hr
    simp only [execX]
    split at hr
    · rename_i t ht
      rw [ht]
      cases t with
      | true => exact execX_of a _ _ _ _ _ hr ho
      | false => exact execX_of b _ _ _ _ _ hr ho
    · cases hr
  | .block id b, e, h, o, e', h', hr, ho => by
    simp only [execA] at hr
    simp only [execX]
    split at hr
    · rename_i i e1 h1 hx
      rw [execX_of b _ _ _ _ _ hx (by simp)]
      simp only
      cases hb : Nat.beq i id with
      | true => simp only [hb, cond_true, Option.some.injEq, Prod.mk.injEq] at hr ⊢; obtain ⟨rfl, rfl, rfl⟩ := hr; simp
      | false => simp only [hb, cond_false, Option.some.injEq, Prod.mk.injEq] at hr ⊢; obtain ⟨rfl, rfl, rfl⟩ := hr; simp
    · rename_i hno
      rw [execX_of b _ _ _ _ _ hr ho]
      cases o with
      | exit i => exact absurd hr (hno i e' h')
      | _ => rfl
  | .loop b, e, h, o, e', h', hr, ho => by
    simp only [execA] at hr
    simp only [execX]
    exact loopX_of (fun e h o e' h' hh ho => execX_of b e h o e' h' hh ho) n e h o e' h' hr ho
  | .exit _, e, h, o, e', h', hr, ho => by simp only [execA, Option.some.injEq, Prod.mk.injEq] at hr; obtain ⟨rfl, rfl, rfl⟩ := hr; rfl
  | .ret, e, h, o, e', h', hr, ho => by simp only [execA, Option.some.injEq, Prod.mk.injEq] at hr; obtain ⟨rfl, rfl, rfl⟩ := hr; rfl
  | .rangeFunc .., e, h, o, e', h', hr, ho => by simp [execA] at hr
  | .scope .., e, h, o, e', h', hr, ho => by simp [execA] at hr
  | .goto .., e, h, o, e', h', hr, ho => by simp [execA] at hr
  | .refuse .., e, h, o, e', h', hr, ho => by simp [execA] at hr

/-- Two regions ahead, the second defers; then what runs on. -/
theorem call_defer {ov : CallF} (hF : Fns P) (hm : P.follows .mixedOrders = true) (hov : CallsOk P ov) {f : FuncId} {fn : Func} (hf : P.funcs[f]? = some fn) {i0 i1 : Nat} {ops0 ops1 : Array Oper} {rest : Code} (hb : fn.body = some (.seq (.region i0 ops0 false) (.seq (.region i1 ops1 false) rest)))
    {args : List AV} {h h1 h2 : Heap} {e1 e2 : List AV} {ds : List DV} (h0 : opsA (callT ov P) P ops0 ops0.toList (frameA fn args) h = some (.normal, e1, h1)) (hd : opsD (callT ov P) P ops1 ops1.toList e1 h1 [] = some (.normal, e2, h2, ds))
    {K : CRes → Prop} (hw : WP ov P rest e2 h2 (fun o e3 h3 => (o = .normal ∨ o = .ret) ∧ ∃ h4 vs, (∀ n, leaveX (drawA P) (callT ov P) P n ds h3 = some h4) ∧ resultsA P e3 h4 fn.results.toList = some vs ∧ K (.ret (single vs) h4))) :
    ∃ r, CallOk P f args h r ∧ K r := by
  unfold WP at hw
  obtain ⟨o, e3, h3, ⟨n, hr⟩, ho, h4, vs, hl, hv, hk⟩ := hw
  refine ⟨_, bodyX_ok hF (drawA_ok hF hm) (callT_ok ov P hF hm hov) (n := n) hf (r := .ret (single vs) h4) ?_, hk⟩
  have hx := execX_of (ds := ds) rest _ _ _ _ _ hr (by rcases ho with rfl | rfl <;> simp)
  have hx0 := opsD_of_opsA (ds := []) _ _ _ _ _ h0
  unfold bodyX
  rw [hb]
  simp only [execX, cond_false, hx0, hd, hx]
  rcases ho with rfl | rfl <;> simp only [hl n, hv]
end
end Go.Am
