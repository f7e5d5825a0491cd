/- Functions with deferred calls; and calls that are known by what is said of them. -/
import Derived.Test.YtnllflgijnloiaaAmNatA
namespace Go.Am
open Go.RowKit

structure DV where
  f : FuncId
  args : List AV
  cap : List AV
def Ds (φ : List Emb) : List DV → List Deferred → Prop
  | [], l => l = []
  | d :: ds, l => ∃ x xs cap, l = x :: xs ∧ x.target = .fn (.func d.f) cap ∧ Vs φ d.cap cap.toList ∧ Vs φ d.args x.args.toList ∧ Ds φ ds xs
theorem Ds.up {φ φ' : List Emb} (hu : Up φ φ') : ∀ {ds : List DV} {l : List Deferred}, Ds φ ds l → Ds φ' ds l
  | [], _, h => h
  | d :: ds, l, h => by
    obtain ⟨x, xs, cap, h1, h2, h3, h4, h5⟩ := h
    exact ⟨x, xs, cap, h1, h2, Vs.up hu _ _ h3, Vs.up hu _ _ h4, Ds.up hu h5⟩

def QOut (φ : List Emb) (Q : Exit → Act → World → Prop) (o : Out) (a : Act) (w : World) : Prop :=
  match o with
  | .normal => Q .normal a w
  | .exit id => Q (.exit id) a w
  | .ret => Q .ret a w
  | .pan v => ∀ v', V φ v v' → Q (.panic [{ v := v', recovered := false }]) a w

abbrev PostD := Out → List AV → Heap → List DV → Prop
/-- What a piece of code comes to, deferred calls with it. -/
def WPD (P : Program) (c : Code) (e : List AV) (h : Heap) (ds : List DV) (K : PostD) : Prop :=
  ∀ (w0 : World) (φ : List Emb) (w : World) (a : Act) (Q : Exit → Act → World → Prop), R P φ h w0 w → Vs φ e a.tmps.toList → Ds φ ds a.defers →
    (∀ o e' h' ds', K o e' h' ds' → ∀ φ' w' a', Up φ φ' → R P φ' h' w0 w' → Vs φ' e' a'.tmps.toList → Ds φ' ds' a'.defers → QOut φ' Q o a' w') → c.wp P Q a w

section
variable {P : Program} {ov : CallF} {e : List AV} {h : Heap} {ds : List DV} {K : PostD}

theorem WPD.plain (hF : Fns P) (hm : P.follows .mixedOrders = true) (hov : CallsOk P ov) {c : Code} (hw : WP ov P c e h (fun o e' h' => K o e' h' ds)) : WPD P c e h ds K := by
  unfold WP at hw
  obtain ⟨o, e', h', ⟨n, hr⟩, hk⟩ := hw
  intro w0 φ w a Q hR he hd hq
  refine execA_wp hF (drawA_ok hF hm) (callT_ok ov P hF hm hov) c Q φ e h w a _ hR he hr ?_
  intro φ' w' a' hu hR' he' hd'
  have := hq o e' h' ds hk φ' w' a' hu hR' he' (by rw [hd']; exact hd.up hu)
  cases o <;> exact this
theorem WPD.mono {c : Code} {K' : PostD} (hw : WPD P c e h ds K) (hk : ∀ o e h ds, K o e h ds → K' o e h ds) : WPD P c e h ds K' :=
  fun w0 φ w a Q hR he hd hq => hw w0 φ w a Q hR he hd (fun o e' h' ds' hx => hq o e' h' ds' (hk _ _ _ _ hx))
def seqD (P : Program) (b : Code) (K : PostD) : PostD
  | .normal, e, h, ds => WPD P b e h ds K
  | o, e, h, ds => K o e h ds
theorem WPD.seq {a b : Code} (hw : WPD P a e h ds (seqD P b K)) : WPD P (.seq a b) e h ds K := by
  intro w0 φ w ac Q hR he hd hq
  refine wp_seq (hw w0 φ w ac _ hR he hd ?_)
  intro o e' h' ds' hk φ' w' a' hu hR' he' hd'
  cases o with
  | normal => exact hk w0 φ' w' a' Q hR' he' hd' (fun o e'' h'' ds'' hk' φ'' w'' a'' hu' => hq o e'' h'' ds'' hk' φ'' w'' a'' (hu.trans hu'))
  | exit i => exact hq _ e' h' ds' hk φ' w' a' hu hR' he' hd'
  | ret => exact hq _ e' h' ds' hk φ' w' a' hu hR' he' hd'
  | pan v => exact hq _ e' h' ds' hk φ' w' a' hu hR' he' hd'
theorem WPD.skip (hk : K .normal e h ds) : WPD P .skip e h ds K := fun _ φ w a _ hR he hd hq => wp_skip (hq _ e h ds hk φ w a (Up.refl _) hR he hd)
theorem WPD.ret (hk : K .ret e h ds) : WPD P .ret e h ds K := fun _ φ w a _ hR he hd hq => wp_ret (hq _ e h ds hk φ w a (Up.refl _) hR he hd)
theorem WPD.cond {c : Operand} {x y : Code} {t : Bool} (hc : evalA P e c = .bool t) (h1 : t = true → WPD P x e h ds K) (h2 : t = false → WPD P y e h ds K) : WPD P (.cond c x y) e h ds K := by
  intro w0 φ w a Q hR he hd hq
  have hv := evalA_V hR he c
  rw [hc] at hv
  simp only [V] at hv
  cases t with
  | true => exact wp_cond_true hv (h1 rfl w0 φ w a Q hR he hd hq)
  | false => exact wp_cond_false hv (h2 rfl w0 φ w a Q hR he hd hq)

/-- A region's operations, deferred calls with them. -/
def opsD (call : CallF) (P : Program) (ops : Array Oper) : List Oper → List AV → Heap → List DV → Option (Out × List AV × Heap × List DV)
  | [], e, h, ds => some (.normal, e, h, ds)
  | o :: rest, e, h, ds =>
    match wantedA ops e o with
    | some true =>
      (match o.op with
      | .defer ⟨.value f, xs, _⟩ =>
        (match evalA P e f with
        | .func (.func g) first captured => opsD call P ops rest (putA e o.dst (.tuple [])) h (⟨g, first ++ evals P e xs.toList, captured⟩ :: ds)
        | _ => none)
      | _ => (match opA call P e h o.op with
        | some (.ret v h') => opsD call P ops rest (putA e o.dst v) h' ds
        | _ => none))
    | some false => opsD call P ops rest (putA e o.dst (.tuple [])) h ds
    | none => none

theorem opsD_wp (hF : Fns P) {call : CallF} (hcall : CallsOk P call) {ops : Array Oper} {w0 : World} {Q : Exit → Act → World → Prop} {r : Out × List AV × Heap × List DV} : ∀ (rest : List Oper) (k : Nat), ops.toList.drop k = rest → ∀ (φ : List Emb) (e : List AV) (h : Heap) (ds : List DV) (w : World) (a : Act),
    R P φ h w0 w → Vs φ e a.tmps.toList → Ds φ ds a.defers → opsD call P ops rest e h ds = some r →
    (∀ φ' w' a', Up φ φ' → R P φ' r.2.2.1 w0 w' → Vs φ' r.2.1 a'.tmps.toList → Ds φ' r.2.2.2 a'.defers → QOut φ' Q r.1 a' w') → wpOps P ops Q (List.range' k rest.length) a w
  | [], k, hk, φ, e, h, ds, w, a, hR, he, hd, hr, hf => by
    simp only [opsD, Option.some.injEq] at hr
    subst hr
    exact hf φ w a (Up.refl _) hR he hd
  | o :: rest, k, hk, φ, e, h, ds, w, a, hR, he, hd, hr, hf => by
    have hok : ops[k]? = some o := by
      have : (ops.toList.drop k)[0]? = some o := by rw [hk]; rfl
      rw [List.getElem?_drop, Nat.add_zero, Array.getElem?_toList] at this
      exact this
    have hk' : ops.toList.drop (k + 1) = rest := by
      rw [← List.drop_drop, hk]; rfl
    have ih := opsD_wp hF hcall (w0 := w0) (Q := Q) (r := r) rest (k + 1) hk'
    have hρ := fun x => evalA_V hR he x
    have hguard : ∀ t, wantedA ops e o = some t → Region.wanted o (yielded ops a.tmps) = t := fun t ht =>
      wantedA_eq (φ := φ) ht fun j b d _ _ => by
        have := nth_V he d
        simpa [Array.getD_eq_getD_getElem?, List.getD_eq_getElem?_getD] using this
    simp only [List.length_cons, List.range'_succ, wpOps, hok]
    simp only [opsD] at hr
    split at hr
    · rename_i hw
      rw [hguard true hw]
      simp only [if_true]
      left
      split at hr
      · rename_i f xs ats hop
        split at hr
        · rename_i g first captured hfv
          have hfv' := hρ f
          rw [hfv] at hfv'
          simp only [V] at hfv'
          obtain ⟨x, y, hxy, hx, hy⟩ := hfv'
          have hv := evals_V hρ xs.toList
          obtain ⟨dst, op, type, pos, after, guard⟩ := o
          simp only at hop hr
          subst hop
          unfold Oper.wp
          have hrun : (execOp a.eval ⟨dst, .defer ⟨.value f, xs, ats⟩, type, pos, after, guard⟩).run P w = .ok (.defer { target := .fn (.func g) y, args := x ++ xs.map a.eval }) w := by
            have e1 : execOp a.eval ⟨dst, .defer ⟨.value f, xs, ats⟩, type, pos, after, guard⟩ = (do pure (.defer (← resolve a.eval ⟨.value f, xs, ats⟩ type))) := rfl
            rw [e1]
            simp only [resolve, hxy, Deferred.ofValue, Sem.run_bind, Sem.run_pure, Result.andThen_ok]
          rw [hrun, Oper.upon_defer]
          refine ih φ _ h _ w _ hR ?_ ?_ hr hf
          · cases dst with
            | none => exact he
            | some d => simpa [putA, Act.put] using he.set d (undef_V φ)
          · rw [put_defers']
            refine ⟨_, _, y, rfl, rfl, hy, ?_, hd⟩
            simp only [Array.toList_append, Array.toList_map]
            exact hx.append hv
        · cases hr
      · split at hr
        · rename_i v h' ho
          refine opA_wp hF hcall hR hρ ho ?_
          intro φ' w' v' hu hR' hv
          refine ih φ' _ h' ds w' _ hR' (putA_V (Vs.up hu _ _ he) o.dst hv) ?_ hr (fun φ'' w'' a'' hu' => hf φ'' w'' a'' (hu.trans hu'))
          rw [put_defers']
          exact hd.up hu
        · cases hr
    · rename_i hw
      rw [hguard false hw]
      simp only [Bool.false_eq_true, if_false]
      refine ih φ _ h ds w _ hR (putA_V he o.dst (undef_V φ)) ?_ hr hf
      rw [put_defers']
      exact hd
    · cases hr

def WD (K : PostD) : Option (Out × List AV × Heap × List DV) → Prop
  | some (o, e, h, ds) => K o e h ds
  | none => False
theorem WD_some {o : Out} : WD K (some (o, e, h, ds)) = K o e h ds := rfl
@[congr] theorem WD_congr {x y : Option (Out × List AV × Heap × List DV)} (hxy : x = y) : WD K x = WD K y := by rw [hxy]
theorem WPD.region (hF : Fns P) (hm : P.follows .mixedOrders = true) (hov : CallsOk P ov) {id : Nat} {ops : Array Oper} (hw : WD K (opsD (callT ov P) P ops ops.toList e h ds)) : WPD P (.region id ops false) e h ds K := by
  generalize hr : opsD (callT ov P) P ops ops.toList e h ds = r at hw
  match r, hw with
  | some (o, e', h', ds'), hw =>
    intro w0 φ w a Q hR he hd hq
    refine wp_region ?_
    have := opsD_wp hF (callT_ok ov P hF hm hov) (w0 := w0) (Q := Q) ops.toList 0 rfl φ e h ds w a hR he hd hr (fun φ' w' a' => hq o e' h' ds' hw φ' w' a')
    rw [Array.length_toList] at this
    rw [List.range_eq_range']
    exact this

/-- The deferred calls, one behind the other; then the results. -/
def LeaveT (ov : CallF) (P : Program) (fn : Func) (e : List AV) : List DV → Heap → CRes → Prop
  | [], h, r => ∃ vs, resultsA P e h fn.results.toList = some vs ∧ r = .ret (single vs) h
  | d :: ds, h, r => ∃ v h1, ov d.f (d.args ++ d.cap) h = none ∧ callT ov P d.f (d.args ++ d.cap) h = some (.ret v h1) ∧ LeaveT ov P fn e ds h1 r

theorem callBody_wp (hF : Fns P) {draw : DrawF} (hD : DrawOk P draw) {call : CallF} (hcall : CallsOk P call) {n : Nat} {fn : Func} {c : Code} (hb : fn.body = some c) {args : List AV} {v : AV} {h1 : Heap} (hr : callBody (execA draw call P n) P fn args h = some (.ret v h1))
    {φ : List Emb} {w0 w : World} {args' : Array Value} (hR : R P φ h w0 w) (ha : Vs φ args args'.toList) :
    c.wp P (bodyPost P fn (PostC P φ w0 (.ret v h1))) { tmps := args' ++ Array.replicate (fn.ntmps - args'.size) undef, defers := [] } w := by
  unfold callBody at hr
  rw [hb] at hr
  simp only at hr
  have hlen : args'.size = args.length := by rw [← Array.length_toList, ha.length]
  have hframe : Vs φ (frameA fn args) (args' ++ Array.replicate (fn.ntmps - args'.size) undef).toList := by
    simp only [frameA, Array.toList_append, Array.toList_replicate]
    refine ha.append (Vs.of_get (by simp [hlen]) fun i a v h1 h2 => ?_)
    rw [List.getElem?_replicate] at h1 h2
    split at h1
    · cases h1
      split at h2
      · cases h2; exact undef_V φ
      · cases h2
    · cases h1
  have fin : ∀ e h', (match resultsA P e h' fn.results.toList with | some vs => some (CRes.ret (single vs) h') | none => none) = some (.ret v h1) → ∀ φ' w' (a' : Act), Up φ φ' → R P φ' h' w0 w' → Vs φ' e a'.tmps.toList → a'.defers = [] →
      a'.defers = [] ∧ ∃ u, (results fn a'.tmps).run P w' = .ok u w' ∧ PostC P φ w0 (.ret v h1) (.returned u) w' := by
    intro e h' hres φ' w' a' hu hR' he' hd
    split at hres
    · rename_i vs hvs
      cases hres
      obtain ⟨u, h1, h2⟩ := results_run hR' he' hvs
      exact ⟨hd, u, h1, φ', u, rfl, hu, hR', h2⟩
    · cases hres
  split at hr
  · rename_i e h' hx
    exact execA_wp hF hD hcall c _ φ _ h w _ _ hR hframe hx (fun φ' w' a' hu hR' he' hd => fin e h' hr φ' w' a' hu hR' he' hd)
  · rename_i e h' hx
    exact execA_wp hF hD hcall c _ φ _ h w _ _ hR hframe hx (fun φ' w' a' hu hR' he' hd => fin e h' hr φ' w' a' hu hR' he' hd)
  · cases hr
  · cases hr

theorem leaveT_leaves (hF : Fns P) (hm : P.follows .mixedOrders = true) (hov : CallsOk P ov) {fn : Func} {tmps : Array Value} {φ0 : List Emb} {w0 : World} {r : CRes} : ∀ (ds : List DV) (l : List Deferred) (φ : List Emb) (h : Heap) (w : World), Up φ0 φ → R P φ h w0 w → Vs φ e tmps.toList → Ds φ ds l → LeaveT ov P fn e ds h r →
    Leaves P fn tmps (PostC P φ0 w0 r) l .returning w
  | [], l, φ, h, w, hu, hR, he, hd, hl => by
    simp only [Ds] at hd
    subst hd
    obtain ⟨vs, hvs, rfl⟩ := hl
    obtain ⟨u, h1, h2⟩ := results_run hR he hvs
    exact ⟨u, h1, φ, u, rfl, hu, hR, h2⟩
  | d :: ds, l, φ, h, w, hu, hR, he, hd, hl => by
    obtain ⟨⟨tg, dargs⟩, xs, cap, rfl, ht, hcap, hargs, hds⟩ := hd
    simp only at ht hargs
    subst ht
    obtain ⟨v, h1, hno, hcall, hrest⟩ := hl
    obtain ⟨N, hN⟩ := (callT_iff ov P _ _ _ _).1 hcall
    cases N with
    | zero => simp only [callN] at hN; rw [hno] at hN; cases hN
    | succ N =>
      simp only [callN, hno] at hN
      split at hN
      · cases hN
      · rename_i fd hfd
        have hb : ∃ c, fd.body = some c := by
          cases hb : fd.body with
          | none => simp [callBody, hb] at hN
          | some c => exact ⟨c, rfl⟩
        obtain ⟨c, hb⟩ := hb
        have hall : Vs φ (d.args ++ d.cap) (dargs ++ cap).toList := by
          simp only [Array.toList_append]; exact hargs.append hcap
        have hwp := callBody_wp hF (drawA_ok hF hm) (callN_ok hF (drawA_ok hF hm) hov (n := N + 1) N) hb hN hR hall
        refine leaves_cons (by simp) (by simp only [invoke]; exact callFunc_run hF hfd hb _ _) ?_
        refine (callsD_of_wp hfd hb hwp).mono ?_
        rintro e1 u' w' ⟨rfl, φ', v', rfl, hu', hR', hv'⟩
        simp only [settle]
        exact leaveT_leaves hF hm hov ds xs φ' h1 w' (hu.trans hu') hR' (Vs.up hu' _ _ he) (hds.up hu') hrest

/-- A function with deferred calls. -/
theorem callD (hF : Fns P) (hm : P.follows .mixedOrders = true) (hov : CallsOk P ov) {f : FuncId} {fn : Func} {c : Code} (hf : P.funcs[f]? = some fn) (hb : fn.body = some c) {args : List AV} {r : CRes}
    (hw : WPD P c (frameA fn args) h [] (fun o e h' ds => (o = .normal ∨ o = .ret) ∧ LeaveT ov P fn e ds h' r)) : CallOk P f args h r := by
  intro φ w0 w args' hR ha
  refine .inl ⟨callFunc_run hF hf hb _ _, calls_of_wp_defers hf hb ?_⟩
  have hlen : args'.size = args.length := by rw [← Array.length_toList, ha.length]
  have hframe : Vs φ (frameA fn args) (args' ++ Array.replicate (fn.ntmps - args'.size) undef).toList := by
    simp only [frameA, Array.toList_append, Array.toList_replicate]
    refine ha.append (Vs.of_get (by simp [hlen]) fun i a v h1 h2 => ?_)
    rw [List.getElem?_replicate] at h1 h2
    split at h1
    · cases h1
      split at h2
      · cases h2; exact undef_V φ
      · cases h2
    · cases h1
  refine hw w0 φ w _ _ hR hframe (by simp [Ds]) ?_
  rintro o e' h' ds ⟨ho, hl⟩ φ' w' a' hu hR' he' hd'
  rcases ho with rfl | rfl
  · exact leaveT_leaves hF hm hov ds a'.defers φ' h' w' hu hR' he' hd' hl
  · exact leaveT_leaves hF hm hov ds a'.defers φ' h' w' hu hR' he' hd' hl
end

/-! ### Calls that are known by what is said of them -/
section
variable {P : Program}
noncomputable def specCall (P : Program) (S : FuncId → List AV → Heap → CRes → Prop) : CallF := fun f a h => by
  classical exact if hx : ∃ r, CallOk P f a h r ∧ S f a h r then some hx.choose else none
theorem specCall_ok (S : FuncId → List AV → Heap → CRes → Prop) : CallsOk P (specCall P S) := by
  intro f a h r hr
  unfold specCall at hr
  split at hr
  · rename_i hx
    cases hr
    exact hx.choose_spec.1
  · cases hr
theorem specCall_get {S : FuncId → List AV → Heap → CRes → Prop} {f : FuncId} {a : List AV} {h : Heap} {r : CRes} (hc : CallOk P f a h r) (hs : S f a h r) : ∃ r', specCall P S f a h = some r' ∧ S f a h r' := by
  have hx : ∃ r, CallOk P f a h r ∧ S f a h r := ⟨r, hc, hs⟩
  exact ⟨hx.choose, by unfold specCall; rw [dif_pos hx], hx.choose_spec.2⟩
theorem specCall_none {S : FuncId → List AV → Heap → CRes → Prop} {f : FuncId} {a : List AV} {h : Heap} (hs : ∀ r, ¬ S f a h r) : specCall P S f a h = none := by
  unfold specCall
  rw [dif_neg]
  rintro ⟨r, _, h2⟩
  exact hs r h2
end
end Go.Am
