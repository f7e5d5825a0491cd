/- Deferred calls that ask for a panic where there is none. -/
import Derived.Test.YteoekjfgihnhaaaGreatDoorHmGRF17
import Derived.RecoverIn
set_option linter.all false
noncomputable section
namespace Go.Am
open Go.RowKit

section
variable {P : Program}

def QOutS (φ : List Emb) (Q : Exit → Act → World → Prop) (o : Out) (a : Act) (w : World) : Prop :=
  match o with
  | .normal => Q .normal a w
  | .exit id => Q (.exit id) a w
  | .ret => Q .ret a w
  | .pan v => ∀ v', V φ v v' → Q (.panic [{ v := v', recovered := false }]) a w

/-! ### The body of a deferred call, nobody panicking -/

def opsS (call : CallF) (P : Program) (ops : Array Oper) : List Oper → List AV → Heap → Option (List AV × Heap)
  | [], e, h => some (e, h)
  | o :: rest, e, h =>
    match wantedA ops e o with
    | some true =>
      (match o.op with
      | .call ⟨.builtin .recover, _, _⟩ => opsS call P ops rest (putA e o.dst .nilIface) h
      | _ => (match aop P e h o.op with
        | some (v, h') => opsS call P ops rest (putA e o.dst v) h'
        | none => none))
    | some false => opsS call P ops rest (putA e o.dst (.tuple [])) h
    | none => none
def execS (draw : DrawF) (call : CallF) (P : Program) (n : Nat) : Code → List AV → Heap → Option (Out × List AV × Heap)
  | .region _ ops false, e, h => (match opsS call P ops ops.toList e h with | some (e', h') => some (.normal, e', h') | none => none)
  | .seq a b, e, h =>
    match execS draw call P n a e h with
    | some (.normal, e', h') => execS draw call P n b e' h'
    | r => r
  | .cond c a b, e, h =>
    match evalA P e c with
    | .bool t => bif t then execS draw call P n a e h else execS draw call P n b e h
    | _ => none
  | c, e, h => execA draw call P n c e h

def FinS (P : Program) (φ : List Emb) (w0 : World) (ds : List Deferred) (cs : List Frame) (Q : Exit → Act → List Frame → World → Prop) (r : Out × List AV × Heap) : Prop :=
  ∀ φ' w' a', Up φ φ' → R P φ' r.2.2 w0 w' → Vs φ' r.2.1 a'.tmps.toList → a'.defers = ds → QOutS φ' (fun e a w => Q e a cs w) r.1 a' w'
theorem FinS.up {φ φ' : List Emb} {w0 : World} {ds : List Deferred} {cs : List Frame} {Q : Exit → Act → List Frame → World → Prop} {r : Out × List AV × Heap} (h : FinS P φ w0 ds cs Q r) (hu : Up φ φ') : FinS P φ' w0 ds cs Q r :=
  fun φ'' w' a' h1 => h φ'' w' a' (hu.trans h1)

theorem opsS_wp (hF : Fns P) {call : CallF} (hcall : CallsOk P call) {ops : Array Oper} {w0 : World} {cs : List Frame} (hcs : recoverD cs = none) {Q : Exit → Act → List Frame → World → Prop} {ds : List Deferred} {r : List AV × Heap} : ∀ (rest : List Oper) (k : Nat), ops.toList.drop k = rest → ∀ (φ : List Emb) (e : List AV) (h : Heap) (w : World) (a : Act),
    R P φ h w0 w → Vs φ e a.tmps.toList → a.defers = ds → opsS call P ops rest e h = some r →
    (∀ φ' w' a', Up φ φ' → R P φ' r.2 w0 w' → Vs φ' r.1 a'.tmps.toList → a'.defers = ds → Q .normal a' cs w') → wpOpsSIn (wideR none) 0 P ops Q (List.range' k rest.length) a cs w
  | [], k, hk, φ, e, h, w, a, hR, he, hd, hr, hf => by
    simp only [opsS, Option.some.injEq] at hr
    subst hr
    exact hf φ w a (Up.refl _) hR he hd
  | o :: rest, k, hk, φ, e, h, w, a, hR, he, hd, hr, hf => by
    have hok : ops[k]? = some o := by
      have : (ops.toList.drop k)[0]? = some o := by rw [hk]; rfl
      rw [List.getElem?_drop, Nat.add_zero, Array.getElem?_toList] at this
      exact this
    have hk' : ops.toList.drop (k + 1) = rest := by
      rw [← List.drop_drop, hk]; rfl
    have ih := opsS_wp hF hcall (w0 := w0) hcs (Q := Q) (ds := ds) (r := r) rest (k + 1) hk'
    have hρ := fun x => evalA_V hR he x
    have hguard : ∀ t, wantedA ops e o = some t → Region.wanted o (yielded ops a.tmps) = t := fun t ht =>
      wantedA_eq (φ := φ) ht fun j b d _ _ => by
        have := nth_V he d
        simpa [Array.getD_eq_getD_getElem?, List.getD_eq_getElem?_getD] using this
    simp only [List.length_cons, List.range'_succ, wpOpsSIn, hok]
    refine ⟨fun _ _ => trivial, ?_⟩
    simp only [opsS] at hr
    split at hr
    · rename_i hw
      rw [hguard true hw]
      simp only [if_true]
      split at hr
      · rename_i xs ats hop
        obtain ⟨dst, op, type, pos, after, guard⟩ := o
        simp only at hop hr
        subst hop
        have hrun : (execOp a.eval ⟨dst, .call ⟨.builtin .recover, xs, ats⟩, type, pos, after, guard⟩).run P w = .ok .recover w := rfl
        rw [hrun]
        simp only [hcs]
        exact ih φ _ h w _ hR (putA_V he dst (by simp [V])) (by rw [put_defers']; exact hd) hr hf
      · rename_i hnot
        split at hr
        · rename_i v h' ho
          obtain ⟨act, φ1, w1, h1, ⟨v', hact, hv⟩, hu, hR1⟩ := aop_run hR hρ ho
          have hn := ih φ1 (putA e o.dst v) h' w1 (a.put o.dst v') hR1 (putA_V (Vs.up hu _ _ he) o.dst hv) (by rw [put_defers']; exact hd) hr (fun φ'' w'' a'' hu' => hf φ'' w'' a'' (hu.trans hu'))
          rw [h1]
          rcases hact with rfl | ⟨rfl, rfl⟩
          · exact hn
          · exact hn
        · cases hr
    · rename_i hw
      rw [hguard false hw]
      simp only [Bool.false_eq_true, if_false]
      exact ih φ _ h w _ hR (putA_V he o.dst (undef_V φ)) (by rw [put_defers']; exact hd) hr hf
    · cases hr

theorem execS_of (hF : Fns P) {draw : DrawF} (hD : DrawOk P draw) {call : CallF} (hcall : CallsOk P call) {w0 : World} {n : Nat} {cs : List Frame} {c : Code} {Q : Exit → Act → List Frame → World → Prop} {φ : List Emb} {e : List AV} {h : Heap} {w : World} {a : Act} {r : Out × List AV × Heap}
    (hR : R P φ h w0 w) (he : Vs φ e a.tmps.toList) (hr : execA draw call P n c e h = some r) (hf : FinS P φ w0 a.defers cs Q r) : c.wpSIn (wideR none) 0 P Q a cs w := by
  refine wpSIn_of_wpIn rfl (execA_wp hF hD hcall c _ φ e h w a r hR he hr ?_)
  intro φ' w' a' hu hR' he' hd'
  have := hf φ' w' a' hu hR' he' hd'
  obtain ⟨o, e', h'⟩ := r
  cases o <;> exact this
theorem execS_wp (hF : Fns P) {draw : DrawF} (hD : DrawOk P draw) {call : CallF} (hcall : CallsOk P call) {w0 : World} {n : Nat} {cs : List Frame} (hcs : recoverD cs = none) : ∀ (c : Code) (Q : Exit → Act → List Frame → World → Prop) (φ : List Emb) (e : List AV) (h : Heap) (w : World) (a : Act) (r : Out × List AV × Heap),
    R P φ h w0 w → Vs φ e a.tmps.toList → execS draw call P n c e h = some r → FinS P φ w0 a.defers cs Q r → c.wpSIn (wideR none) 0 P Q a cs w
  | .region id ops true, Q, φ, e, h, w, a, r, hR, he, hr, hf => execS_of hF hD hcall hR he (by simpa only [execS] using hr) hf
  | .region id ops false, Q, φ, e, h, w, a, r, hR, he, hr, hf => by
    simp only [execS] at hr
    split at hr
    · rename_i e' h' hx
      cases hr
      refine wpSIn_region ?_
      have := opsS_wp hF hcall (w0 := w0) hcs (Q := Q) (ds := a.defers) ops.toList 0 rfl φ e h w a hR he rfl hx (fun φ' w' a' hu hR' he' hd' => hf φ' w' a' hu hR' he' hd')
      rw [Array.length_toList] at this
      rw [List.range_eq_range']
      exact this
    · cases hr
  | .seq x y, Q, φ, e, h, w, a, r, hR, he, hr, hf => by
    refine wpSIn_seq ?_
    simp only [execS] at hr
    split at hr
    · rename_i e' h' hx
      refine execS_wp hF hD hcall hcs x _ φ e h w a _ hR he hx ?_
      intro φ' w' a' hu hR' he' hd'
      exact execS_wp hF hD hcall hcs y Q φ' e' h' w' a' r hR' he' hr (by rw [hd']; exact hf.up hu)
    · rename_i hno
      refine execS_wp hF hD hcall hcs x _ φ e h w a r hR he hr ?_
      intro φ' w' a' hu hR' he' hd'
      have := hf φ' w' a' hu hR' he' hd'
      obtain ⟨o, e', h'⟩ := r
      cases o with
      | normal => exact absurd hr (hno e' h')
      | exit id => exact this
      | ret => exact this
      | pan v => exact this
  | .cond c x y, Q, φ, e, h, w, a, r, hR, he, hr, hf => by
    simp only [execS] at hr
    split at hr
    · rename_i t ht
      have hc := evalA_V hR he c
      rw [ht] at hc
      simp only [V] at hc
      cases t with
      | true => exact wpSIn_cond hc (execS_wp hF hD hcall hcs x Q φ e h w a r hR he hr hf)
      | false => exact wpSIn_cond hc (execS_wp hF hD hcall hcs y Q φ e h w a r hR he hr hf)
    · cases hr
  | .skip, Q, φ, e, h, w, a, r, hR, he, hr, hf => execS_of hF hD hcall hR he (by simpa only [execS] using hr) hf
  | .label _, Q, φ, e, h, w, a, r, hR, he, hr, hf => execS_of hF hD hcall hR he (by simpa only [execS] using hr) hf
  | .block _ _, Q, φ, e, h, w, a, r, hR, he, hr, hf => execS_of hF hD hcall hR he (by simpa only [execS] using hr) hf
  | .loop _, Q, φ, e, h, w, a, r, hR, he, hr, hf => execS_of hF hD hcall hR he (by simpa only [execS] using hr) hf
  | .exit _, Q, φ, e, h, w, a, r, hR, he, hr, hf => execS_of hF hD hcall hR he (by simpa only [execS] using hr) hf
  | .ret, Q, φ, e, h, w, a, r, hR, he, hr, hf => execS_of hF hD hcall hR he (by simpa only [execS] using hr) hf
  | .rangeFunc .., Q, φ, e, h, w, a, r, hR, he, hr, hf => execS_of hF hD hcall hR he (by simpa only [execS] using hr) hf
  | .scope .., Q, φ, e, h, w, a, r, hR, he, hr, hf => execS_of hF hD hcall hR he (by simpa only [execS] using hr) hf
  | .goto .., Q, φ, e, h, w, a, r, hR, he, hr, hf => execS_of hF hD hcall hR he (by simpa only [execS] using hr) hf
  | .refuse .., Q, φ, e, h, w, a, r, hR, he, hr, hf => execS_of hF hD hcall hR he (by simpa only [execS] using hr) hf


def noDraw : DrawF := fun _ _ _ _ => none
theorem noDraw_ok : DrawOk P noDraw := fun _ _ _ _ _ _ _ _ _ _ _ _ _ _ _ hr => by cases hr
def noCallA : CallF := fun _ _ _ => none
theorem noCallA_ok : CallsOk P noCallA := fun _ _ _ _ hr => by cases hr
theorem frameA_Vs {φ : List Emb} {fn : Func} {args : List AV} {args' : Array Value} (ha : Vs φ args args'.toList) : Vs φ (frameA fn args) (args' ++ Array.replicate (fn.ntmps - args'.size) undef).toList := by
  have hlen : args'.size = args.length := by rw [← Array.length_toList, ha.length]
  simp only [frameA, Array.toList_append, Array.toList_replicate]
  refine ha.append (Vs.of_get (by simp [hlen]) fun i a v h1 h2 => ?_)
  rw [List.getElem?_replicate] at h1 h2
  split at h1
  · cases h1
    split at h2
    · cases h2; exact undef_V φ
    · cases h2
  · cases h1
/-- A deferred call that leaves all as it was. -/
def Stills (P : Program) (f : FuncId) (args : List AV) (h : Heap) : Prop :=
  ∃ fn c o e n, P.funcs[f]? = some fn ∧ fn.body = some c ∧ execS noDraw noCallA P n c (frameA fn args) h = some (o, e, h) ∧ (o = .normal ∨ o = .ret) ∧ fn.results.toList = []
theorem stills_ok (hF : Fns P) {f : FuncId} {args : List AV} {h : Heap} (hs : Stills P f args h) : DPost P f args h [(.tuple [], h)] := by
  obtain ⟨fn, c, o, e, n, hf, hb, hx, ho, hres⟩ := hs
  intro φ w0 w args' hR hv
  refine ⟨callFunc_run hF hf hb _ _, callsDIn_of_wpSIn hf hb trivial fun c₀ cs hu0 => ?_⟩
  have hcs : recoverD (c₀ :: cs) = none := by simp [recoverD, hu0]
  refine execS_wp hF noDraw_ok noCallA_ok hcs c _ φ _ h w _ _ hR (frameA_Vs hv) hx fun φ' w' a' hu hR' he' hd => ?_
  have hvs : resultsA P e h fn.results.toList = some [] := by rw [hres]; rfl
  obtain ⟨u, h1, h2⟩ := results_run hR' he' hvs
  have post : LPost P φ w0 [(.tuple [], h)] (.returned u) w' := ⟨_, List.mem_singleton.2 rfl, φ', u, rfl, hu, hR', h2⟩
  rcases ho with rfl | rfl
  · exact ⟨hd, .returning, by rw [← hu0], u, h1, rfl, post⟩
  · exact ⟨hd, .returning, by rw [← hu0], u, h1, rfl, post⟩
/-- Deferred calls of n arguments that find nothing to recover. -/
def stillM (fs : List (FuncId × Nat)) : CallM := fun f args h => bif fs.any (fun p => Nat.beq p.1 f && Nat.beq (lenF args) p.2) then some [(.tuple [], h)] else none
theorem stillM_ok (hF : Fns P) {fs : List (FuncId × Nat)} (hfs : ∀ p ∈ fs, ∀ args h, args.length = p.2 → Stills P p.1 args h) : DCallOk P (stillM fs) where
  post := fun f args h L hL => by
    unfold stillM at hL
    rw [cond_eq_ite] at hL
    split at hL
    · rename_i hb
      cases hL
      obtain ⟨p, hp, hq⟩ := List.any_eq_true.1 hb
      rw [Bool.and_eq_true] at hq
      have h1 := Nat.eq_of_beq_eq_true hq.1
      have h2 := Nat.eq_of_beq_eq_true hq.2
      rw [lenF_eq] at h2
      subst h1
      exact stills_ok hF (hfs p hp args h h2)
    · cases hL
  grow := fun f args h L hL => by
    unfold stillM at hL
    rw [cond_eq_ite] at hL
    split at hL
    · cases hL
      intro p hp
      rw [List.mem_singleton] at hp
      subst hp
      exact Grows.refl _
    · cases hL
end
end Go.Am
