/- Parts of the proof by the abstract machine: EvS, Ex, SortK. -/
import Derived.Test.YteoekjfgihnhaaaGreatDoorHmGRB14
import Derived.IntWalk
set_option linter.all false
noncomputable section
namespace Go.Am
open Go.RowKit

/-! ### Lists -/
section
variable {α β : Type}
theorem dropF_eq : ∀ (n : Nat) (l : List α), dropF n l = l.drop n
  | 0, _ => rfl
  | _ + 1, [] => rfl
  | n + 1, _ :: t => dropF_eq n t
theorem takeF_eq : ∀ (n : Nat) (l : List α), takeF n l = l.take n
  | 0, _ => rfl
  | _ + 1, [] => rfl
  | n + 1, a :: t => congrArg (a :: ·) (takeF_eq n t)
theorem appF_eq : ∀ (l m : List α), appF l m = l ++ m
  | [], _ => rfl
  | a :: t, m => congrArg (a :: ·) (appF_eq t m)
theorem mapF_eq (f : α → β) : ∀ (l : List α), mapF f l = l.map f
  | [] => rfl
  | a :: t => congrArg (f a :: ·) (mapF_eq f t)
theorem forceN_eq (n : Nat) (k : Nat → α) : forceN n k = k n := by cases n <;> rfl
theorem lenAcc_eq : ∀ (l : List α) (n : Nat), lenAcc l n = n + l.length
  | [], n => rfl
  | a :: t, n => by
    show forceN n (fun n => lenAcc t (Nat.succ n)) = _
    rw [forceN_eq, lenAcc_eq t, List.length_cons]; omega
theorem lenF_eq (l : List α) : lenF l = l.length := by unfold lenF; rw [lenAcc_eq]; omega
theorem hasF_iff : ∀ (n : Nat) (l : List α), hasF n l = true ↔ n ≤ l.length
  | 0, _ => ⟨fun _ => Nat.zero_le _, fun _ => rfl⟩
  | n + 1, [] => by simp [hasF]
  | n + 1, _ :: t => by
    show hasF n t = true ↔ _
    rw [hasF_iff n t, List.length_cons]; omega
theorem nthF_eq : ∀ (n : Nat) (l : List α), nthF n l = l[n]?
  | 0, [] => rfl
  | 0, _ :: _ => rfl
  | _ + 1, [] => rfl
  | n + 1, _ :: t => by
    show nthF n t = _
    rw [nthF_eq n t]; simp
theorem overF_eq (vs : List α) : ∀ (o : Nat) (l : List α), o + vs.length ≤ l.length → overF vs o l = over l o vs
  | 0, l, _ => by
    show appF vs (dropF (lenF vs) l) = _
    rw [appF_eq, dropF_eq, lenF_eq]; simp [over]
  | o + 1, [], h => by simp at h
  | o + 1, a :: t, h => by
    show a :: overF vs o t = _
    rw [overF_eq vs o t (by simp at h; omega)]
    simp [over, show o + 1 + vs.length = (o + vs.length) + 1 by omega]
end
theorem u8_beq (b c : UInt8) : Nat.beq b.toNat c.toNat = decide (b = c) := by
  rw [beq1]
  congr 1
  rw [UInt8.toNat_inj]
theorem eqS_eq : ∀ (a b : List UInt8), eqS a b = decide (a = b)
  | [], [] => by simp [eqS]
  | [], _ :: _ => by simp [eqS]
  | _ :: _, [] => by simp [eqS]
  | x :: a, y :: b => by
    show Bool.rec (motive := fun _ => Bool) false (eqS a b) (Nat.beq x.toNat y.toNat) = _
    rw [u8_beq, eqS_eq a b]
    by_cases h : x = y
    · subst h; simp
    · simp [h]

/-! ### Frames -/

def envL (n : Nat) (e : Env) : List AV := (List.range n).map fun t => e.at (refOf t)
theorem envL_length (n : Nat) (e : Env) : (envL n e).length = n := by simp [envL]
theorem envL_get (n : Nat) (e : Env) (t : Nat) : (envL n e)[t]? = if t < n then some (e.at (refOf t)) else none := by
  by_cases h : t < n
  · simp [envL, h]
  · simp [envL, h]
theorem nth_get? : ∀ (l : List AV) (t : Nat), nth l t = (l[t]?).getD .unk
  | [], _ => rfl
  | _ :: _, 0 => rfl
  | _ :: l, t + 1 => by simp only [nth, List.getElem?_cons_succ]; exact nth_get? l t
theorem nth_envL (n : Nat) (e : Env) (t : Nat) : nth (envL n e) t = if t < n then e.at (refOf t) else .unk := by
  rw [nth_get?, envL_get]
  by_cases h : t < n <;> simp [h]
theorem beq_dec {α : Type} [BEq α] [LawfulBEq α] [DecidableEq α] (a b : α) : (a == b) = decide (a = b) := by by_cases h : a = b <;> simp [h]
theorem blt_dec (a b : Nat) : Nat.blt a b = decide (a < b) := by
  cases h : Nat.blt a b with
  | true => simp [(blt_iff a b).1 h]
  | false =>
    have : ¬ a < b := fun hh => by rw [(blt_iff a b).2 hh] at h; cases h
    simp [this]
theorem tmpS_ev (n t : Nat) (e : Env) : (tmpS n t).ev e = nth (envL n e) t := by
  rw [nth_envL]
  unfold tmpS
  rw [blt_dec]
  by_cases h : t < n
  · rw [decide_eq_true h, if_pos h]
    exact srcTab_ev _ _ _
  · rw [decide_eq_false h, if_neg h]
    rfl
theorem srcOf_ev (P : Program) (n : Nat) (x : Operand) (e : Env) : (srcOf P n x).ev e = evalA P (envL n e) x := by
  cases x with
  | tmp t => exact tmpS_ev n t e
  | const v =>
    show constA v = _
    simp only [constA, evalA]
    cases ofValue v <;> rfl
  | global g =>
    show globA P g = _
    simp only [globA, evalA]
    cases Nat.blt g P.globals.size <;> rfl
  | func f => rfl
theorem tmpD_put {n : Nat} (hn : n ≤ 256) (t : Nat) (v : AV) (e : Env) : envL n ((tmpD n t).put v e) = (envL n e).set t v := by
  unfold tmpD
  rw [blt_dec]
  by_cases h : t < n
  · rw [decide_eq_true h]
    show envL n ((dstTab _ _).put v e) = _
    rw [dstTab_put]
    apply List.ext_getElem?
    intro i
    rw [envL_get, List.getElem?_set, envL_length, envL_get]
    by_cases hi : i < n
    · rw [if_pos hi]
      by_cases hti : t = i
      · subst hti
        rw [if_pos rfl, if_pos h]
        exact congrArg some (Env.at_put _ _ _)
      · rw [if_neg hti, if_pos hi]
        exact congrArg some (Env.at_put_ne (by omega) (by omega) (Ne.symm hti) v e)
    · rw [if_neg hi]
      by_cases hti : t = i
      · subst hti; omega
      · rw [if_neg hti, if_neg hi]
  · rw [decide_eq_false h]
    show envL n e = _
    rw [List.set_eq_of_length_le (by rw [envL_length]; omega)]
theorem dstOf_put {n : Nat} (hn : n ≤ 256) (d : Option Tmp) (v : AV) (e : Env) : envL n ((dstOf n d).put v e) = putA (envL n e) d v := by
  cases d with
  | none => rfl
  | some t => exact tmpD_put hn t v e

/-! ### What a value is -/

theorem asPtr_some {v : AV} {l : Loc} (h : asPtr v = some l) : v = .ptr (some l) := by
  cases v <;> first | (cases h; done) | skip
  cases h; rfl
theorem asI_some {v : AV} {i : IK} (h : asI v = some i) : v = .int i.k i.n := by
  cases v <;> first | (cases h; done) | skip
  cases h; rfl
theorem asB_some {v : AV} {b : Bool} (h : asB v = some b) : v = .bool b := by
  cases v <;> first | (cases h; done) | skip
  cases h; rfl
theorem asSl_some {v : AV} {s : SL} (h : asSl v = some s) : v = .slice s.l s.n s.c := by
  cases v <;> first | (cases h; done) | skip
  cases h; rfl
theorem asStr_some {v : AV} {s : List UInt8} (h : asStr v = some s) : v = .str s := by
  cases v <;> first | (cases h; done) | skip
  cases h; rfl
theorem asTup_some {v : AV} {s : List AV} (h : asTup v = some s) : v = .tuple s := by
  cases v <;> first | (cases h; done) | skip
  cases h; rfl
theorem asIface_some {v : AV} {i : IFV} (h : asIface v = some i) : v = .iface i.t i.v := by
  cases v <;> first | (cases h; done) | skip
  cases h; rfl
theorem asFn_fn {v : AV} {f : FuncId} {a b : List AV} (h : asFn v = .fn f a b) : v = .func (.func f) a b := by
  cases v <;> first | (cases h; done) | skip
  rename_i g x y
  cases g <;> first | (cases h; done) | skip
  cases h; rfl
theorem asFn_yield {v : AV} {k : Nat} (h : asFn v = .yield k) : v = .yield k := by
  cases v <;> first | (cases h; done) | skip
  · rename_i g x y
    cases g <;> first | (cases h; done) | skip
  · cases h; rfl
theorem cellsM_eq (v : AV) : cellsM v = cellsA v := by cases v <;> rfl
theorem cellOkM_eq (v : AV) : cellOkM v = cellOk v := by cases v <;> rfl
theorem cellsOkM_eq : ∀ (l : List AV), cellsOkM l = cellsOk l
  | [] => rfl
  | a :: t => by
    show Bool.rec (motive := fun _ => Bool) false (cellsOkM t) (cellOkM a) = _
    rw [cellOkM_eq, cellsOkM_eq t, cellsOk]
    cases cellOk a <;> rfl

/-! ### One operation -/

def CI.run (c : CI) (e : Env) (h : Heap) : R1 := CI.rec (fun f => f e h) c
theorem s1_run (a : Src) (k : G → OpK) (e : Env) (h : Heap) : (s1 a k).run e h = k a.ev e h := by cases a; rfl
theorem s2_run (a b : Src) (k : G → G → OpK) (e : Env) (h : Heap) : (s2 a b k).run e h = k a.ev b.ev e h := by cases a; cases b; rfl
theorem s3_run (a b c : Src) (k : G → G → G → OpK) (e : Env) (h : Heap) : (s3 a b c k).run e h = k a.ev b.ev c.ev e h := by cases a; cases b; cases c; rfl

theorem okv_ok {h h' : Heap} {x : Option AV} {v : AV} (hx : okv h x = .ok v h') : x = some v ∧ h' = h := by
  cases x with
  | none => cases hx
  | some y => cases hx; exact ⟨rfl, rfl⟩
theorem okp_ok {h' : Heap} {x : Option (AV × Heap)} {v : AV} (hx : okp x = .ok v h') : x = some (v, h') := by
  cases x with
  | none => cases hx
  | some y => obtain ⟨a, b⟩ := y; cases hx; rfl
/-- `Option.rec` that comes to something. -/
theorem orec_ok {α : Type} {o : Option α} {k : α → R1} {v : AV} {h : Heap} (hx : Option.rec (motive := fun _ => R1) .no k o = .ok v h) : ∃ a, o = some a ∧ k a = .ok v h := by
  cases o with
  | none => cases hx
  | some a => exact ⟨a, rfl, hx⟩
theorem brec_ok {b : Bool} {k : R1} {v : AV} {h : Heap} (hx : Bool.rec (motive := fun _ => R1) .no k b = .ok v h) : b = true ∧ k = .ok v h := by
  cases b with
  | false => cases hx
  | true => exact ⟨rfl, hx⟩

theorem cellsAt_some {h : Heap} {l : Loc} {cs : List AV} (hc : cellsAt h l = some cs) : ∃ k, h.get l.id = some (.cells cs k) := by
  unfold cellsAt at hc
  cases ho : h.get l.id with
  | none => rw [ho] at hc; cases hc
  | some o =>
    rw [ho] at hc
    cases o <;> first | (cases hc; done) | skip
    cases hc
    exact ⟨_, rfl⟩
theorem load1_ok {P : Program} {t : TypeId} {h h' : Heap} {l : Loc} {v : AV} (ha : aggA P t = some false) (hx : load1 h l = .ok v h') : loadA P h t l = some v ∧ h' = h := by
  obtain ⟨cs, hc, hx⟩ := orec_ok hx
  obtain ⟨hv, rfl⟩ := okv_ok hx
  obtain ⟨k, hk⟩ := cellsAt_some hc
  rw [nthF_eq] at hv
  refine ⟨?_, rfl⟩
  have hlt := (List.getElem?_eq_some_iff.1 hv).1
  have hb : Nat.ble (l.off + 1) cs.length = true := (ble_iff _ _).2 hlt
  have ht : (cs.drop l.off).take 1 = [v] := by
    rw [List.drop_eq_getElem_cons hlt, List.take_succ_cons, List.take_zero, (List.getElem?_eq_some_iff.1 hv).2]
  simp only [loadA, ha, readA, hk, hb, cond_true, ht]
theorem loadN_ok {P : Program} {t : TypeId} {n : Nat} {h h' : Heap} {l : Loc} {v : AV} (ha : aggA P t = some true) (hs : sizeA P t = some n) (hx : loadN n h l = .ok v h') : loadA P h t l = some v ∧ h' = h := by
  obtain ⟨cs, hc, hx⟩ := orec_ok hx
  obtain ⟨hb, hx⟩ := brec_ok hx
  cases hx
  obtain ⟨k, hk⟩ := cellsAt_some hc
  have hb := (hasF_iff _ _).1 hb
  have hb' : Nat.ble (l.off + n) cs.length = true := (ble_iff _ _).2 hb
  refine ⟨?_, rfl⟩
  simp only [loadA, ha, hs, readA, hk, hb', cond_true, takeF_eq, dropF_eq]
theorem ownAt_mk {h : Heap} {l : Loc} {cs : List AV} {k : Kind} (ho : ownAt h l = .mk cs k) : h.get l.id = some (.cells cs k) ∧ k ≠ .ro := by
  unfold ownAt at ho
  cases hg : h.get l.id with
  | none => rw [hg] at ho; cases ho
  | some o =>
    rw [hg] at ho
    cases o <;> first | (cases ho; done) | skip
    rename_i c q
    cases q <;> first | (cases ho; done) | skip
    all_goals (cases ho; exact ⟨rfl, by simp⟩)
theorem writeM_some {h h' : Heap} {l : Loc} {vs : List AV} (hx : writeM h l vs = some h') : writeA h l vs = some h' := by
  unfold writeM at hx
  cases hc : cellsOkM vs with
  | false => rw [hc] at hx; cases hx
  | true =>
    rw [hc] at hx
    change write1 h l vs = some h' at hx
    unfold write1 at hx
    cases ho : ownAt h l with
    | no => rw [ho] at hx; cases hx
    | mk cs k =>
      rw [ho] at hx
      obtain ⟨hg, hk⟩ := ownAt_mk ho
      change Bool.rec none (some (h.set l.id (.cells (overF vs l.off cs) k))) (hasF (Nat.add l.off (lenF vs)) cs) = some h' at hx
      cases hb : hasF (Nat.add l.off (lenF vs)) cs with
      | false => rw [hb] at hx; cases hx
      | true =>
        rw [hb] at hx
        cases hx
        have hb := (hasF_iff _ _).1 hb
        rw [lenF_eq] at hb
        have hb : l.off + vs.length ≤ cs.length := hb
        have hb' : Nat.ble (l.off + vs.length) cs.length = true := (ble_iff _ _).2 hb
        rw [cellsOkM_eq] at hc
        unfold writeA
        rw [hg, overF_eq _ _ _ hb]
        cases k with
        | ro => exact absurd rfl hk
        | _ => simp only [hc, hb', Bool.and_self, cond_true]
theorem sameK_eq {a b : IntKind} (h : sameK a b = true) : a = b := by
  cases a <;> cases b <;> first | rfl | (cases h; done)
theorem wrapM_eq (k : IntKind) (n : Int) : wrapM k n = k.wrap n := by
  cases n with
  | negSucc m => rfl
  | ofNat m =>
    show Bool.rec (motive := fun _ => Int) (k.wrap (Int.ofNat m)) (Int.ofNat m) (Nat.ble m (topN k)) = _
    cases hb : Nat.ble m (topN k) with
    | false => rfl
    | true =>
      have hle := (ble_iff _ _).1 hb
      show Int.ofNat m = _
      rw [Int.ofNat_eq_natCast]
      symm
      cases k <;> simp only [topN] at hle
      · exact IntWalk.i8_in _ (by omega)
      · exact IntWalk.i16_in _ (by omega)
      · exact IntWalk.i32_in _ (by omega)
      · exact IntWalk.i64_in _ (by omega)
      · exact IntWalk.u8_in _ (by omega)
      · exact IntWalk.u16_in _ (by omega)
      · exact IntWalk.u32_in _ (by omega)
      · exact IntWalk.u64_in _ (by omega)
theorem addI_eq (a b : Int) : addI a b = a + b := by
  cases a <;> cases b <;> rfl
theorem subI_eq (a b : Int) : subI a b = a - b := by
  cases a with
  | negSucc m => rfl
  | ofNat m =>
    cases b with
    | negSucc n => rfl
    | ofNat n =>
      show Bool.rec (motive := fun _ => Int) (Int.sub (Int.ofNat m) (Int.ofNat n)) (Int.ofNat (Nat.sub m n)) (Nat.ble n m) = _
      cases hb : Nat.ble n m with
      | false => rfl
      | true =>
        have hle := (ble_iff _ _).1 hb
        show Int.ofNat (m - n) = Int.ofNat m - Int.ofNat n
        simp only [Int.ofNat_eq_natCast]; omega
theorem ltI_eq (a b : Int) : ltI a b = decide (a < b) := by
  cases a with
  | ofNat m =>
    cases b with
    | ofNat n =>
      show Nat.blt m n = _
      rw [blt_dec]; congr 1; simp
    | negSucc n =>
      show false = _
      symm; rw [decide_eq_false_iff_not]; simp only [Int.ofNat_eq_natCast]; omega
  | negSucc m =>
    cases b with
    | ofNat n =>
      show true = _
      symm; rw [decide_eq_true_iff]; simp only [Int.ofNat_eq_natCast]; omega
    | negSucc n =>
      show Nat.blt n m = _
      rw [blt_dec]; congr 1; apply propext; omega
theorem eqI_eq (a b : Int) : eqI a b = decide (a = b) := by
  cases a with
  | ofNat m =>
    cases b with
    | ofNat n =>
      show Nat.beq m n = _
      rw [beq1]; congr 1; apply propext; simp only [Int.ofNat_eq_natCast]; omega
    | negSucc n => rfl
  | negSucc m =>
    cases b with
    | ofNat n => rfl
    | negSucc n =>
      show Nat.beq m n = _
      rw [beq1]; congr 1; apply propext; constructor
      · rintro rfl; rfl
      · intro h; cases h; rfl

theorem biSame_some {f : BI} {a b : IK} {v : AV} (h : biSame f a b = some v) : a.k = b.k ∧ f a b = some v := by
  unfold biSame at h
  cases hs : sameK a.k b.k with
  | false => rw [hs] at h; cases h
  | true => rw [hs] at h; exact ⟨sameK_eq hs, h⟩
theorem bi_run {P : Program} {h : Heap} {op : BinOp} {t : TypeId} {xo yo : Operand} {a b : IK} {v : AV} (hx : biOf op a b = some v) : binA P h op t xo yo (.int a.k a.n) (.int b.k b.n) = some v := by
  cases op
  case shl => exact hx
  case shr => exact hx
  all_goals
    obtain ⟨hk, hx⟩ := biSame_some hx
    simp only [binA, if_pos hk]
    first
      | exact hx
      | (cases hx; simp only [intA, wrapM_eq, addI_eq, subI_eq, eqI_eq, ltI_eq]; done)
      | (cases hx
         simp only [intA, wrapM_eq, addI_eq, subI_eq, eqI_eq, ltI_eq]
         first
           | rfl
           | (refine congrArg (fun b => some (AV.bool b)) ?_
              rw [← decide_not]
              congr 1
              apply propext
              omega)
           | (refine congrArg (fun b => some (AV.bool b)) ?_
              rw [bne, ← decide_not_eq]))
theorem bs_run {P : Program} {h : Heap} {op : BinOp} {t : TypeId} {xo yo : Operand} {a b : List UInt8} {v : AV} (hx : bsOf op a b = some v) : binA P h op t xo yo (.str a) (.str b) = some v := by
  cases op
  case eql =>
    change some (AV.bool (eqS a b)) = some v at hx
    rw [eqS_eq] at hx
    rw [← hx]; simp only [binA, strA]; rw [beq_dec]
  case neq =>
    change some (AV.bool (not (eqS a b))) = some v at hx
    rw [eqS_eq] at hx
    rw [← hx]; simp only [binA, strA]; rw [beq_dec]
  all_goals exact hx

theorem isStr_eq {P : Program} {t : TypeId} (h : isStr P t = true) : P.underlying t = some .string := by
  unfold isStr at h
  split at h
  · assumption
  · cases h
theorem evM_eq (P : Program) (n : Nat) (e : Env) (l : List Operand) : evM e (srcsOf P n l) = evals P (envL n e) l := by
  simp only [evM, srcsOf, mapF_eq, evals, List.map_map]
  apply List.map_congr_left
  intro x _
  exact srcOf_ev P n x e
theorem ixAt_ok {h h' : Heap} {l : Loc} {len size : Nat} {i : IK} {v : AV} (hx : ixAt h l len size i = .ok v h') : (0 ≤ i.n ∧ i.n < (len : Int)) ∧ v = .ptr (some ⟨l.id, l.off + i.n.toNat * size⟩) ∧ h' = h := by
  obtain ⟨k, n⟩ := i
  cases n with
  | negSucc m => cases hx
  | ofNat m =>
    obtain ⟨hb, hx⟩ := brec_ok hx
    have hb := (blt_iff _ _).1 hb
    cases hx
    exact ⟨by simp only [Int.ofNat_eq_natCast]; omega, rfl, rfl⟩

theorem compOp_run {P : Program} {n : Nat} {op : Op} {e : Env} {h h' : Heap} {v : AV} (hx : (compOp P n op).run e h = .ok v h') : aop P (envL n e) h op = some (v, h') := by
  rw [aop_eq]
  rw [show evalA P (envL n e) = fun x => (srcOf P n x).ev e from funext fun x => (srcOf_ev P n x e).symm]
  have raw : ∀ {op' : Op}, (raw0 P n op').run e h = .ok v h' → aopE P (fun x => (srcOf P n x).ev e) h op' = some (v, h') := fun hx => okp_ok hx
  cases op
  case move x =>
    rw [compOp, s1_run] at hx; cases hx; rfl
  case assign x =>
    rw [compOp, s1_run] at hx; cases hx; rfl
  case pick c a b =>
    rw [compOp, s3_run] at hx
    obtain ⟨t, ht, hx⟩ := orec_ok hx
    cases hx
    simp only [aopE, asB_some ht]
    cases t <;> rfl
  case alloc t =>
    simp only [compOp, allocC] at hx
    cases hz : zeroA P t with
    | none => rw [hz] at hx; cases hx
    | some z =>
      rw [hz] at hx
      change (Option.rec (CI.op noOp) (fun cs => CI.op (allocM t cs)) (cellsM z) : CI).run e h = _ at hx
      cases hc : cellsM z with
      | none => rw [hc] at hx; cases hx
      | some cs =>
        rw [hc] at hx
        cases hx
        rw [cellsM_eq] at hc
        simp only [aopE, allocA, hz, boxA, hc]; rfl
  case box t x =>
    rw [compOp, s1_run] at hx
    obtain ⟨cs, hc, hx⟩ := orec_ok hx
    cases hx
    rw [cellsM_eq] at hc
    simp only [aopE, boxA, hc]; rfl
  case load t a =>
    simp only [compOp, loadC] at hx
    cases ha : aggA P t with
    | none => rw [ha] at hx; cases hx
    | some b =>
      rw [ha] at hx
      cases b with
      | false =>
        change (s1 (srcOf P n a) load1M).run e h = _ at hx
        rw [s1_run] at hx
        obtain ⟨l, hl, hx⟩ := orec_ok hx
        obtain ⟨h1, rfl⟩ := load1_ok ha hx
        simp only [aopE, asPtr_some hl, h1, withH]
      | true =>
        cases hs : sizeA P t with
        | none => rw [hs] at hx; cases hx
        | some k =>
          rw [hs] at hx
          change (s1 (srcOf P n a) (loadNM k)).run e h = _ at hx
          rw [s1_run] at hx
          obtain ⟨l, hl, hx⟩ := orec_ok hx
          obtain ⟨h1, rfl⟩ := loadN_ok ha hs hx
          simp only [aopE, asPtr_some hl, h1, withH]
  case store t a x =>
    simp only [compOp] at hx
    cases hs : sizeA P t with
    | none => rw [hs] at hx; cases hx
    | some k =>
      rw [hs] at hx
      change (s2 (srcOf P n a) (srcOf P n x) (storeM k)).run e h = _ at hx
      rw [s2_run] at hx
      obtain ⟨l, hl, hx⟩ := orec_ok hx
      obtain ⟨cs, hc, hx⟩ := orec_ok hx
      obtain ⟨hb, hx⟩ := brec_ok hx
      rw [lenF_eq] at hb
      rw [cellsM_eq] at hc
      cases hw : writeM h l cs with
      | none => rw [hw] at hx; cases hx
      | some h2 =>
        rw [hw] at hx
        cases hx
        simp only [aopE, asPtr_some hl, storeA, hs, hc, hb, cond_true, writeM_some hw]
  case nilCheck x =>
    rw [compOp, s1_run] at hx
    obtain ⟨h1, rfl⟩ := okv_ok hx
    simp only [aopE, h1, withH]
  case binOp op t x y ty =>
    rw [compOp, s2_run] at hx
    simp only [aopE]
    unfold binM at hx
    cases hi : asI ((srcOf P n x).ev e) with
    | some a =>
      rw [hi] at hx
      obtain ⟨b, hb, hx⟩ := orec_ok hx
      obtain ⟨h1, rfl⟩ := okv_ok hx
      rw [asI_some hi, asI_some hb, bi_run h1, withH]
    | none =>
      rw [hi] at hx
      cases hs : asStr ((srcOf P n x).ev e) with
      | some a =>
        rw [hs] at hx
        obtain ⟨b, hb, hx⟩ := orec_ok hx
        obtain ⟨h1, rfl⟩ := okv_ok hx
        rw [asStr_some hs, asStr_some hb, bs_run h1, withH]
      | none =>
        rw [hs] at hx
        obtain ⟨h1, rfl⟩ := okv_ok hx
        rw [h1, withH]
  case unOp op t x =>
    cases op
    case not =>
      rw [compOp, s1_run] at hx
      obtain ⟨b, hb, hx⟩ := orec_ok hx
      cases hx
      simp only [aopE, asB_some hb, unA, withH]
    all_goals exact raw hx
  case fieldAddr s x f =>
    simp only [compOp] at hx
    cases hf : fieldOff P s f with
    | none => rw [hf] at hx; cases hx
    | some off =>
      rw [hf] at hx
      change (s1 (srcOf P n x) (fieldAddrM off)).run e h = _ at hx
      rw [s1_run] at hx
      obtain ⟨l, hl, hx⟩ := orec_ok hx
      cases hx
      simp only [aopE, asPtr_some hl]
      unfold fieldOff at hf
      split at hf
      · rename_i fields hu
        split at hf
        · rename_i fl hfl
          split at hf
          · rename_i k hk
            cases hf
            simp only [fieldAddrA, hu, hfl, hk, withH]
            rfl
          · cases hf
        · cases hf
      · cases hf
  case indexAddr t x i =>
    simp only [compOp] at hx
    simp only [aopE]
    unfold ixK at hx
    split at hx
    · rename_i len el hu
      split at hx
      · rename_i s hs
        change (s2 (srcOf P n x) (srcOf P n i) (ixArrM len s)).run e h = _ at hx
        rw [s2_run] at hx
        obtain ⟨j, hj, hx⟩ := orec_ok hx
        obtain ⟨l, hl, hx⟩ := orec_ok hx
        obtain ⟨h1, rfl, rfl⟩ := ixAt_ok hx
        simp only [indexAddrA, asI_some hj, asPtr_some hl, hu, if_pos h1, hs, withH]
      · cases hx
    · rename_i el hu
      split at hx
      · rename_i s hs
        change (s2 (srcOf P n x) (srcOf P n i) (ixSlM s)).run e h = _ at hx
        rw [s2_run] at hx
        obtain ⟨j, hj, hx⟩ := orec_ok hx
        obtain ⟨sl, hsl, hx⟩ := orec_ok hx
        obtain ⟨l, hl, hx⟩ := orec_ok hx
        obtain ⟨h1, rfl, rfl⟩ := ixAt_ok hx
        simp only [indexAddrA, asI_some hj, asSl_some hsl, hl, hu, if_pos h1, hs, withH]
      · cases hx
    · cases hx
  case index t x i =>
    simp only [compOp] at hx
    simp only [aopE]
    cases hs : isStr P t with
    | false =>
      rw [hs] at hx
      change (s2 (srcOf P n x) (srcOf P n i) (indexRawM P t)).run e h = _ at hx
      rw [s2_run] at hx
      obtain ⟨h1, rfl⟩ := okv_ok hx
      rw [h1, withH]
    | true =>
      rw [hs] at hx
      change (s2 (srcOf P n x) (srcOf P n i) indexStrM).run e h = _ at hx
      rw [s2_run] at hx
      obtain ⟨j, hj, hx⟩ := orec_ok hx
      obtain ⟨s, hss, hx⟩ := orec_ok hx
      obtain ⟨k, m⟩ := j
      cases m with
      | negSucc m => cases hx
      | ofNat m =>
        obtain ⟨b, hb, hx⟩ := orec_ok hx
        cases hx
        rw [nthF_eq] at hb
        have h0 : (0 : Int) ≤ Int.ofNat m := by simp
        have hb' : s[(Int.ofNat m).toNat]? = some b := hb
        simp only [indexA, asI_some hj, asStr_some hss, isStr_eq hs]
        rw [if_pos h0, hb']
        rfl
  case extract x i =>
    rw [compOp, s1_run] at hx
    obtain ⟨vs, hv, hx⟩ := orec_ok hx
    obtain ⟨h1, rfl⟩ := okv_ok hx
    rw [nthF_eq] at h1
    simp only [aopE, extractA, asTup_some hv, h1, withH]
  case makeFunc f a b =>
    cases hx
    simp only [aopE, evM, srcsOf, mapF_eq, List.map_map]; rfl
  case call c =>
    obtain ⟨callee, args, ats⟩ := c
    cases callee with
    | value f => exact raw hx
    | invoke r m => exact raw hx
    | builtin b =>
      simp only [compOp, biC] at hx
      split at hx
      · rename_i x t hargs hats
        simp only [aopE, builtinA, hargs, hats, List.map_cons, List.map_nil]
        unfold lenK at hx
        split at hx
        · rename_i hu
          change (s1 (srcOf P n x) lenStrM).run e h = _ at hx
          rw [s1_run] at hx
          obtain ⟨s, hs, hx⟩ := orec_ok hx
          cases hx
          simp only [lenA, hu, asStr_some hs, withH, lenF_eq]; rfl
        · rename_i el hu
          change (s1 (srcOf P n x) lenSlM).run e h = _ at hx
          rw [s1_run] at hx
          obtain ⟨s, hs, hx⟩ := orec_ok hx
          cases hx
          simp only [lenA, hu, asSl_some hs, withH]; rfl
        · rename_i k el hu
          cases hx
          simp only [lenA, hu, withH]; rfl
        · change (s1 (srcOf P n x) (lenRawM P t)).run e h = _ at hx
          rw [s1_run] at hx
          obtain ⟨h1, rfl⟩ := okv_ok hx
          rw [h1, withH]
      · exact raw hx
  all_goals exact raw hx
end Go.Am

noncomputable section
namespace Go.Am
open Go.RowKit

/-- A deferred call; the mark of a range over a function. -/
inductive DVM where
  | call (f : FuncId) (args : List AV)
  | mark (k : Nat)
inductive Res where
  | mk (o : Out) (e : Env) (h : Heap) (ds : List DVM)
abbrev RX := Option (List Res)
abbrev KX := Env → Heap → List DVM → RX
abbrev KO := Out → KX
abbrev CallM := FuncId → List AV → Heap → Option (List (AV × Heap))
def joinR (a b : RX) : RX := Option.rec none (fun x => Option.rec none (fun y => some (appF x y)) b) a
def fanAll (l : List (AV × Heap)) (k : AV → Heap → RX) : RX := List.rec (some []) (fun p _ ih => joinR (Prod.rec (fun v h => k v h) p) ih) l
def fan (l : Option (List (AV × Heap))) (k : AV → Heap → RX) : RX := Option.rec none (fun l => List.rec none (fun p ps _ => List.rec (Prod.rec (fun v h => k v h) p) (fun _ _ _ => fanAll l k) ps) l) l

inductive CO where
  | mk (f : CallM → KX → KX)
def noC : CallM → KX → KX := fun _ _ _ _ _ => none
abbrev Pt := AV → Env → Env
def eqB (a b : Bool) : Bool := Bool.rec (not b) b a
/-- Is it wanted? -/
def wantM (g : G) (b : Bool) (e : Env) : Option Bool := Option.rec (isTup (g e)) (fun c => some (eqB c b)) (asB (g e))
def skipK (p : Pt) (k : KX) : KX := fun e h ds => k (p (.tuple []) e) h ds
def gateK (g : G) (b : Bool) (p : Pt) (f : CallM → KX → KX) : CallM → KX → KX := fun call k e h ds => Option.rec none (fun t => Bool.rec (skipK p k e h ds) (f call k e h ds) t) (wantM g b e)
inductive GD where
  | all
  | when (g : G) (b : Bool)
  | never
  | bad
def guardOf (n : Nat) (ops : Array Oper) (o : Oper) : GD :=
  match o.guard with
  | none => .all
  | some (j, b) => (match (ops[j]?).bind (·.dst) with | none => .never | some d => Bool.rec .bad (Src.rec (fun g => .when g b) (tmpS n d)) (Nat.blt d n))
def gated (gd : GD) (p : Pt) (f : CallM → KX → KX) : CO := GD.rec (.mk f) (fun g b => .mk (gateK g b p f)) (.mk fun _ => skipK p) (.mk noC) gd
def opK (p : Pt) (f : OpK) : CallM → KX → KX := fun _ k e h ds => R1.rec none (fun v h' => k (p v e) h' ds) (f e h)
def moveK (p : Pt) (g : G) : CallM → KX → KX := fun _ k e h ds => k (p (g e) e) h ds
def callFnK (P : Program) (p : Pt) (f : FuncId) (xs : List Src) : CallM → KX → KX := fun call k e h ds => fan (call f (evM e xs) h) fun v h' => k (p v e) h' ds
def callK (P : Program) (p : Pt) (f : G) (xs : List Src) : CallM → KX → KX := fun call k e h ds =>
  FV.rec none (fun g first cap => Bool.rec none (fan (call g (appF (appF first (evM e xs)) cap) h) fun v h' => k (p v e) h' ds) (Nat.blt g P.funcs.size))
    (fun y => fan (call (Nat.add P.funcs.size y) (evM e xs) h) fun v h' => k (p v e) h' ds) (asFn (f e))
def invK (P : Program) (p : Pt) (r : G) (name : String) (xs : List Src) : CallM → KX → KX := fun call k e h ds =>
  Option.rec none (fun i => Option.rec none (fun q => Prod.rec (fun g u => Bool.rec none (fan (call g (u :: evM e xs) h) fun v h' => k (p v e) h' ds) (Nat.blt g P.funcs.size)) q) (recvM P h i.t i.v name)) (asIface (r e))
def deferK (p : Pt) (f : G) (xs : List Src) : CallM → KX → KX := fun _ k e h ds =>
  FV.rec none (fun g first cap => k (p (.tuple []) e) h (.call g (appF (appF first (evM e xs)) cap) :: ds)) (fun _ => none) (asFn (f e))
def nextK (p : Pt) (g : G) (isS : Bool) : CallM → KX → KX := fun _ k e h ds =>
  Bool.rec (fan (nextM h (g e)) fun v h' => k (p v e) h' ds) (Option.rec none (fun q => Prod.rec (fun v h' => k (p v e) h' ds) q) (nextS h (g e))) isS
def callC (P : Program) (n : Nat) (p : Pt) (f : Operand) (xs : List Operand) : CallM → KX → KX :=
  match f with
  | .func g => Bool.rec noC (callFnK P p g (srcsOf P n xs)) (Nat.blt g P.funcs.size)
  | f => Src.rec (fun gf => callK P p gf (srcsOf P n xs)) (srcOf P n f)
def compO (P : Program) (inR : Bool) (n : Nat) (ops : Array Oper) (o : Oper) : CO := Dst.rec (fun p =>
  match o.op with
  | .move x | .assign x => Src.rec (fun g => gated (guardOf n ops o) p (moveK p g)) (srcOf P n x)
  | .call c =>
    (match c.callee with
    | .value f => gated (guardOf n ops o) p (callC P n p f c.args.toList)
    | .invoke r name => Src.rec (fun g => gated (guardOf n ops o) p (invK P p g name (srcsOf P n c.args.toList))) (srcOf P n r)
    | .builtin _ => CI.rec (fun f => gated (guardOf n ops o) p (opK p f)) (compOp P n o.op))
  | .next it isS => Src.rec (fun g => gated (guardOf n ops o) p (nextK p g isS)) (srcOf P n it)
  | .defer c => (match inR, c.callee with | false, .value f => Src.rec (fun g => gated (guardOf n ops o) p (deferK p g (srcsOf P n c.args.toList))) (srcOf P n f) | _, _ => .mk noC)
  | op => CI.rec (fun f => gated (guardOf n ops o) p (opK p f)) (compOp P n op)) (dstOf n o.dst)
def compOps (P : Program) (inR : Bool) (n : Nat) (ops : Array Oper) : List CO := mapF (compO P inR n ops) ops.toList
def opsM (call : CallM) (l : List CO) : KX → KX := List.rec (motive := fun _ => KX → KX) (fun k => k) (fun o _ ih k => CO.rec (fun f => f call (ih k)) o) l
def seqM (b : KO → KX) (κ : KO) : KO := fun o => Out.rec (b κ) (fun i => κ (.exit i)) (κ .ret) (fun v => κ (.pan v)) o
def blockM (id : Nat) (κ : KO) : KO := fun o => Out.rec (κ .normal) (fun i => Bool.rec (κ (.exit i)) (κ .normal) (Nat.beq i id)) (κ .ret) (fun v => κ (.pan v)) o
def noX : KX := fun _ _ _ => none

/-! ### Loops that come to several things: what is alike at the head is told once -/

def leaf : KO := fun o e h ds => some [.mk o e h ds]
def logNew (h h' : Heap) : List Nat := takeF (Nat.sub (lenF h'.log) (lenF h.log)) h'.log
def relog (h h' : Heap) : Heap := ⟨h'.next, h'.tr, logNew h h'⟩
inductive LS where
  | mk (e : Env) (h : Heap) (ds : List DVM)
def LS.env (s : LS) : Env := LS.rec (fun e _ _ => e) s
def LS.heap (s : LS) : Heap := LS.rec (fun _ h _ => h) s
def LS.dvs (s : LS) : List DVM := LS.rec (fun _ _ ds => ds) s
def normalsR (l : List Res) : List LS := List.rec [] (fun r _ ih => Res.rec (fun o e h ds => Out.rec (.mk e h ds :: ih) (fun _ => ih) ih (fun _ => ih) o) r) l
def othersR (κ : KO) (l : List Res) : RX := List.rec (some []) (fun r _ ih => Res.rec (fun o e h ds => Out.rec ih (fun i => joinR (κ (.exit i) e h ds) ih) (joinR (κ .ret e h ds) ih) (fun _ => none) o) r) l
def runAll (b : KO → KX) (S : List LS) : RX := List.rec (some []) (fun s _ ih => joinR (LS.rec (fun e h ds => b leaf e h ds) s) ih) S
def killE (n : Nat) (kill : List Tmp) (e : Env) : Env := List.rec e (fun t _ ih => (tmpD n t).put .unk ih) kill
def noCur1 (i : Nat) (h : Heap) : Heap := match h.get i with | some (.iter m s seen (some _) l) => ⟨h.next, h.tr.put i (some (.iter m s seen none l)), h.log⟩ | _ => h
def noCur (l : List Nat) : Heap → Heap := List.rec (motive := fun _ => Heap → Heap) (fun h => h) (fun i _ ih h => ih (noCur1 i h)) l
/-- Maps that have turned are told as bags. -/
def bagL (l : List Nat) : Heap → Heap := List.rec (motive := fun _ => Heap → Heap) (fun h => h) (fun i _ ih h => ih (bag1 i h)) l
def wkS (n : Nat) (h0 : Heap) (kill : List Tmp) (s : LS) : LS := LS.rec (fun e h ds => .mk (killE n kill e) (bagL (logNew h0 h) (noCur (logNew h0 h) h)) ds) s
def insS (n : Nat) (h0 : Heap) (s : LS) (reps : List LS) : List LS := List.rec [s] (fun r rs ih => Option.rec (r :: ih) (fun sg => .mk r.env (tidy h0.next sg r.heap) r.dvs :: rs)
  (mrg h0.next (envL n r.env) (relog h0 r.heap) (envL n s.env) (relog h0 s.heap))) reps
def eqDV (a b : DVM) : Bool := DVM.rec (fun f xs => DVM.rec (fun g ys => Bool.rec false (beqVs xs ys) (Nat.beq f g)) (fun _ => false) b) (fun k => DVM.rec (fun _ _ => false) (fun m => Nat.beq k m) b) a
def eqDs (a : List DVM) : List DVM → Bool := List.rec (motive := fun _ => List DVM → Bool) (fun b => List.rec true (fun _ _ _ => false) b) (fun x _ ih b => List.rec false (fun y t _ => Bool.rec false (ih t) (eqDV x y)) b) a
def allDs (ds0 : List DVM) (S : List LS) : Bool := List.rec true (fun s _ ih => Bool.rec false ih (eqDs s.dvs ds0)) S
def foldS (n : Nat) (h0 : Heap) (kill : List Tmp) (S : List LS) : List LS := List.rec [] (fun s _ ih => insS n h0 (wkS n h0 kill s) ih) S
def mergeF (n : Nat) (h0 : Heap) (kill : List Tmp) (ds0 : List DVM) (S : List LS) : List LS := List.rec [] (fun _ t _ => List.rec S (fun _ _ _ => Bool.rec S (foldS n h0 kill S) (allDs ds0 S)) t) S
def contL (k : List LS → RX) (S : List LS) : RX := List.rec (some []) (fun _ _ _ => k S) S
def goL (n : Nat) (kill : List Tmp) (b : KO → KX) (κ : KO) (h0 : Heap) (ds0 : List DVM) (N : Nat) : List LS → RX := Nat.rec (motive := fun _ => List LS → RX) (fun _ => none)
  (fun _ ih S => Option.rec none (fun l => joinR (othersR κ l) (contL ih (mergeF n h0 kill ds0 (normalsR l)))) (runAll b S)) N
def loopG (n : Nat) (kill : List Tmp) (b : KO → KX) (κ : KO) (N : Nat) : KX := fun e h ds => goL n kill b κ h ds N [.mk e h ds]
/-- What a piece of code does with its temporaries, in the text's order: true: it writes one. -/
def evOps (ops : Array Oper) (l : List Oper) : List (Bool × Tmp) := l.flatMap fun o => (usesA ops o).map (fun t => (false, t)) ++ (match o.dst with | some d => [(true, d)] | none => [])
def evOp (x : Operand) : List (Bool × Tmp) := match x with | .tmp t => [(false, t)] | _ => []
def evC (c : Code) : List (Bool × Tmp) := @Code.rec (fun _ => List (Bool × Tmp)) [] (fun _ ops _ => evOps ops ops.toList) (fun _ _ a b => a ++ b) (fun c _ _ a b => evOp c ++ (a ++ b)) (fun _ _ a => a) (fun _ a => a)
  (fun f ps _ _ a b => evOp f ++ (ps.toList.map (fun t => (true, t)) ++ (a ++ b))) (fun _ => []) (fun _ a => a) (fun _ => []) (fun _ => []) [] (fun _ => []) c
/-- What is written ahead of any look: nobody at the loop's head wants it. -/
def killOf (l : List (Bool × Tmp)) : List Tmp → List Tmp := List.rec (motive := fun _ => List Tmp → List Tmp) (fun _ => [])
  (fun p _ ih seen => bif seen.any (fun t => Nat.beq t p.2) then ih seen else bif p.1 then p.2 :: ih (p.2 :: seen) else ih (p.2 :: seen)) l
/-- Behind the function that was ranged over. -/
def rangeEnd (k k0 : Nat) (e : Env) (ds : List DVM) (κ : KO) (h : Heap) : RX :=
  match h.get k with
  | some (.loop .ready none _ _ _ _ _ _) => κ .normal e (h.del k) (.mark k0 :: ds)
  | some (.loop .done (some .ret) _ _ _ _ _ _) => κ .ret e (h.del k) (.mark k0 :: ds)
  | some (.loop .done (some (.exit i)) _ _ _ _ _ _) => κ (.exit i) e (h.del k) (.mark k0 :: ds)
  | _ => none
def hasBody (P : Program) (g : FuncId) : Bool := Option.rec false (fun fn => fn.body.isSome) (P.funcs[g]?)
def rangeM (P : Program) (call : CallM) (n : Nat) (f : Src) (ps : Array Tmp) (a b : Code) (κ : KO) : KX := fun e h ds =>
  FV.rec none (fun g first cap => Bool.rec none
    (fan (call g (appF (appF first [.yield (Nat.succ h.next)]) cap) ((h.alloc .defs).alloc (.loop .ready none n e ps a b h.next))) fun _ h' => rangeEnd (Nat.succ h.next) h.next e ds κ h') (hasBody P g)) (fun _ => none) (asFn (f.ev e))
/-- A region that draws its order. -/
abbrev DrawM := CallM → FuncId → Nat → Nat → Array Oper → KX → KX
def regM (P : Program) (draw : DrawM) (call : CallM) (inR : Bool) (fid n id : Nat) (ops : Array Oper) (dr : Bool) (κ : KO) : KX := Bool.rec (opsM call (compOps P inR n ops) (κ .normal)) (draw call fid id n ops (κ .normal)) dr
def condM (g : G) (a b : KX) : KX := fun e h ds => Option.rec none (fun t => Bool.rec (b e h ds) (a e h ds) t) (asB (g e))
def exM (P : Program) (draw : DrawM) (call : CallM) (inR : Bool) (fid n N : Nat) (c : Code) : KO → KX := @Code.rec (fun _ => KO → KX) (fun κ => κ .normal) (fun id ops dr => regM P draw call inR fid n id ops dr) (fun _ _ iha ihb κ => iha (seqM ihb κ))
  (fun c _ _ iha ihb κ => Src.rec (fun g => condM g (iha κ) (ihb κ)) (srcOf P n c)) (fun id _ ih κ => ih (blockM id κ)) (fun c ih κ => loopG n (killOf (evC c) []) ih κ N)
  (fun f ps a b _ _ κ => Bool.rec (rangeM P call n (srcOf P n f) ps a b κ) noX inR) (fun i κ => κ (.exit i)) (fun _ _ _ => noX) (fun _ κ => κ .normal) (fun _ _ => noX) (fun κ => κ .ret) (fun _ _ => noX) c

/-! ### Regions that draw their order -/

/-- Calls that come to one thing. -/
def oneM (call : CallM) : CallM := fun f a h => Option.rec none (fun l => List.rec none (fun p t _ => List.rec (some [p]) (fun _ _ _ => none) t) l) (call f a h)
abbrev EH := Env × Heap
/-- A run in the text's order, with what was there ahead of each operation. -/
def opsT (call : CallM) (l : List CO) : List EH → (List EH → KX) → KX := List.rec (motive := fun _ => List EH → (List EH → KX) → KX) (fun acc k e h ds => k ((e, h) :: acc) e h ds)
  (fun o _ ih acc k => CO.rec (fun f e h ds => f call (ih ((e, h) :: acc) k) e h ds) o) l
/-- A reading: where it stands, is it wanted, what it answers, at which times it may be done. -/
inductive RD where
  | mk (i : Nat) (g : GD) (f : OpK) (ps : List Nat)
def timesOf (bs ls : List Nat) (i : Nat) : List Nat → List Nat
  | [] => []
  | p :: ps => bif mayAt bs i p ls then p :: timesOf bs ls i ps else timesOf bs ls i ps
def readsOf (P : Program) (n : Nat) (ops : Array Oper) (bs ls : List Nat) : List Oper → Nat → List RD
  | [], _ => []
  | o :: os, i => bif readsA P o.op && !loudA P o.op then (CI.rec (fun f => .mk i (guardOf n ops o) f (timesOf bs ls i ls)) (compOp P n o.op)) :: readsOf P n ops bs ls os (i + 1) else readsOf P n ops bs ls os (i + 1)
def sameR (a b : R1) : Bool := R1.rec false (fun v _ => R1.rec false (fun u _ => beqV u v) b) a
def heapAt (tr : List EH) (n p : Nat) (k : Heap → Bool) : Bool := Option.rec false (fun q => Prod.rec (fun _ h => k h) q) (nthF (Nat.sub n p) tr)
def rdTimes (tr : List EH) (n : Nat) (f : OpK) (e : Env) (v : R1) (ps : List Nat) : Bool := List.rec true (fun p _ ih => Bool.rec false ih (heapAt tr n p fun h => sameR v (f e h))) ps
def wantG (g : GD) (e : Env) : Option Bool := GD.rec (some true) (fun g b => wantM g b e) (some false) none g
/-- tr: the last first; n: how many operations. -/
def rdOk (tr : List EH) (n : Nat) (r : RD) : Bool := RD.rec (fun i g f ps => Option.rec false (fun q => Prod.rec (fun e h => Option.rec false (fun t => Bool.rec true (rdTimes tr n f e (f e h) ps) t) (wantG g e)) q) (nthF (Nat.sub n i) tr)) r
def rdAll (tr : List EH) (n : Nat) (l : List RD) : Bool := List.rec true (fun r _ ih => Bool.rec false ih (rdOk tr n r)) l
def dynM (call : CallM) (cos : List CO) (rds : List RD) (n : Nat) (k : KX) : KX := opsT call cos [] fun tr e h ds => Bool.rec none (k e h ds) (rdAll tr n rds)

/-- Every order. -/
def coAt (cos : List CO) (i : Nat) (call : CallM) (k : KX) : KX := Option.rec (fun _ _ _ => none) (fun o => CO.rec (fun f => f call k) o) (nthF i cos)
def chkM (P : Program) (n : Nat) (ops : Array Oper) (cs : List Nat) (e : Env) (h : Heap) : Bool := List.rec true (fun s _ ih => Bool.rec false ih (match ops[s]? with
  | some o => (match wantG (guardOf n ops o) e, o.dst with
    | some true, some d => CI.rec (fun f => R1.rec false (fun v _ => beqV v ((tmpS n d).ev e)) (f e h)) (compOp P n o.op)
    | some false, _ => true
    | _, _ => false)
  | none => true)) cs
def tpM (P : Program) (n : Nat) (ops : Array Oper) (cos : List CO) (call : CallM) (pl : Plan) (k : KX) : KX := Plan.rec (motive := fun _ => KX) k (fun i _ ih => coAt cos i call ih)
  (fun i cs _ _ ihp ihq e h ds => joinR (coAt cos i call (fun e h ds => Bool.rec none (ihp e h ds) (chkM P n ops cs e h)) e h ds) (ihq e h ds)) (fun _ _ _ => some []) pl
def leafK : KX := fun e h ds => some [.mk .normal e h ds]
/-- What is known in every order's end, told as the first's. -/
def frAll (n n0 : Nat) (e1 : Env) (l : List Res) : Heap → Option Heap := List.rec (motive := fun _ => Heap → Option Heap) (fun a => some a)
  (fun r _ ih a => Res.rec (fun _ e2 h2 _ => Option.rec none (fun s => ih (tidy n0 s a)) (mrg n0 (envL n e1) a (envL n e2) h2)) r) l
def freeEnd (n : Nat) (h : Heap) (k : KX) (l : List Res) : RX := List.rec none (fun r rs _ => Res.rec (fun _ e1 h1 ds => Option.rec none (fun a => k e1 ⟨a.next, a.tr, appF a.log h.log⟩ ds) (frAll n h.next e1 rs h1)) r) l
def freeM (P : Program) (n : Nat) (ops : Array Oper) (cos : List CO) (call : CallM) (pl : Plan) (k : KX) : KX := fun e h ds =>
  Option.rec none (fun l => freeEnd n h k l) (tpM P n ops cos call pl leafK e ⟨h.next, h.tr, []⟩ ds)
def plainOp (op : Op) : Bool := match op with | .next _ _ => false | .defer _ => false | _ => true
inductive DrK where
  | quiet
  | dyn
  | free
  | no
def drK (P : Program) (n : Nat) (ops : Array Oper) (pl : Option Plan) : DrK :=
  bif !ops.toList.all (fun o => plainOp o.op) then .no else bif drawStatic P ops (masks ops.toList []) then (bif needNot P (masks ops.toList []) (louds P ops.toList 0) ops.toList 0 then .quiet else .dyn)
  else (match pl with | some p => bif strictOk ops (masks ops.toList []) && dstsOk ops n && planOk P ops (masks ops.toList []) p [] [] then .free else .no | none => .no)
def drawX (P : Program) (plan : FuncId → Nat → Option Plan) : DrawM := fun call fid id n ops k => DrK.rec (opsM (oneM call) (compOps P false n ops) k)
  (dynM (oneM call) (compOps P false n ops) (readsOf P n ops (masks ops.toList []) (louds P ops.toList 0) ops.toList 0) ops.size k)
  (Option.rec (fun _ _ _ => none) (fun pl => freeM P n ops (compOps P false n ops) (oneM call) pl k) (plan fid id)) (fun _ _ _ => none) (drK P n ops (plan fid id))

/-! ### Functions -/

def frameM (args : List AV) : Env := List.rec (motive := fun _ => Nat → Env → Env) (fun _ e => e) (fun v _ ih i e => ih (Nat.succ i) (Dst.put (dstTab (dig (Nat.div i 16)) (dig (Nat.mod i 16))) v e)) args 0 Env.none
def resM (P : Program) (n : Nat) (e : Env) (h : Heap) (r : ResultVar) : Option AV :=
  match r with
  | .tmp t => some ((tmpS n t).ev e)
  | .cell a t => (match (tmpS n a).ev e with | .ptr (some l) => loadA P h t l | _ => none)
def resL (P : Program) (n : Nat) (e : Env) (h : Heap) (rs : List ResultVar) : Option (List AV) := List.rec (some []) (fun r _ ih => Option.rec none (fun v => Option.rec none (fun vs => some (v :: vs)) ih) (resM P n e h r)) rs
def single1 (l : List AV) : AV := List.rec (.tuple []) (fun v t _ => List.rec v (fun _ _ _ => .tuple l) t) l
abbrev LH := Option (List Heap)
/-- Deferred calls. -/
def runDs (dov dcall : CallM) (ds : List DVM) : Heap → LH := List.rec (motive := fun _ => Heap → LH) (fun h => some [h])
  (fun d _ ih h => DVM.rec (fun f args => Option.rec none (fun l => List.rec none (fun p ps _ => List.rec (Prod.rec (fun _ h' => ih h') p) (fun _ _ _ => none) ps) l) (Option.rec (dcall f args h) some (dov f args h)))
    (fun k => match h.get k with | some .defs => ih (h.del k) | _ => none) d) ds
abbrev LR := Option (List (AV × Heap))
def endOne (P : Program) (dov dcall : CallM) (fn : Func) (e : Env) (h : Heap) (ds : List DVM) : LR :=
  Option.rec none (fun hs => List.rec none (fun h' t _ => List.rec (Option.rec none (fun vs => some [(single1 vs, h')]) (resL P fn.ntmps e h' fn.results.toList)) (fun _ _ _ => none) t) hs) (runDs dov dcall ds h)
def endM (P : Program) (dov dcall : CallM) (fn : Func) (r : Res) : LR := Res.rec (fun o e h ds => Out.rec (endOne P dov dcall fn e h ds) (fun _ => none) (endOne P dov dcall fn e h ds) (fun _ => none) o) r
def endAll (P : Program) (dov dcall : CallM) (fn : Func) (l : List Res) : LR := List.rec (some []) (fun r _ ih => Option.rec none (fun a => Option.rec none (fun b => some (appF a b)) ih) (endM P dov dcall fn r)) l
/-- The others are the first, but for the new numbers. -/
def mrgAll (h : Heap) (v : AV) (l : List (AV × Heap)) : Heap → Option Heap := List.rec (motive := fun _ => Heap → Option Heap) (fun a => some a)
  (fun p _ ih a => Prod.rec (fun v2 h2 => Option.rec none (fun s => ih (tidy h.next s a)) (mrg h.next [v] (relog h a) [v2] (relog h h2))) p) l
def mergeL (h : Heap) (L : List (AV × Heap)) : List (AV × Heap) := List.rec [] (fun p ps _ => List.rec L (fun _ _ _ => Prod.rec (fun v h1 => Option.rec L (fun a => [(v, a)]) (mrgAll h v ps h1)) p) ps) L
/-- A deferred call's own body: nothing deferred in it. -/
def endD (P : Program) (fn : Func) (r : Res) : LR := Res.rec (fun o e h ds => List.rec (Bool.rec none (Option.rec none (fun vs => some [(single1 vs, h)]) (resL P fn.ntmps e h fn.results.toList)) (Out.rec true (fun _ => false) true (fun _ => false) o)) (fun _ _ _ => none) ds) r
def endDs (P : Program) (fn : Func) (l : List Res) : LR := List.rec (some []) (fun r _ ih => Option.rec none (fun a => Option.rec none (fun b => some (appF a b)) ih) (endD P fn r)) l
def fits (fn : Func) (args : List AV) : Bool := Bool.rec false (Nat.ble (lenF args) fn.ntmps) (Nat.ble fn.ntmps 256)
def dbodyM (P : Program) (draw : DrawM) (call : CallM) (N fid : Nat) (fn : Func) (c : Code) (args : List AV) (h : Heap) : LR :=
  Bool.rec none (Option.rec none (fun l => endDs P fn l) (exM P draw call false fid fn.ntmps N c leaf (frameM args) h [])) (fits fn args)
def dcallM (P : Program) (draw : DrawM) (call : CallM) (N : Nat) : CallM := fun f args h => Option.rec none (fun fn => Option.rec none (fun c => dbodyM P draw call N f fn c args h) fn.body) (P.funcs[f]?)
def bodyM (P : Program) (draw : DrawM) (dov call : CallM) (N fid : Nat) (fn : Func) (c : Code) (args : List AV) (h : Heap) : LR :=
  Bool.rec none (Option.rec none (fun l => Option.rec none (fun L => some (mergeL h L)) (endAll P dov (dcallM P draw call N) fn l)) (exM P draw call false fid fn.ntmps N c leaf (frameM args) h [])) (fits fn args)
def putAll (n : Nat) (ps : List Tmp) : List AV → Env → Env := List.rec (motive := fun _ => List AV → Env → Env) (fun _ e => e) (fun p _ ih l e => List.rec e (fun v t _ => ih t ((tmpD n p).put v e)) l) ps
/-- A round's end. -/
def roundEnd (k : Nat) (p : Option Code) (h : Heap) : LR :=
  match h.get k with
  | some (.loop _ _ n e ps a b d) => some [(.bool p.isNone, h.set k (.loop (if p.isNone then .ready else .done) p n e ps a b d))]
  | _ => none
def roundOut (k : Nat) (r : Res) : LR := Res.rec (fun o _ h ds => List.rec (Out.rec (roundEnd k none h) (fun i => roundEnd k (some (.exit i)) h) (roundEnd k (some .ret) h) (fun _ => none) o) (fun _ _ _ => none) ds) r
def roundAll (k : Nat) (l : List Res) : LR := List.rec (some []) (fun r _ ih => Option.rec none (fun a => Option.rec none (fun b => some (appF a b)) ih) (roundOut k r)) l
def roundBusy (P : Program) (draw : DrawM) (call : CallM) (N k n : Nat) (b : Code) : KO := fun o e h ds => Out.rec (match h.get k with
  | some (.loop .ready q m e0 ps a' b' d) => exM P draw call true P.funcs.size n N b leaf e (h.set k (.loop .busy q m e0 ps a' b' d)) ds
  | _ => none) (fun _ => none) none (fun _ => none) o
def roundM (P : Program) (draw : DrawM) (call : CallM) (N k : Nat) (args : List AV) (h : Heap) : LR :=
  match h.get k with
  | some (.loop _ _ n e ps a b _) => Bool.rec none (Option.rec none (fun l => roundAll k l) (exM P draw call true P.funcs.size n N a (roundBusy P draw call N k n b) (putAll n ps.toList args e) h [])) (Bool.rec false (Nat.ble n 256) (Nat.beq (lenF args) ps.size))
  | _ => none
def natM (nat : CallF) (f : FuncId) (args : List AV) (h : Heap) : LR := match nat f args h with | some (.ret v h') => some [(v, h')] | _ => none
def callM (P : Program) (draw : DrawM) (nat : CallF) (ov dov : CallM) (N d : Nat) : CallM := Nat.rec (motive := fun _ => CallM) (fun _ _ _ => none)
  (fun _ call f args h => Option.rec (Bool.rec (roundM P draw call N (Nat.sub f P.funcs.size) args h)
    (Option.rec none (fun fn => Option.rec (natM nat f args h) (fun c => bodyM P draw dov call N f fn c args h) fn.body) (P.funcs[f]?)) (Nat.blt f P.funcs.size)) some (ov f args h)) d
end Go.Am

noncomputable section
namespace Go.Am
open Go.RowKit

/-- A map's pairs, the keys rising. -/
def risen (o : Obj) : Option (List (AV × AV)) := match o with
  | .map es c => bif riseB (toB es) && bornOk c es then some (toB es) else none
  | .bag kvs _ => bif riseB kvs then some kvs else none
  | _ => none
/-- Neither too many keys nor too long ones. -/
def keyLen (v : AV) : Nat := match v with | .str s => lenF s | _ => 0
def smallK (l : List (AV × AV)) : Bool := Nat.ble (lenF l) 65535 && l.all fun p => Nat.ble (keyLen p.1) 65535
def sortedOut (h : Heap) (l : List (AV × AV)) : AV × Heap := List.rec (.slice none 0 .dim, h) (fun _ _ _ => (.slice (some ⟨h.next, 0⟩) (lenF l) (.tip 1), h.alloc (.cells (mapF Prod.fst l) (.own none)))) l
/-- fs: slices.Sorted's numbers; gs: the numbers of what maps.Keys hands back. -/
def sortedM (fs gs : List FuncId) : CallM := fun f args h =>
  bif fs.any (Nat.beq f) then
    match args with
    | [.func (.func g) [] [.ptr (some ⟨p, 0⟩)]] =>
      bif gs.any (Nat.beq g) then
        (match h.get p with
        | some (.cells (.map (some i) :: _) (.var _)) => (match h.get i with
          | some o => (match risen o with
            | some l => bif smallK l then some [sortedOut h l] else none
            | none => none)
          | none => none)
        | _ => none)
      else none
    | _ => none
  else none
end Go.Am
