/- Parts of the proof by the abstract machine: EvS, Ex, SortK, MrgS. -/
import Derived.Test.YteoekjfgihnhaaaGreatDoorHmGRF13
import Derived.IntWalk
set_option linter.all false
noncomputable section
namespace Go.Am
open Go.RowKit

/-! ### Lists -/
section
variable {α β : Type}
theorem dropF_eq : ∀ (n : Nat) (l : List α), dropF n l = l.drop n
  | 0, _ => rfl
  | _ + 1, [] => rfl
  | n + 1, _ :: t => dropF_eq n t
theorem takeF_eq : ∀ (n : Nat) (l : List α), takeF n l = l.take n
  | 0, _ => rfl
  | _ + 1, [] => rfl
  | n + 1, a :: t => congrArg (a :: ·) (takeF_eq n t)
theorem appF_eq : ∀ (l m : List α), appF l m = l ++ m
  | [], _ => rfl
  | a :: t, m => congrArg (a :: ·) (appF_eq t m)
theorem mapF_eq (f : α → β) : ∀ (l : List α), mapF f l = l.map f
  | [] => rfl
  | a :: t => congrArg (f a :: ·) (mapF_eq f t)
theorem forceN_eq (n : Nat) (k : Nat → α) : forceN n k = k n := by cases n <;> rfl
theorem lenAcc_eq : ∀ (l : List α) (n : Nat), lenAcc l n = n + l.length
  | [], n => rfl
  | a :: t, n => by
    show forceN n (fun n => lenAcc t (Nat.succ n)) = _
    rw [forceN_eq, lenAcc_eq t, List.length_cons]; omega
theorem lenF_eq (l : List α) : lenF l = l.length := by unfold lenF; rw [lenAcc_eq]; omega
theorem hasF_iff : ∀ (n : Nat) (l : List α), hasF n l = true ↔ n ≤ l.length
  | 0, _ => ⟨fun _ => Nat.zero_le _, fun _ => rfl⟩
  | n + 1, [] => by simp [hasF]
  | n + 1, _ :: t => by
    show hasF n t = true ↔ _
    rw [hasF_iff n t, List.length_cons]; omega
theorem nthF_eq : ∀ (n : Nat) (l : List α), nthF n l = l[n]?
  | 0, [] => rfl
  | 0, _ :: _ => rfl
  | _ + 1, [] => rfl
  | n + 1, _ :: t => by
    show nthF n t = _
    rw [nthF_eq n t]; simp
theorem overF_eq (vs : List α) : ∀ (o : Nat) (l : List α), o + vs.length ≤ l.length → overF vs o l = over l o vs
  | 0, l, _ => by
    show appF vs (dropF (lenF vs) l) = _
    rw [appF_eq, dropF_eq, lenF_eq]; simp [over]
  | o + 1, [], h => by simp at h
  | o + 1, a :: t, h => by
    show a :: overF vs o t = _
    rw [overF_eq vs o t (by simp at h; omega)]
    simp [over, show o + 1 + vs.length = (o + vs.length) + 1 by omega]
end
theorem u8_beq (b c : UInt8) : Nat.beq b.toNat c.toNat = decide (b = c) := by
  rw [beq1]
  congr 1
  rw [UInt8.toNat_inj]
theorem eqS_eq : ∀ (a b : List UInt8), eqS a b = decide (a = b)
  | [], [] => by simp [eqS]
  | [], _ :: _ => by simp [eqS]
  | _ :: _, [] => by simp [eqS]
  | x :: a, y :: b => by
    show Bool.rec (motive := fun _ => Bool) false (eqS a b) (Nat.beq x.toNat y.toNat) = _
    rw [u8_beq, eqS_eq a b]
    by_cases h : x = y
    · subst h; simp
    · simp [h]

/-! ### Frames -/

def envL (n : Nat) (e : Env) : List AV := (List.range n).map fun t => e.at (refOf t)
theorem envL_length (n : Nat) (e : Env) : (envL n e).length = n := by simp [envL]
theorem envL_get (n : Nat) (e : Env) (t : Nat) : (envL n e)[t]? = if t < n then some (e.at (refOf t)) else none := by
  by_cases h : t < n
  · simp [envL, h]
  · simp [envL, h]
theorem nth_get? : ∀ (l : List AV) (t : Nat), nth l t = (l[t]?).getD .unk
  | [], _ => rfl
  | _ :: _, 0 => rfl
  | _ :: l, t + 1 => by simp only [nth, List.getElem?_cons_succ]; exact nth_get? l t
theorem nth_envL (n : Nat) (e : Env) (t : Nat) : nth (envL n e) t = if t < n then e.at (refOf t) else .unk := by
  rw [nth_get?, envL_get]
  by_cases h : t < n <;> simp [h]
theorem beq_dec {α : Type} [BEq α] [LawfulBEq α] [DecidableEq α] (a b : α) : (a == b) = decide (a = b) := by by_cases h : a = b <;> simp [h]
theorem blt_dec (a b : Nat) : Nat.blt a b = decide (a < b) := by
  cases h : Nat.blt a b with
  | true => simp [(blt_iff a b).1 h]
  | false =>
    have : ¬ a < b := fun hh => by rw [(blt_iff a b).2 hh] at h; cases h
    simp [this]
theorem tmpS_ev (n t : Nat) (e : Env) : (tmpS n t).ev e = nth (envL n e) t := by
  rw [nth_envL]
  unfold tmpS
  rw [blt_dec]
  by_cases h : t < n
  · rw [decide_eq_true h, if_pos h]
    exact srcTab_ev _ _ _
  · rw [decide_eq_false h, if_neg h]
    rfl
theorem srcOf_ev (P : Program) (n : Nat) (x : Operand) (e : Env) : (srcOf P n x).ev e = evalA P (envL n e) x := by
  cases x with
  | tmp t => exact tmpS_ev n t e
  | const v =>
    show constA v = _
    simp only [constA, evalA]
    cases ofValue v <;> rfl
  | global g =>
    show globA P g = _
    simp only [globA, evalA]
    cases Nat.blt g P.globals.size <;> rfl
  | func f => rfl
theorem tmpD_put {n : Nat} (hn : n ≤ 256) (t : Nat) (v : AV) (e : Env) : envL n ((tmpD n t).put v e) = (envL n e).set t v := by
  unfold tmpD
  rw [blt_dec]
  by_cases h : t < n
  · rw [decide_eq_true h]
    show envL n ((dstTab _ _).put v e) = _
    rw [dstTab_put]
    apply List.ext_getElem?
    intro i
    rw [envL_get, List.getElem?_set, envL_length, envL_get]
    by_cases hi : i < n
    · rw [if_pos hi]
      by_cases hti : t = i
      · subst hti
        rw [if_pos rfl, if_pos h]
        exact congrArg some (Env.at_put _ _ _)
      · rw [if_neg hti, if_pos hi]
        exact congrArg some (Env.at_put_ne (by omega) (by omega) (Ne.symm hti) v e)
    · rw [if_neg hi]
      by_cases hti : t = i
      · subst hti; omega
      · rw [if_neg hti, if_neg hi]
  · rw [decide_eq_false h]
    show envL n e = _
    rw [List.set_eq_of_length_le (by rw [envL_length]; omega)]
theorem dstOf_put {n : Nat} (hn : n ≤ 256) (d : Option Tmp) (v : AV) (e : Env) : envL n ((dstOf n d).put v e) = putA (envL n e) d v := by
  cases d with
  | none => rfl
  | some t => exact tmpD_put hn t v e

/-! ### What a value is -/

theorem asPtr_some {v : AV} {l : Loc} (h : asPtr v = some l) : v = .ptr (some l) := by
  cases v <;> first | (cases h; done) | skip
  cases h; rfl
theorem asI_some {v : AV} {i : IK} (h : asI v = some i) : v = .int i.k i.n := by
  cases v <;> first | (cases h; done) | skip
  cases h; rfl
theorem asB_some {v : AV} {b : Bool} (h : asB v = some b) : v = .bool b := by
  cases v <;> first | (cases h; done) | skip
  cases h; rfl
theorem asSl_some {v : AV} {s : SL} (h : asSl v = some s) : v = .slice s.l s.n s.c := by
  cases v <;> first | (cases h; done) | skip
  cases h; rfl
theorem asStr_some {v : AV} {s : List UInt8} (h : asStr v = some s) : v = .str s := by
  cases v <;> first | (cases h; done) | skip
  cases h; rfl
theorem asTup_some {v : AV} {s : List AV} (h : asTup v = some s) : v = .tuple s := by
  cases v <;> first | (cases h; done) | skip
  cases h; rfl
theorem asIface_some {v : AV} {i : IFV} (h : asIface v = some i) : v = .iface i.t i.v := by
  cases v <;> first | (cases h; done) | skip
  cases h; rfl
theorem asFn_fn {v : AV} {f : FuncId} {a b : List AV} (h : asFn v = .fn f a b) : v = .func (.func f) a b := by
  cases v <;> first | (cases h; done) | skip
  rename_i g x y
  cases g <;> first | (cases h; done) | skip
  cases h; rfl
theorem asFn_yield {v : AV} {k : Nat} (h : asFn v = .yield k) : v = .yield k := by
  cases v <;> first | (cases h; done) | skip
  · rename_i g x y
    cases g <;> first | (cases h; done) | skip
  · cases h; rfl
theorem cellsM_eq (v : AV) : cellsM v = cellsA v := by cases v <;> rfl
theorem cellOkM_eq (v : AV) : cellOkM v = cellOk v := by cases v <;> rfl
theorem cellsOkM_eq : ∀ (l : List AV), cellsOkM l = cellsOk l
  | [] => rfl
  | a :: t => by
    show Bool.rec (motive := fun _ => Bool) false (cellsOkM t) (cellOkM a) = _
    rw [cellOkM_eq, cellsOkM_eq t, cellsOk]
    cases cellOk a <;> rfl

/-! ### One operation -/

def CI.run (c : CI) (e : Env) (h : Heap) : R1 := CI.rec (fun f => f e h) c
theorem s1_run (a : Src) (k : G → OpK) (e : Env) (h : Heap) : (s1 a k).run e h = k a.ev e h := by cases a; rfl
theorem s2_run (a b : Src) (k : G → G → OpK) (e : Env) (h : Heap) : (s2 a b k).run e h = k a.ev b.ev e h := by cases a; cases b; rfl
theorem s3_run (a b c : Src) (k : G → G → G → OpK) (e : Env) (h : Heap) : (s3 a b c k).run e h = k a.ev b.ev c.ev e h := by cases a; cases b; cases c; rfl

theorem okv_ok {h h' : Heap} {x : Option AV} {v : AV} (hx : okv h x = .ok v h') : x = some v ∧ h' = h := by
  cases x with
  | none => cases hx
  | some y => cases hx; exact ⟨rfl, rfl⟩
theorem okp_ok {h' : Heap} {x : Option (AV × Heap)} {v : AV} (hx : okp x = .ok v h') : x = some (v, h') := by
  cases x with
  | none => cases hx
  | some y => obtain ⟨a, b⟩ := y; cases hx; rfl
/-- `Option.rec` that comes to something. -/
theorem orec_ok {α : Type} {o : Option α} {k : α → R1} {v : AV} {h : Heap} (hx : Option.rec (motive := fun _ => R1) .no k o = .ok v h) : ∃ a, o = some a ∧ k a = .ok v h := by
  cases o with
  | none => cases hx
  | some a => exact ⟨a, rfl, hx⟩
theorem brec_ok {b : Bool} {k : R1} {v : AV} {h : Heap} (hx : Bool.rec (motive := fun _ => R1) .no k b = .ok v h) : b = true ∧ k = .ok v h := by
  cases b with
  | false => cases hx
  | true => exact ⟨rfl, hx⟩

theorem cellsAt_some {h : Heap} {l : Loc} {cs : List AV} (hc : cellsAt h l = some cs) : ∃ k, h.get l.id = some (.cells cs k) := by
  unfold cellsAt at hc
  cases ho : h.get l.id with
  | none => rw [ho] at hc; cases hc
  | some o =>
    rw [ho] at hc
    cases o <;> first | (cases hc; done) | skip
    cases hc
    exact ⟨_, rfl⟩
theorem load1_ok {P : Program} {t : TypeId} {h h' : Heap} {l : Loc} {v : AV} (ha : aggA P t = some false) (hx : load1 h l = .ok v h') : loadA P h t l = some v ∧ h' = h := by
  obtain ⟨cs, hc, hx⟩ := orec_ok hx
  obtain ⟨hv, rfl⟩ := okv_ok hx
  obtain ⟨k, hk⟩ := cellsAt_some hc
  rw [nthF_eq] at hv
  refine ⟨?_, rfl⟩
  have hlt := (List.getElem?_eq_some_iff.1 hv).1
  have hb : Nat.ble (l.off + 1) cs.length = true := (ble_iff _ _).2 hlt
  have ht : (cs.drop l.off).take 1 = [v] := by
    rw [List.drop_eq_getElem_cons hlt, List.take_succ_cons, List.take_zero, (List.getElem?_eq_some_iff.1 hv).2]
  simp only [loadA, ha, readA, hk, hb, cond_true, ht]
theorem loadN_ok {P : Program} {t : TypeId} {n : Nat} {h h' : Heap} {l : Loc} {v : AV} (ha : aggA P t = some true) (hs : sizeA P t = some n) (hx : loadN n h l = .ok v h') : loadA P h t l = some v ∧ h' = h := by
  obtain ⟨cs, hc, hx⟩ := orec_ok hx
  obtain ⟨hb, hx⟩ := brec_ok hx
  cases hx
  obtain ⟨k, hk⟩ := cellsAt_some hc
  have hb := (hasF_iff _ _).1 hb
  have hb' : Nat.ble (l.off + n) cs.length = true := (ble_iff _ _).2 hb
  refine ⟨?_, rfl⟩
  simp only [loadA, ha, hs, readA, hk, hb', cond_true, takeF_eq, dropF_eq]
theorem ownAt_mk {h : Heap} {l : Loc} {cs : List AV} {k : Kind} (ho : ownAt h l = .mk cs k) : h.get l.id = some (.cells cs k) ∧ k ≠ .ro := by
  unfold ownAt at ho
  cases hg : h.get l.id with
  | none => rw [hg] at ho; cases ho
  | some o =>
    rw [hg] at ho
    cases o <;> first | (cases ho; done) | skip
    rename_i c q
    cases q <;> first | (cases ho; done) | skip
    all_goals (cases ho; exact ⟨rfl, by simp⟩)
theorem writeM_some {h h' : Heap} {l : Loc} {vs : List AV} (hx : writeM h l vs = some h') : writeA h l vs = some h' := by
  unfold writeM at hx
  cases hc : cellsOkM vs with
  | false => rw [hc] at hx; cases hx
  | true =>
    rw [hc] at hx
    change write1 h l vs = some h' at hx
    unfold write1 at hx
    cases ho : ownAt h l with
    | no => rw [ho] at hx; cases hx
    | mk cs k =>
      rw [ho] at hx
      obtain ⟨hg, hk⟩ := ownAt_mk ho
      change Bool.rec none (some (h.set l.id (.cells (overF vs l.off cs) k))) (hasF (Nat.add l.off (lenF vs)) cs) = some h' at hx
      cases hb : hasF (Nat.add l.off (lenF vs)) cs with
      | false => rw [hb] at hx; cases hx
      | true =>
        rw [hb] at hx
        cases hx
        have hb := (hasF_iff _ _).1 hb
        rw [lenF_eq] at hb
        have hb : l.off + vs.length ≤ cs.length := hb
        have hb' : Nat.ble (l.off + vs.length) cs.length = true := (ble_iff _ _).2 hb
        rw [cellsOkM_eq] at hc
        unfold writeA
        rw [hg, overF_eq _ _ _ hb]
        cases k with
        | ro => exact absurd rfl hk
        | _ => simp only [hc, hb', Bool.and_self, cond_true]
theorem sameK_eq {a b : IntKind} (h : sameK a b = true) : a = b := by
  cases a <;> cases b <;> first | rfl | (cases h; done)
theorem wrapM_eq (k : IntKind) (n : Int) : wrapM k n = k.wrap n := by
  cases n with
  | negSucc m => rfl
  | ofNat m =>
    show Bool.rec (motive := fun _ => Int) (k.wrap (Int.ofNat m)) (Int.ofNat m) (Nat.ble m (topN k)) = _
    cases hb : Nat.ble m (topN k) with
    | false => rfl
    | true =>
      have hle := (ble_iff _ _).1 hb
      show Int.ofNat m = _
      rw [Int.ofNat_eq_natCast]
      symm
      cases k <;> simp only [topN] at hle
      · exact IntWalk.i8_in _ (by omega)
      · exact IntWalk.i16_in _ (by omega)
      · exact IntWalk.i32_in _ (by omega)
      · exact IntWalk.i64_in _ (by omega)
      · exact IntWalk.u8_in _ (by omega)
      · exact IntWalk.u16_in _ (by omega)
      · exact IntWalk.u32_in _ (by omega)
      · exact IntWalk.u64_in _ (by omega)
theorem addI_eq (a b : Int) : addI a b = a + b := by
  cases a <;> cases b <;> rfl
theorem subI_eq (a b : Int) : subI a b = a - b := by
  cases a with
  | negSucc m => rfl
  | ofNat m =>
    cases b with
    | negSucc n => rfl
    | ofNat n =>
      show Bool.rec (motive := fun _ => Int) (Int.sub (Int.ofNat m) (Int.ofNat n)) (Int.ofNat (Nat.sub m n)) (Nat.ble n m) = _
      cases hb : Nat.ble n m with
      | false => rfl
      | true =>
        have hle := (ble_iff _ _).1 hb
        show Int.ofNat (m - n) = Int.ofNat m - Int.ofNat n
        simp only [Int.ofNat_eq_natCast]; omega
theorem ltI_eq (a b : Int) : ltI a b = decide (a < b) := by
  cases a with
  | ofNat m =>
    cases b with
    | ofNat n =>
      show Nat.blt m n = _
      rw [blt_dec]; congr 1; simp
    | negSucc n =>
      show false = _
      symm; rw [decide_eq_false_iff_not]; simp only [Int.ofNat_eq_natCast]; omega
  | negSucc m =>
    cases b with
    | ofNat n =>
      show true = _
      symm; rw [decide_eq_true_iff]; simp only [Int.ofNat_eq_natCast]; omega
    | negSucc n =>
      show Nat.blt n m = _
      rw [blt_dec]; congr 1; apply propext; omega
theorem eqI_eq (a b : Int) : eqI a b = decide (a = b) := by
  cases a with
  | ofNat m =>
    cases b with
    | ofNat n =>
      show Nat.beq m n = _
      rw [beq1]; congr 1; apply propext; simp only [Int.ofNat_eq_natCast]; omega
    | negSucc n => rfl
  | negSucc m =>
    cases b with
    | ofNat n => rfl
    | negSucc n =>
      show Nat.beq m n = _
      rw [beq1]; congr 1; apply propext; constructor
      · rintro rfl; rfl
      · intro h; cases h; rfl

theorem biSame_some {f : BI} {a b : IK} {v : AV} (h : biSame f a b = some v) : a.k = b.k ∧ f a b = some v := by
  unfold biSame at h
  cases hs : sameK a.k b.k with
  | false => rw [hs] at h; cases h
  | true => rw [hs] at h; exact ⟨sameK_eq hs, h⟩
theorem bi_run {P : Program} {h : Heap} {op : BinOp} {t : TypeId} {xo yo : Operand} {a b : IK} {v : AV} (hx : biOf op a b = some v) : binA P h op t xo yo (.int a.k a.n) (.int b.k b.n) = some v := by
  cases op
  case shl => exact hx
  case shr => exact hx
  all_goals
    obtain ⟨hk, hx⟩ := biSame_some hx
    simp only [binA, if_pos hk]
    first
      | exact hx
      | (cases hx; simp only [intA, wrapM_eq, addI_eq, subI_eq, eqI_eq, ltI_eq]; done)
      | (cases hx
         simp only [intA, wrapM_eq, addI_eq, subI_eq, eqI_eq, ltI_eq]
         first
           | rfl
           | (refine congrArg (fun b => some (AV.bool b)) ?_
              rw [← decide_not]
              congr 1
              apply propext
              omega)
           | (refine congrArg (fun b => some (AV.bool b)) ?_
              rw [bne, ← decide_not_eq]))
theorem bs_run {P : Program} {h : Heap} {op : BinOp} {t : TypeId} {xo yo : Operand} {a b : List UInt8} {v : AV} (hx : bsOf op a b = some v) : binA P h op t xo yo (.str a) (.str b) = some v := by
  cases op
  case eql =>
    change some (AV.bool (eqS a b)) = some v at hx
    rw [eqS_eq] at hx
    rw [← hx]; simp only [binA, strA]; rw [beq_dec]
  case neq =>
    change some (AV.bool (not (eqS a b))) = some v at hx
    rw [eqS_eq] at hx
    rw [← hx]; simp only [binA, strA]; rw [beq_dec]
  all_goals exact hx

theorem isStr_eq {P : Program} {t : TypeId} (h : isStr P t = true) : P.underlying t = some .string := by
  unfold isStr at h
  split at h
  · assumption
  · cases h
theorem evM_eq (P : Program) (n : Nat) (e : Env) (l : List Operand) : evM e (srcsOf P n l) = evals P (envL n e) l := by
  simp only [evM, srcsOf, mapF_eq, evals, List.map_map]
  apply List.map_congr_left
  intro x _
  exact srcOf_ev P n x e
theorem ixAt_ok {h h' : Heap} {l : Loc} {len size : Nat} {i : IK} {v : AV} (hx : ixAt h l len size i = .ok v h') : (0 ≤ i.n ∧ i.n < (len : Int)) ∧ v = .ptr (some ⟨l.id, l.off + i.n.toNat * size⟩) ∧ h' = h := by
  obtain ⟨k, n⟩ := i
  cases n with
  | negSucc m => cases hx
  | ofNat m =>
    obtain ⟨hb, hx⟩ := brec_ok hx
    have hb := (blt_iff _ _).1 hb
    cases hx
    exact ⟨by simp only [Int.ofNat_eq_natCast]; omega, rfl, rfl⟩

theorem compOp_run {P : Program} {n : Nat} {op : Op} {e : Env} {h h' : Heap} {v : AV} (hx : (compOp P n op).run e h = .ok v h') : aop P (envL n e) h op = some (v, h') := by
  rw [aop_eq]
  rw [show evalA P (envL n e) = fun x => (srcOf P n x).ev e from funext fun x => (srcOf_ev P n x e).symm]
  have raw : ∀ {op' : Op}, (raw0 P n op').run e h = .ok v h' → aopE P (fun x => (srcOf P n x).ev e) h op' = some (v, h') := fun hx => okp_ok hx
  cases op
  case move x =>
    rw [compOp, s1_run] at hx; cases hx; rfl
  case assign x =>
    rw [compOp, s1_run] at hx; cases hx; rfl
  case pick c a b =>
    rw [compOp, s3_run] at hx
    obtain ⟨t, ht, hx⟩ := orec_ok hx
    cases hx
    simp only [aopE, asB_some ht]
    cases t <;> rfl
  case alloc t =>
    simp only [compOp, allocC] at hx
    cases hz : zeroA P t with
    | none => rw [hz] at hx; cases hx
    | some z =>
      rw [hz] at hx
      change (Option.rec (CI.op noOp) (fun cs => CI.op (allocM t cs)) (cellsM z) : CI).run e h = _ at hx
      cases hc : cellsM z with
      | none => rw [hc] at hx; cases hx
      | some cs =>
        rw [hc] at hx
        cases hx
        rw [cellsM_eq] at hc
        simp only [aopE, allocA, hz, boxA, hc]; rfl
  case box t x =>
    rw [compOp, s1_run] at hx
    obtain ⟨cs, hc, hx⟩ := orec_ok hx
    cases hx
    rw [cellsM_eq] at hc
    simp only [aopE, boxA, hc]; rfl
  case load t a =>
    simp only [compOp, loadC] at hx
    cases ha : aggA P t with
    | none => rw [ha] at hx; cases hx
    | some b =>
      rw [ha] at hx
      cases b with
      | false =>
        change (s1 (srcOf P n a) load1M).run e h = _ at hx
        rw [s1_run] at hx
        obtain ⟨l, hl, hx⟩ := orec_ok hx
        obtain ⟨h1, rfl⟩ := load1_ok ha hx
        simp only [aopE, asPtr_some hl, h1, withH]
      | true =>
        cases hs : sizeA P t with
        | none => rw [hs] at hx; cases hx
        | some k =>
          rw [hs] at hx
          change (s1 (srcOf P n a) (loadNM k)).run e h = _ at hx
          rw [s1_run] at hx
          obtain ⟨l, hl, hx⟩ := orec_ok hx
          obtain ⟨h1, rfl⟩ := loadN_ok ha hs hx
          simp only [aopE, asPtr_some hl, h1, withH]
  case store t a x =>
    simp only [compOp] at hx
    cases hs : sizeA P t with
    | none => rw [hs] at hx; cases hx
    | some k =>
      rw [hs] at hx
      change (s2 (srcOf P n a) (srcOf P n x) (storeM k)).run e h = _ at hx
      rw [s2_run] at hx
      obtain ⟨l, hl, hx⟩ := orec_ok hx
      obtain ⟨cs, hc, hx⟩ := orec_ok hx
      obtain ⟨hb, hx⟩ := brec_ok hx
      rw [lenF_eq] at hb
      rw [cellsM_eq] at hc
      cases hw : writeM h l cs with
      | none => rw [hw] at hx; cases hx
      | some h2 =>
        rw [hw] at hx
        cases hx
        simp only [aopE, asPtr_some hl, storeA, hs, hc, hb, cond_true, writeM_some hw]
  case nilCheck x =>
    rw [compOp, s1_run] at hx
    obtain ⟨h1, rfl⟩ := okv_ok hx
    simp only [aopE, h1, withH]
  case binOp op t x y ty =>
    rw [compOp, s2_run] at hx
    simp only [aopE]
    unfold binM at hx
    cases hi : asI ((srcOf P n x).ev e) with
    | some a =>
      rw [hi] at hx
      obtain ⟨b, hb, hx⟩ := orec_ok hx
      obtain ⟨h1, rfl⟩ := okv_ok hx
      rw [asI_some hi, asI_some hb, bi_run h1, withH]
    | none =>
      rw [hi] at hx
      cases hs : asStr ((srcOf P n x).ev e) with
      | some a =>
        rw [hs] at hx
        obtain ⟨b, hb, hx⟩ := orec_ok hx
        obtain ⟨h1, rfl⟩ := okv_ok hx
        rw [asStr_some hs, asStr_some hb, bs_run h1, withH]
      | none =>
        rw [hs] at hx
        obtain ⟨h1, rfl⟩ := okv_ok hx
        rw [h1, withH]
  case unOp op t x =>
    cases op
    case not =>
      rw [compOp, s1_run] at hx
      obtain ⟨b, hb, hx⟩ := orec_ok hx
      cases hx
      simp only [aopE, asB_some hb, unA, withH]
    all_goals exact raw hx
  case fieldAddr s x f =>
    simp only [compOp] at hx
    cases hf : fieldOff P s f with
    | none => rw [hf] at hx; cases hx
    | some off =>
      rw [hf] at hx
      change (s1 (srcOf P n x) (fieldAddrM off)).run e h = _ at hx
      rw [s1_run] at hx
      obtain ⟨l, hl, hx⟩ := orec_ok hx
      cases hx
      simp only [aopE, asPtr_some hl]
      unfold fieldOff at hf
      split at hf
      · rename_i fields hu
        split at hf
        · rename_i fl hfl
          split at hf
          · rename_i k hk
            cases hf
            simp only [fieldAddrA, hu, hfl, hk, withH]
            rfl
          · cases hf
        · cases hf
      · cases hf
  case indexAddr t x i =>
    simp only [compOp] at hx
    simp only [aopE]
    unfold ixK at hx
    split at hx
    · rename_i len el hu
      split at hx
      · rename_i s hs
        change (s2 (srcOf P n x) (srcOf P n i) (ixArrM len s)).run e h = _ at hx
        rw [s2_run] at hx
        obtain ⟨j, hj, hx⟩ := orec_ok hx
        obtain ⟨l, hl, hx⟩ := orec_ok hx
        obtain ⟨h1, rfl, rfl⟩ := ixAt_ok hx
        simp only [indexAddrA, asI_some hj, asPtr_some hl, hu, if_pos h1, hs, withH]
      · cases hx
    · rename_i el hu
      split at hx
      · rename_i s hs
        change (s2 (srcOf P n x) (srcOf P n i) (ixSlM s)).run e h = _ at hx
        rw [s2_run] at hx
        obtain ⟨j, hj, hx⟩ := orec_ok hx
        obtain ⟨sl, hsl, hx⟩ := orec_ok hx
        obtain ⟨l, hl, hx⟩ := orec_ok hx
        obtain ⟨h1, rfl, rfl⟩ := ixAt_ok hx
        simp only [indexAddrA, asI_some hj, asSl_some hsl, hl, hu, if_pos h1, hs, withH]
      · cases hx
    · cases hx
  case index t x i =>
    simp only [compOp] at hx
    simp only [aopE]
    cases hs : isStr P t with
    | false =>
      rw [hs] at hx
      change (s2 (srcOf P n x) (srcOf P n i) (indexRawM P t)).run e h = _ at hx
      rw [s2_run] at hx
      obtain ⟨h1, rfl⟩ := okv_ok hx
      rw [h1, withH]
    | true =>
      rw [hs] at hx
      change (s2 (srcOf P n x) (srcOf P n i) indexStrM).run e h = _ at hx
      rw [s2_run] at hx
      obtain ⟨j, hj, hx⟩ := orec_ok hx
      obtain ⟨s, hss, hx⟩ := orec_ok hx
      obtain ⟨k, m⟩ := j
      cases m with
      | negSucc m => cases hx
      | ofNat m =>
        obtain ⟨b, hb, hx⟩ := orec_ok hx
        cases hx
        rw [nthF_eq] at hb
        have h0 : (0 : Int) ≤ Int.ofNat m := by simp
        have hb' : s[(Int.ofNat m).toNat]? = some b := hb
        simp only [indexA, asI_some hj, asStr_some hss, isStr_eq hs]
        rw [if_pos h0, hb']
        rfl
  case extract x i =>
    rw [compOp, s1_run] at hx
    obtain ⟨vs, hv, hx⟩ := orec_ok hx
    obtain ⟨h1, rfl⟩ := okv_ok hx
    rw [nthF_eq] at h1
    simp only [aopE, extractA, asTup_some hv, h1, withH]
  case makeFunc f a b =>
    cases hx
    simp only [aopE, evM, srcsOf, mapF_eq, List.map_map]; rfl
  case call c =>
    obtain ⟨callee, args, ats⟩ := c
    cases callee with
    | value f => exact raw hx
    | invoke r m => exact raw hx
    | builtin b =>
      simp only [compOp, biC] at hx
      split at hx
      · rename_i x t hargs hats
        simp only [aopE, builtinA, hargs, hats, List.map_cons, List.map_nil]
        unfold lenK at hx
        split at hx
        · rename_i hu
          change (s1 (srcOf P n x) lenStrM).run e h = _ at hx
          rw [s1_run] at hx
          obtain ⟨s, hs, hx⟩ := orec_ok hx
          cases hx
          simp only [lenA, hu, asStr_some hs, withH, lenF_eq]; rfl
        · rename_i el hu
          change (s1 (srcOf P n x) lenSlM).run e h = _ at hx
          rw [s1_run] at hx
          obtain ⟨s, hs, hx⟩ := orec_ok hx
          cases hx
          simp only [lenA, hu, asSl_some hs, withH]; rfl
        · rename_i k el hu
          cases hx
          simp only [lenA, hu, withH]; rfl
        · change (s1 (srcOf P n x) (lenRawM P t)).run e h = _ at hx
          rw [s1_run] at hx
          obtain ⟨h1, rfl⟩ := okv_ok hx
          rw [h1, withH]
      · exact raw hx
  all_goals exact raw hx
end Go.Am

noncomputable section
namespace Go.Am
open Go.RowKit

/-- A deferred call; the mark of a range over a function. -/
inductive DVM where
  | call (f : FuncId) (args : List AV)
  | mark (k : Nat)
inductive Res where
  | mk (o : Out) (e : Env) (h : Heap) (ds : List DVM)
abbrev RX := Option (List Res)
abbrev KX := Env → Heap → List DVM → RX
abbrev KO := Out → KX
abbrev CallM := FuncId → List AV → Heap → Option (List (AV × Heap))
def joinR (a b : RX) : RX := Option.rec none (fun x => Option.rec none (fun y => some (appF x y)) b) a
def fanAll (l : List (AV × Heap)) (k : AV → Heap → RX) : RX := List.rec (some []) (fun p _ ih => joinR (Prod.rec (fun v h => k v h) p) ih) l
def fan (l : Option (List (AV × Heap))) (k : AV → Heap → RX) : RX := Option.rec none (fun l => List.rec none (fun p ps _ => List.rec (Prod.rec (fun v h => k v h) p) (fun _ _ _ => fanAll l k) ps) l) l

inductive CO where
  | mk (f : CallM → KX → KX)
def noC : CallM → KX → KX := fun _ _ _ _ _ => none
abbrev Pt := AV → Env → Env
def eqB (a b : Bool) : Bool := Bool.rec (not b) b a
/-- Is it wanted? -/
def wantM (g : G) (b : Bool) (e : Env) : Option Bool := Option.rec (isTup (g e)) (fun c => some (eqB c b)) (asB (g e))
def skipK (p : Pt) (k : KX) : KX := fun e h ds => k (p (.tuple []) e) h ds
def gateK (g : G) (b : Bool) (p : Pt) (f : CallM → KX → KX) : CallM → KX → KX := fun call k e h ds => Option.rec none (fun t => Bool.rec (skipK p k e h ds) (f call k e h ds) t) (wantM g b e)
inductive GD where
  | all
  | when (g : G) (b : Bool)
  | never
  | bad
def guardOf (n : Nat) (ops : Array Oper) (o : Oper) : GD :=
  match o.guard with
  | none => .all
  | some (j, b) => (match (ops[j]?).bind (·.dst) with | none => .never | some d => Bool.rec .bad (Src.rec (fun g => .when g b) (tmpS n d)) (Nat.blt d n))
def gated (gd : GD) (p : Pt) (f : CallM → KX → KX) : CO := GD.rec (.mk f) (fun g b => .mk (gateK g b p f)) (.mk fun _ => skipK p) (.mk noC) gd
def opK (p : Pt) (f : OpK) : CallM → KX → KX := fun _ k e h ds => R1.rec none (fun v h' => k (p v e) h' ds) (f e h)
def moveK (p : Pt) (g : G) : CallM → KX → KX := fun _ k e h ds => k (p (g e) e) h ds
def callFnK (P : Program) (p : Pt) (f : FuncId) (xs : List Src) : CallM → KX → KX := fun call k e h ds => fan (call f (evM e xs) h) fun v h' => k (p v e) h' ds
def callK (P : Program) (p : Pt) (f : G) (xs : List Src) : CallM → KX → KX := fun call k e h ds =>
  FV.rec none (fun g first cap => Bool.rec none (fan (call g (appF (appF first (evM e xs)) cap) h) fun v h' => k (p v e) h' ds) (Nat.blt g P.funcs.size))
    (fun y => fan (call (Nat.add P.funcs.size y) (evM e xs) h) fun v h' => k (p v e) h' ds) (asFn (f e))
def invK (P : Program) (p : Pt) (r : G) (name : String) (xs : List Src) : CallM → KX → KX := fun call k e h ds =>
  Option.rec none (fun i => Option.rec none (fun q => Prod.rec (fun g u => Bool.rec none (fan (call g (u :: evM e xs) h) fun v h' => k (p v e) h' ds) (Nat.blt g P.funcs.size)) q) (recvM P h i.t i.v name)) (asIface (r e))
def deferK (p : Pt) (f : G) (xs : List Src) : CallM → KX → KX := fun _ k e h ds =>
  FV.rec none (fun g first cap => k (p (.tuple []) e) h (.call g (appF (appF first (evM e xs)) cap) :: ds)) (fun _ => none) (asFn (f e))
def nextK (p : Pt) (g : G) (isS : Bool) : CallM → KX → KX := fun _ k e h ds =>
  Bool.rec (fan (nextM h (g e)) fun v h' => k (p v e) h' ds) (Option.rec none (fun q => Prod.rec (fun v h' => k (p v e) h' ds) q) (nextS h (g e))) isS
def callC (P : Program) (n : Nat) (p : Pt) (f : Operand) (xs : List Operand) : CallM → KX → KX :=
  match f with
  | .func g => Bool.rec noC (callFnK P p g (srcsOf P n xs)) (Nat.blt g P.funcs.size)
  | f => Src.rec (fun gf => callK P p gf (srcsOf P n xs)) (srcOf P n f)
def compO (P : Program) (inR : Bool) (n : Nat) (ops : Array Oper) (o : Oper) : CO := Dst.rec (fun p =>
  match o.op with
  | .move x | .assign x => Src.rec (fun g => gated (guardOf n ops o) p (moveK p g)) (srcOf P n x)
  | .call c =>
    (match c.callee with
    | .value f => gated (guardOf n ops o) p (callC P n p f c.args.toList)
    | .invoke r name => Src.rec (fun g => gated (guardOf n ops o) p (invK P p g name (srcsOf P n c.args.toList))) (srcOf P n r)
    | .builtin _ => CI.rec (fun f => gated (guardOf n ops o) p (opK p f)) (compOp P n o.op))
  | .next it isS => Src.rec (fun g => gated (guardOf n ops o) p (nextK p g isS)) (srcOf P n it)
  | .defer c => (match inR, c.callee with | false, .value f => Src.rec (fun g => gated (guardOf n ops o) p (deferK p g (srcsOf P n c.args.toList))) (srcOf P n f) | _, _ => .mk noC)
  | op => CI.rec (fun f => gated (guardOf n ops o) p (opK p f)) (compOp P n op)) (dstOf n o.dst)
def compOps (P : Program) (inR : Bool) (n : Nat) (ops : Array Oper) : List CO := mapF (compO P inR n ops) ops.toList
def opsM (call : CallM) (l : List CO) : KX → KX := List.rec (motive := fun _ => KX → KX) (fun k => k) (fun o _ ih k => CO.rec (fun f => f call (ih k)) o) l
def seqM (b : KO → KX) (κ : KO) : KO := fun o => Out.rec (b κ) (fun i => κ (.exit i)) (κ .ret) (fun v => κ (.pan v)) o
def blockM (id : Nat) (κ : KO) : KO := fun o => Out.rec (κ .normal) (fun i => Bool.rec (κ (.exit i)) (κ .normal) (Nat.beq i id)) (κ .ret) (fun v => κ (.pan v)) o
def noX : KX := fun _ _ _ => none

/-! ### Loops that come to several things: what is alike at the head is told once -/

def leaf : KO := fun o e h ds => some [.mk o e h ds]
def logNew (h h' : Heap) : List Nat := takeF (Nat.sub (lenF h'.log) (lenF h.log)) h'.log
def relog (h h' : Heap) : Heap := ⟨h'.next, h'.tr, logNew h h'⟩
inductive LS where
  | mk (e : Env) (h : Heap) (ds : List DVM)
def LS.env (s : LS) : Env := LS.rec (fun e _ _ => e) s
def LS.heap (s : LS) : Heap := LS.rec (fun _ h _ => h) s
def LS.dvs (s : LS) : List DVM := LS.rec (fun _ _ ds => ds) s
def normalsR (l : List Res) : List LS := List.rec [] (fun r _ ih => Res.rec (fun o e h ds => Out.rec (.mk e h ds :: ih) (fun _ => ih) ih (fun _ => ih) o) r) l
def othersR (κ : KO) (l : List Res) : RX := List.rec (some []) (fun r _ ih => Res.rec (fun o e h ds => Out.rec ih (fun i => joinR (κ (.exit i) e h ds) ih) (joinR (κ .ret e h ds) ih) (fun _ => none) o) r) l
def runAll (b : KO → KX) (S : List LS) : RX := List.rec (some []) (fun s _ ih => joinR (LS.rec (fun e h ds => b leaf e h ds) s) ih) S
def killE (n : Nat) (kill : List Tmp) (e : Env) : Env := List.rec e (fun t _ ih => (tmpD n t).put .unk ih) kill
def noCur1 (i : Nat) (h : Heap) : Heap := match h.get i with | some (.iter m s seen (some _) l) => ⟨h.next, h.tr.put i (some (.iter m s seen none l)), h.log⟩ | _ => h
def noCur (l : List Nat) : Heap → Heap := List.rec (motive := fun _ => Heap → Heap) (fun h => h) (fun i _ ih h => ih (noCur1 i h)) l
/-- Maps that have turned are told as bags. -/
def bagL (l : List Nat) : Heap → Heap := List.rec (motive := fun _ => Heap → Heap) (fun h => h) (fun i _ ih h => ih (bag1 i h)) l
def wkS (n : Nat) (h0 : Heap) (kill : List Tmp) (s : LS) : LS := LS.rec (fun e h ds => .mk (killE n kill e) (bagL (logNew h0 h) (noCur (logNew h0 h) h)) ds) s
def insS (n : Nat) (h0 : Heap) (s : LS) (reps : List LS) : List LS := List.rec [s] (fun r rs ih => Option.rec (r :: ih) (fun sg => .mk r.env (tidy h0.next sg r.heap) r.dvs :: rs)
  (mrg h0.next (envL n r.env) (relog h0 r.heap) (envL n s.env) (relog h0 s.heap))) reps
def eqDV (a b : DVM) : Bool := DVM.rec (fun f xs => DVM.rec (fun g ys => Bool.rec false (beqVs xs ys) (Nat.beq f g)) (fun _ => false) b) (fun k => DVM.rec (fun _ _ => false) (fun m => Nat.beq k m) b) a
def eqDs (a : List DVM) : List DVM → Bool := List.rec (motive := fun _ => List DVM → Bool) (fun b => List.rec true (fun _ _ _ => false) b) (fun x _ ih b => List.rec false (fun y t _ => Bool.rec false (ih t) (eqDV x y)) b) a
def allDs (ds0 : List DVM) (S : List LS) : Bool := List.rec true (fun s _ ih => Bool.rec false ih (eqDs s.dvs ds0)) S
def foldS (n : Nat) (h0 : Heap) (kill : List Tmp) (S : List LS) : List LS := List.rec [] (fun s _ ih => insS n h0 (wkS n h0 kill s) ih) S
def mergeF (n : Nat) (h0 : Heap) (kill : List Tmp) (ds0 : List DVM) (S : List LS) : List LS := List.rec [] (fun _ t _ => List.rec S (fun _ _ _ => Bool.rec S (foldS n h0 kill S) (allDs ds0 S)) t) S
def contL (k : List LS → RX) (S : List LS) : RX := List.rec (some []) (fun _ _ _ => k S) S
def goL (n : Nat) (kill : List Tmp) (b : KO → KX) (κ : KO) (h0 : Heap) (ds0 : List DVM) (N : Nat) : List LS → RX := Nat.rec (motive := fun _ => List LS → RX) (fun _ => none)
  (fun _ ih S => Option.rec none (fun l => joinR (othersR κ l) (contL ih (mergeF n h0 kill ds0 (normalsR l)))) (runAll b S)) N
def loopG (n : Nat) (kill : List Tmp) (b : KO → KX) (κ : KO) (N : Nat) : KX := fun e h ds => goL n kill b κ h ds N [.mk e h ds]
/-- What a piece of code does with its temporaries, in the text's order: true: it writes one. -/
def evOps (ops : Array Oper) (l : List Oper) : List (Bool × Tmp) := l.flatMap fun o => (usesA ops o).map (fun t => (false, t)) ++ (match o.dst with | some d => [(true, d)] | none => [])
def evOp (x : Operand) : List (Bool × Tmp) := match x with | .tmp t => [(false, t)] | _ => []
def evC (c : Code) : List (Bool × Tmp) := @Code.rec (fun _ => List (Bool × Tmp)) [] (fun _ ops _ => evOps ops ops.toList) (fun _ _ a b => a ++ b) (fun c _ _ a b => evOp c ++ (a ++ b)) (fun _ _ a => a) (fun _ a => a)
  (fun f ps _ _ a b => evOp f ++ (ps.toList.map (fun t => (true, t)) ++ (a ++ b))) (fun _ => []) (fun _ a => a) (fun _ => []) (fun _ => []) [] (fun _ => []) c
/-- What is written ahead of any look: nobody at the loop's head wants it. -/
def killOf (l : List (Bool × Tmp)) : List Tmp → List Tmp := List.rec (motive := fun _ => List Tmp → List Tmp) (fun _ => [])
  (fun p _ ih seen => bif seen.any (fun t => Nat.beq t p.2) then ih seen else bif p.1 then p.2 :: ih (p.2 :: seen) else ih (p.2 :: seen)) l
/-- Behind the function that was ranged over. -/
def rangeEnd (k k0 : Nat) (e : Env) (ds : List DVM) (κ : KO) (h : Heap) : RX :=
  match h.get k with
  | some (.loop .ready none _ _ _ _ _ _) => κ .normal e (h.del k) (.mark k0 :: ds)
  | some (.loop .done (some .ret) _ _ _ _ _ _) => κ .ret e (h.del k) (.mark k0 :: ds)
  | some (.loop .done (some (.exit i)) _ _ _ _ _ _) => κ (.exit i) e (h.del k) (.mark k0 :: ds)
  | _ => none
def hasBody (P : Program) (g : FuncId) : Bool := Option.rec false (fun fn => fn.body.isSome) (P.funcs[g]?)
def rangeM (P : Program) (call : CallM) (n : Nat) (f : Src) (ps : Array Tmp) (a b : Code) (κ : KO) : KX := fun e h ds =>
  FV.rec none (fun g first cap => Bool.rec none
    (fan (call g (appF (appF first [.yield (Nat.succ h.next)]) cap) ((h.alloc .defs).alloc (.loop .ready none n e ps a b h.next))) fun _ h' => rangeEnd (Nat.succ h.next) h.next e ds κ h') (hasBody P g)) (fun _ => none) (asFn (f.ev e))
/-- A region that draws its order. -/
abbrev DrawM := CallM → FuncId → Nat → Nat → Array Oper → KX → KX
def regM (P : Program) (draw : DrawM) (call : CallM) (inR : Bool) (fid n id : Nat) (ops : Array Oper) (dr : Bool) (κ : KO) : KX := Bool.rec (opsM call (compOps P inR n ops) (κ .normal)) (draw call fid id n ops (κ .normal)) dr
def condM (g : G) (a b : KX) : KX := fun e h ds => Option.rec none (fun t => Bool.rec (b e h ds) (a e h ds) t) (asB (g e))
def exM (P : Program) (draw : DrawM) (call : CallM) (inR : Bool) (fid n N : Nat) (c : Code) : KO → KX := @Code.rec (fun _ => KO → KX) (fun κ => κ .normal) (fun id ops dr => regM P draw call inR fid n id ops dr) (fun _ _ iha ihb κ => iha (seqM ihb κ))
  (fun c _ _ iha ihb κ => Src.rec (fun g => condM g (iha κ) (ihb κ)) (srcOf P n c)) (fun id _ ih κ => ih (blockM id κ)) (fun c ih κ => loopG n (killOf (evC c) []) ih κ N)
  (fun f ps a b _ _ κ => Bool.rec (rangeM P call n (srcOf P n f) ps a b κ) noX inR) (fun i κ => κ (.exit i)) (fun _ _ _ => noX) (fun _ κ => κ .normal) (fun _ _ => noX) (fun κ => κ .ret) (fun _ _ => noX) c

/-! ### Regions that draw their order -/

/-- Calls that come to one thing. -/
def oneM (call : CallM) : CallM := fun f a h => Option.rec none (fun l => List.rec none (fun p t _ => List.rec (some [p]) (fun _ _ _ => none) t) l) (call f a h)
abbrev EH := Env × Heap
/-- A run in the text's order, with what was there ahead of each operation. -/
def opsT (call : CallM) (l : List CO) : List EH → (List EH → KX) → KX := List.rec (motive := fun _ => List EH → (List EH → KX) → KX) (fun acc k e h ds => k ((e, h) :: acc) e h ds)
  (fun o _ ih acc k => CO.rec (fun f e h ds => f call (ih ((e, h) :: acc) k) e h ds) o) l
/-- A reading: where it stands, is it wanted, what it answers, at which times it may be done. -/
inductive RD where
  | mk (i : Nat) (g : GD) (f : OpK) (ps : List Nat)
def timesOf (bs ls : List Nat) (i : Nat) : List Nat → List Nat
  | [] => []
  | p :: ps => bif mayAt bs i p ls then p :: timesOf bs ls i ps else timesOf bs ls i ps
def readsOf (P : Program) (n : Nat) (ops : Array Oper) (bs ls : List Nat) : List Oper → Nat → List RD
  | [], _ => []
  | o :: os, i => bif readsA P o.op && !loudA P o.op then (CI.rec (fun f => .mk i (guardOf n ops o) f (timesOf bs ls i ls)) (compOp P n o.op)) :: readsOf P n ops bs ls os (i + 1) else readsOf P n ops bs ls os (i + 1)
def sameR (a b : R1) : Bool := R1.rec false (fun v _ => R1.rec false (fun u _ => beqV u v) b) a
def heapAt (tr : List EH) (n p : Nat) (k : Heap → Bool) : Bool := Option.rec false (fun q => Prod.rec (fun _ h => k h) q) (nthF (Nat.sub n p) tr)
def rdTimes (tr : List EH) (n : Nat) (f : OpK) (e : Env) (v : R1) (ps : List Nat) : Bool := List.rec true (fun p _ ih => Bool.rec false ih (heapAt tr n p fun h => sameR v (f e h))) ps
def wantG (g : GD) (e : Env) : Option Bool := GD.rec (some true) (fun g b => wantM g b e) (some false) none g
/-- tr: the last first; n: how many operations. -/
def rdOk (tr : List EH) (n : Nat) (r : RD) : Bool := RD.rec (fun i g f ps => Option.rec false (fun q => Prod.rec (fun e h => Option.rec false (fun t => Bool.rec true (rdTimes tr n f e (f e h) ps) t) (wantG g e)) q) (nthF (Nat.sub n i) tr)) r
def rdAll (tr : List EH) (n : Nat) (l : List RD) : Bool := List.rec true (fun r _ ih => Bool.rec false ih (rdOk tr n r)) l
def dynM (call : CallM) (cos : List CO) (rds : List RD) (n : Nat) (k : KX) : KX := opsT call cos [] fun tr e h ds => Bool.rec none (k e h ds) (rdAll tr n rds)

/-- Every order. -/
def coAt (cos : List CO) (i : Nat) (call : CallM) (k : KX) : KX := Option.rec (fun _ _ _ => none) (fun o => CO.rec (fun f => f call k) o) (nthF i cos)
def chkM (P : Program) (n : Nat) (ops : Array Oper) (cs : List Nat) (e : Env) (h : Heap) : Bool := List.rec true (fun s _ ih => Bool.rec false ih (match ops[s]? with
  | some o => (match wantG (guardOf n ops o) e, o.dst with
    | some true, some d => CI.rec (fun f => R1.rec false (fun v _ => beqV v ((tmpS n d).ev e)) (f e h)) (compOp P n o.op)
    | some false, _ => true
    | _, _ => false)
  | none => true)) cs
def tpM (P : Program) (n : Nat) (ops : Array Oper) (cos : List CO) (call : CallM) (pl : Plan) (k : KX) : KX := Plan.rec (motive := fun _ => KX) k (fun i _ ih => coAt cos i call ih)
  (fun i cs _ _ ihp ihq e h ds => joinR (coAt cos i call (fun e h ds => Bool.rec none (ihp e h ds) (chkM P n ops cs e h)) e h ds) (ihq e h ds)) (fun _ _ _ => some []) pl
def leafK : KX := fun e h ds => some [.mk .normal e h ds]
/-- What is known in every order's end, told as the first's. -/
def frAll (n n0 : Nat) (e1 : Env) (l : List Res) : Heap → Option Heap := List.rec (motive := fun _ => Heap → Option Heap) (fun a => some a)
  (fun r _ ih a => Res.rec (fun _ e2 h2 _ => Option.rec none (fun s => ih (tidy n0 s a)) (mrg n0 (envL n e1) a (envL n e2) h2)) r) l
def freeEnd (n : Nat) (h : Heap) (k : KX) (l : List Res) : RX := List.rec none (fun r rs _ => Res.rec (fun _ e1 h1 ds => Option.rec none (fun a => k e1 ⟨a.next, a.tr, appF a.log h.log⟩ ds) (frAll n h.next e1 rs h1)) r) l
def freeM (P : Program) (n : Nat) (ops : Array Oper) (cos : List CO) (call : CallM) (pl : Plan) (k : KX) : KX := fun e h ds =>
  Option.rec none (fun l => freeEnd n h k l) (tpM P n ops cos call pl leafK e ⟨h.next, h.tr, []⟩ ds)
def plainOp (op : Op) : Bool := match op with | .next _ _ => false | .defer _ => false | _ => true
inductive DrK where
  | quiet
  | dyn
  | free
  | no
def drK (P : Program) (n : Nat) (ops : Array Oper) (pl : Option Plan) : DrK :=
  bif !ops.toList.all (fun o => plainOp o.op) then .no else bif drawStatic P ops (masks ops.toList []) then (bif needNot P (masks ops.toList []) (louds P ops.toList 0) ops.toList 0 then .quiet else .dyn)
  else (match pl with | some p => bif strictOk ops (masks ops.toList []) && dstsOk ops n && planOk P ops (masks ops.toList []) p [] [] then .free else .no | none => .no)
def drawX (P : Program) (plan : FuncId → Nat → Option Plan) : DrawM := fun call fid id n ops k => DrK.rec (opsM (oneM call) (compOps P false n ops) k)
  (dynM (oneM call) (compOps P false n ops) (readsOf P n ops (masks ops.toList []) (louds P ops.toList 0) ops.toList 0) ops.size k)
  (Option.rec (fun _ _ _ => none) (fun pl => freeM P n ops (compOps P false n ops) (oneM call) pl k) (plan fid id)) (fun _ _ _ => none) (drK P n ops (plan fid id))

/-! ### Functions -/

def frameM (args : List AV) : Env := List.rec (motive := fun _ => Nat → Env → Env) (fun _ e => e) (fun v _ ih i e => ih (Nat.succ i) (Dst.put (dstTab (dig (Nat.div i 16)) (dig (Nat.mod i 16))) v e)) args 0 Env.none
def resM (P : Program) (n : Nat) (e : Env) (h : Heap) (r : ResultVar) : Option AV :=
  match r with
  | .tmp t => some ((tmpS n t).ev e)
  | .cell a t => (match (tmpS n a).ev e with | .ptr (some l) => loadA P h t l | _ => none)
def resL (P : Program) (n : Nat) (e : Env) (h : Heap) (rs : List ResultVar) : Option (List AV) := List.rec (some []) (fun r _ ih => Option.rec none (fun v => Option.rec none (fun vs => some (v :: vs)) ih) (resM P n e h r)) rs
def single1 (l : List AV) : AV := List.rec (.tuple []) (fun v t _ => List.rec v (fun _ _ _ => .tuple l) t) l
abbrev LH := Option (List Heap)
/-- Deferred calls. -/
def runDs (dov dcall : CallM) (ds : List DVM) : Heap → LH := List.rec (motive := fun _ => Heap → LH) (fun h => some [h])
  (fun d _ ih h => DVM.rec (fun f args => Option.rec none (fun l => List.rec none (fun p ps _ => List.rec (Prod.rec (fun _ h' => ih h') p) (fun _ _ _ => none) ps) l) (Option.rec (dcall f args h) some (dov f args h)))
    (fun k => match h.get k with | some .defs => ih (h.del k) | _ => none) d) ds
abbrev LR := Option (List (AV × Heap))
def endOne (P : Program) (dov dcall : CallM) (fn : Func) (e : Env) (h : Heap) (ds : List DVM) : LR :=
  Option.rec none (fun hs => List.rec none (fun h' t _ => List.rec (Option.rec none (fun vs => some [(single1 vs, h')]) (resL P fn.ntmps e h' fn.results.toList)) (fun _ _ _ => none) t) hs) (runDs dov dcall ds h)
def endM (P : Program) (dov dcall : CallM) (fn : Func) (r : Res) : LR := Res.rec (fun o e h ds => Out.rec (endOne P dov dcall fn e h ds) (fun _ => none) (endOne P dov dcall fn e h ds) (fun _ => none) o) r
def endAll (P : Program) (dov dcall : CallM) (fn : Func) (l : List Res) : LR := List.rec (some []) (fun r _ ih => Option.rec none (fun a => Option.rec none (fun b => some (appF a b)) ih) (endM P dov dcall fn r)) l
/-- The others are the first, but for the new numbers. -/
def mrgAll (h : Heap) (v : AV) (l : List (AV × Heap)) : Heap → Option Heap := List.rec (motive := fun _ => Heap → Option Heap) (fun a => some a)
  (fun p _ ih a => Prod.rec (fun v2 h2 => Option.rec none (fun s => ih (tidy h.next s a)) (mrg h.next [v] (relog h a) [v2] (relog h h2))) p) l
def mergeL (h : Heap) (L : List (AV × Heap)) : List (AV × Heap) := List.rec [] (fun p ps _ => List.rec L (fun _ _ _ => Prod.rec (fun v h1 => Option.rec L (fun a => [(v, a)]) (mrgAll h v ps h1)) p) ps) L
/-- A deferred call's own body: nothing deferred in it. -/
def endD (P : Program) (fn : Func) (r : Res) : LR := Res.rec (fun o e h ds => List.rec (Bool.rec none (Option.rec none (fun vs => some [(single1 vs, h)]) (resL P fn.ntmps e h fn.results.toList)) (Out.rec true (fun _ => false) true (fun _ => false) o)) (fun _ _ _ => none) ds) r
def endDs (P : Program) (fn : Func) (l : List Res) : LR := List.rec (some []) (fun r _ ih => Option.rec none (fun a => Option.rec none (fun b => some (appF a b)) ih) (endD P fn r)) l
def fits (fn : Func) (args : List AV) : Bool := Bool.rec false (Nat.ble (lenF args) fn.ntmps) (Nat.ble fn.ntmps 256)
def dbodyM (P : Program) (draw : DrawM) (call : CallM) (N fid : Nat) (fn : Func) (c : Code) (args : List AV) (h : Heap) : LR :=
  Bool.rec none (Option.rec none (fun l => endDs P fn l) (exM P draw call false fid fn.ntmps N c leaf (frameM args) h [])) (fits fn args)
def dcallM (P : Program) (draw : DrawM) (call : CallM) (N : Nat) : CallM := fun f args h => Option.rec none (fun fn => Option.rec none (fun c => dbodyM P draw call N f fn c args h) fn.body) (P.funcs[f]?)
def bodyM (P : Program) (draw : DrawM) (dov call : CallM) (N fid : Nat) (fn : Func) (c : Code) (args : List AV) (h : Heap) : LR :=
  Bool.rec none (Option.rec none (fun l => Option.rec none (fun L => some (mergeL h L)) (endAll P dov (dcallM P draw call N) fn l)) (exM P draw call false fid fn.ntmps N c leaf (frameM args) h [])) (fits fn args)
def putAll (n : Nat) (ps : List Tmp) : List AV → Env → Env := List.rec (motive := fun _ => List AV → Env → Env) (fun _ e => e) (fun p _ ih l e => List.rec e (fun v t _ => ih t ((tmpD n p).put v e)) l) ps
/-- A round's end. -/
def roundEnd (k : Nat) (p : Option Code) (h : Heap) : LR :=
  match h.get k with
  | some (.loop _ _ n e ps a b d) => some [(.bool p.isNone, h.set k (.loop (if p.isNone then .ready else .done) p n e ps a b d))]
  | _ => none
def roundOut (k : Nat) (r : Res) : LR := Res.rec (fun o _ h ds => List.rec (Out.rec (roundEnd k none h) (fun i => roundEnd k (some (.exit i)) h) (roundEnd k (some .ret) h) (fun _ => none) o) (fun _ _ _ => none) ds) r
def roundAll (k : Nat) (l : List Res) : LR := List.rec (some []) (fun r _ ih => Option.rec none (fun a => Option.rec none (fun b => some (appF a b)) ih) (roundOut k r)) l
def roundBusy (P : Program) (draw : DrawM) (call : CallM) (N k n : Nat) (b : Code) : KO := fun o e h ds => Out.rec (match h.get k with
  | some (.loop .ready q m e0 ps a' b' d) => exM P draw call true P.funcs.size n N b leaf e (h.set k (.loop .busy q m e0 ps a' b' d)) ds
  | _ => none) (fun _ => none) none (fun _ => none) o
def roundM (P : Program) (draw : DrawM) (call : CallM) (N k : Nat) (args : List AV) (h : Heap) : LR :=
  match h.get k with
  | some (.loop _ _ n e ps a b _) => Bool.rec none (Option.rec none (fun l => roundAll k l) (exM P draw call true P.funcs.size n N a (roundBusy P draw call N k n b) (putAll n ps.toList args e) h [])) (Bool.rec false (Nat.ble n 256) (Nat.beq (lenF args) ps.size))
  | _ => none
def natM (nat : CallF) (f : FuncId) (args : List AV) (h : Heap) : LR := match nat f args h with | some (.ret v h') => some [(v, h')] | _ => none
def callM (P : Program) (draw : DrawM) (nat : CallF) (ov dov : CallM) (N d : Nat) : CallM := Nat.rec (motive := fun _ => CallM) (fun _ _ _ => none)
  (fun _ call f args h => Option.rec (Bool.rec (roundM P draw call N (Nat.sub f P.funcs.size) args h)
    (Option.rec none (fun fn => Option.rec (natM nat f args h) (fun c => bodyM P draw dov call N f fn c args h) fn.body) (P.funcs[f]?)) (Nat.blt f P.funcs.size)) some (ov f args h)) d
end Go.Am

noncomputable section
namespace Go.Am
open Go.RowKit

/-- A map's pairs, the keys rising. -/
def risen (o : Obj) : Option (List (AV × AV)) := match o with
  | .map es c => bif riseB (toB es) && bornOk c es then some (toB es) else none
  | .bag kvs _ => bif riseB kvs then some kvs else none
  | _ => none
/-- Neither too many keys nor too long ones. -/
def keyLen (v : AV) : Nat := match v with | .str s => lenF s | _ => 0
def smallK (l : List (AV × AV)) : Bool := Nat.ble (lenF l) 65535 && l.all fun p => Nat.ble (keyLen p.1) 65535
def sortedOut (h : Heap) (l : List (AV × AV)) : AV × Heap := List.rec (.slice none 0 .dim, h) (fun _ _ _ => (.slice (some ⟨h.next, 0⟩) (lenF l) (.tip 1), h.alloc (.cells (mapF Prod.fst l) (.own none)))) l
/-- fs: slices.Sorted's numbers; gs: the numbers of what maps.Keys hands back. -/
def sortedM (fs gs : List FuncId) : CallM := fun f args h =>
  bif fs.any (Nat.beq f) then
    match args with
    | [.func (.func g) [] [.ptr (some ⟨p, 0⟩)]] =>
      bif gs.any (Nat.beq g) then
        (match h.get p with
        | some (.cells (.map (some i) :: _) (.var _)) => (match h.get i with
          | some o => (match risen o with
            | some l => bif smallK l then some [sortedOut h l] else none
            | none => none)
          | none => none)
        | _ => none)
      else none
    | _ => none
  else none
end Go.Am

noncomputable section
namespace Go.Am
open Go.RowKit

/-! ### How memory goes on -/

def Wfh (h : Heap) : Prop := ∀ i, h.next ≤ i → h.get i = none
/-- What of an object never changes: of the record of a range over a function all but its state and the way out. -/
def Obj.stat : Obj → Option (Nat × Env × Array Tmp × Code × Code × Nat)
  | .loop _ _ n env ps a b d => some (n, env, ps, a, b, d)
  | _ => none
def Stay (x y : Option Obj) : Prop := ∀ o', y = some o' → ∃ o, x = some o ∧ o.stat = o'.stat
theorem Stay.refl (x : Option Obj) : Stay x x := fun o' h => ⟨o', h, rfl⟩
theorem Stay.of_eq {x y : Option Obj} (h : y = x) : Stay x y := by rw [h]; exact Stay.refl _
theorem Stay.trans {x y z : Option Obj} (h : Stay x y) (h' : Stay y z) : Stay x z := fun o' ho => by
  obtain ⟨o1, h1, h2⟩ := h' o' ho
  obtain ⟨o2, h3, h4⟩ := h o1 h1
  exact ⟨o2, h3, h4.trans h2⟩
/-- What is not in the log is as it was. -/
def Grows (h h' : Heap) : Prop := h.next ≤ h'.next ∧ (∃ l, h'.log = l ++ h.log ∧ ∀ i, i < h.next → i ∉ l → h'.get i = h.get i) ∧ (Wfh h → Wfh h') ∧ ∀ i, i < h.next → Stay (h.get i) (h'.get i)
theorem Grows.refl (h : Heap) : Grows h h := ⟨Nat.le_refl _, ⟨[], rfl, fun _ _ _ => rfl⟩, id, fun _ _ => Stay.refl _⟩
theorem Grows.trans {a b c : Heap} (h : Grows a b) (h' : Grows b c) : Grows a c := by
  obtain ⟨h1, ⟨l, h2, h3⟩, h4, h5⟩ := h
  obtain ⟨g1, ⟨m, g2, g3⟩, g4, g5⟩ := h'
  refine ⟨Nat.le_trans h1 g1, ⟨m ++ l, by rw [g2, h2, List.append_assoc], fun i hi hn => ?_⟩, fun hw => g4 (h4 hw), fun i hi => (h5 i hi).trans (g5 i (by omega))⟩
  rw [List.mem_append, not_or] at hn
  rw [g3 i (by omega) hn.1, h3 i hi hn.2]
theorem Grows.put (h : Heap) (i : Nat) (o : Option Obj) (hi : o = none ∨ h.get i ≠ none) (hs : Stay (h.get i) o) : Grows h (h.put i o) := by
  refine ⟨Nat.le_refl _, ⟨[i], rfl, fun j _ hn => ?_⟩, fun hw j hj => ?_, fun j _ => ?_⟩
  · rw [Heap.get_put_ne _ _ (fun hh => hn (by rw [hh]; simp))]
  · by_cases hij : i = j
    · subst hij
      rcases hi with rfl | hi
      · exact Heap.get_put _ _ _
      · exact absurd (hw i hj) hi
    · rw [Heap.get_put_ne _ _ hij]; exact hw j hj
  · by_cases hij : i = j
    · subst hij; rw [Heap.get_put]; exact hs
    · rw [Heap.get_put_ne _ _ hij]; exact Stay.refl _
theorem Grows.set {h : Heap} {i : Nat} {o o' : Obj} (hi : h.get i = some o') (hs : o'.stat = o.stat := by rfl) : Grows h (h.set i o) := Grows.put h i _ (.inr (by rw [hi]; simp)) (by rw [hi]; intro x hx; cases hx; exact ⟨_, rfl, hs⟩)
theorem Grows.del (h : Heap) (i : Nat) : Grows h (h.del i) := Grows.put h i none (.inl rfl) (fun _ hx => by cases hx)
theorem Grows.alloc (h : Heap) (o : Obj) : Grows h (h.alloc o) := by
  refine ⟨Nat.le_succ _, ⟨[], rfl, fun j hj _ => Heap.get_alloc_ne _ _ (by omega)⟩, fun hw j hj => ?_, fun j hj => ?_⟩
  · have hj : h.next + 1 ≤ j := hj
    rw [Heap.get_alloc_ne _ _ (by omega)]; exact hw j (by omega)
  · rw [Heap.get_alloc_ne _ _ (by omega)]; exact Stay.refl _

/-- Less is known. -/
def Less (a b : Heap) : Prop := b.next = a.next ∧ ∀ i o, b.get i = some o → a.get i = some o
theorem Less.refl (a : Heap) : Less a a := ⟨rfl, fun _ _ h => h⟩
theorem Less.trans {a b c : Heap} (h : Less a b) (h' : Less b c) : Less a c := ⟨h'.1.trans h.1, fun i o ho => h.2 i o (h'.2 i o ho)⟩
theorem R.less {P : Program} {φ : List Emb} {a b : Heap} {w0 w : World} (hR : R P φ a w0 w) (hl : Less a b) : R P φ b w0 w where
  below := hR.below
  len := by rw [hR.len, hl.1]
  objs := fun i o hi => hR.objs i o (hl.2 i o hi)
  sep := fun i j oi oj ei ej hij hi hj => hR.sep i j oi oj ei ej hij (hl.2 i oi hi) (hl.2 j oj hj)
  glob := hR.glob
theorem R.wfh {P : Program} {φ : List Emb} {h : Heap} {w0 w : World} (hR : R P φ h w0 w) : Wfh h := by
  intro i hi
  cases hg : h.get i with
  | none => rfl
  | some o => have := hR.lt hg; omega

/-! ### Two ways to tell -/

structure Ren (n0 : Nat) (al : List (Nat × Nat)) (φ1 φ2 : List Emb) : Prop where
  old : ∀ i, i < n0 → ∀ e, φ2[i]? = some e → φ1[i]? = some e
  new : ∀ a b, (a, b) ∈ al → ∀ e, φ2[b]? = some e → φ1[a]? = some e
theorem Ren.mono {n0 : Nat} {al al' : List (Nat × Nat)} {φ1 φ2 : List Emb} (h : Ren n0 al' φ1 φ2) (hs : ∀ p ∈ al, p ∈ al') : Ren n0 al φ1 φ2 := ⟨h.old, fun a b hm => h.new a b (hs _ hm)⟩
structure Inv (n0 : Nat) (s : Sg) : Prop where
  fn : ∀ a b c, (a, b) ∈ s.al → (a, c) ∈ s.al → b = c
  inj : ∀ a b c, (a, c) ∈ s.al → (b, c) ∈ s.al → a = b
  new : ∀ a b, (a, b) ∈ s.al → n0 ≤ a ∧ n0 ≤ b
structure Stp (n0 : Nat) (s s' : Sg) : Prop where
  al : ∀ p ∈ s.al, p ∈ s'.al
  inv : Inv n0 s → Inv n0 s'
  td : ∀ p ∈ s'.al, p ∈ s.al ∨ p ∈ s'.todo
  tdm : ∀ p ∈ s.todo, p ∈ s'.todo
theorem Stp.refl (n0 : Nat) (s : Sg) : Stp n0 s s := ⟨fun _ h => h, id, fun _ h => .inl h, fun _ h => h⟩
theorem Stp.trans {n0 : Nat} {a b c : Sg} (h : Stp n0 a b) (h' : Stp n0 b c) : Stp n0 a c where
  al := fun p hp => h'.al p (h.al p hp)
  inv := fun hi => h'.inv (h.inv hi)
  td := fun p hp => by
    rcases h'.td p hp with h1 | h1
    · rcases h.td p h1 with h2 | h2
      · exact .inl h2
      · exact .inr (h'.tdm p h2)
    · exact .inr h1
  tdm := fun p hp => h'.tdm p (h.tdm p hp)

theorem lookL_some : ∀ {l : List (Nat × Nat)} {a c : Nat}, lookL l a = some c → (a, c) ∈ l
  | [], _, _, h => by cases h
  | (x, y) :: l, a, c, h => by
    change (Bool.rec (lookL l a) (some y) (Nat.beq x a) : Option Nat) = some c at h
    cases hb : Nat.beq x a with
    | true => rw [hb] at h; cases h; rw [Nat.eq_of_beq_eq_true hb]; simp
    | false => rw [hb] at h; exact List.mem_cons_of_mem _ (lookL_some h)
theorem lookL_none : ∀ {l : List (Nat × Nat)} {a : Nat}, lookL l a = none → ∀ c, (a, c) ∉ l
  | [], _, _, _ => by simp
  | (x, y) :: l, a, h, c => by
    change (Bool.rec (lookL l a) (some y) (Nat.beq x a) : Option Nat) = none at h
    cases hb : Nat.beq x a with
    | true => rw [hb] at h; cases h
    | false =>
      rw [hb] at h
      intro hm
      rcases List.mem_cons.1 hm with h1 | h1
      · cases h1; rw [Nat.beq_refl] at hb; cases hb
      · exact lookL_none h c h1
theorem hasR_false : ∀ {l : List (Nat × Nat)} {b : Nat}, hasR l b = false → ∀ a, (a, b) ∉ l
  | [], _, _, _ => by simp
  | (x, y) :: l, b, h, a => by
    change (Bool.rec (hasR l b) true (Nat.beq y b) : Bool) = false at h
    cases hb : Nat.beq y b with
    | true => rw [hb] at h; cases h
    | false =>
      rw [hb] at h
      intro hm
      rcases List.mem_cons.1 hm with h1 | h1
      · cases h1; rw [Nat.beq_refl] at hb; cases hb
      · exact hasR_false h a h1

section
variable {n0 : Nat}
theorem mId_run {s s' : Sg} {a b : Nat} (h : mId n0 s a b = some s') : Stp n0 s s' ∧ ∀ φ1 φ2 e, Ren n0 s'.al φ1 φ2 → φ2[b]? = some e → φ1[a]? = some e := by
  unfold mId at h
  cases ha : Nat.blt a n0 with
  | true =>
    rw [ha, cond_true] at h
    cases hb : Nat.beq a b with
    | false => rw [hb] at h; cases h
    | true =>
      rw [hb] at h; cases h
      have := Nat.eq_of_beq_eq_true hb
      subst this
      exact ⟨Stp.refl _ _, fun φ1 φ2 e hr he => hr.old a ((blt_iff _ _).1 ha) e he⟩
  | false =>
    rw [ha, cond_false] at h
    cases hbn : Nat.blt b n0 with
    | true => rw [hbn] at h; cases h
    | false =>
      rw [hbn, cond_false] at h
      have ha' : n0 ≤ a := by rw [blt_dec] at ha; simpa using ha
      have hb' : n0 ≤ b := by rw [blt_dec] at hbn; simpa using hbn
      split at h
      · rename_i c hc
        cases hcb : Nat.beq c b with
        | false => rw [hcb] at h; cases h
        | true =>
          rw [hcb] at h; cases h
          have := Nat.eq_of_beq_eq_true hcb
          subst this
          exact ⟨Stp.refl _ _, fun φ1 φ2 e hr he => hr.new a c (lookL_some hc) e he⟩
      · rename_i hc
        cases hh : hasR s.al b with
        | true => rw [hh] at h; cases h
        | false =>
          rw [hh] at h; cases h
          refine ⟨⟨fun p hp => List.mem_cons_of_mem _ hp, fun hi => ⟨?_, ?_, ?_⟩, fun p hp => ?_, fun p hp => List.mem_cons_of_mem _ hp⟩, fun φ1 φ2 e hr he => hr.new a b (by simp) e he⟩
          · intro x y z h1 h2
            rcases List.mem_cons.1 h1 with h1 | h1 <;> rcases List.mem_cons.1 h2 with h2 | h2
            · cases h1; cases h2; rfl
            · cases h1; exact absurd h2 (lookL_none hc z)
            · cases h2; exact absurd h1 (lookL_none hc y)
            · exact hi.fn x y z h1 h2
          · intro x y z h1 h2
            rcases List.mem_cons.1 h1 with h1 | h1 <;> rcases List.mem_cons.1 h2 with h2 | h2
            · cases h1; cases h2; rfl
            · cases h1; exact absurd h2 (hasR_false hh y)
            · cases h2; exact absurd h1 (hasR_false hh x)
            · exact hi.inj x y z h1 h2
          · intro x y h1
            rcases List.mem_cons.1 h1 with h1 | h1
            · cases h1; exact ⟨ha', hb'⟩
            · exact hi.new x y h1
          · rcases List.mem_cons.1 hp with h1 | h1
            · exact .inr (by rw [h1]; simp)
            · exact .inl h1
theorem mOId_run {s s' : Sg} {a b : Option Nat} (h : mOId n0 s a b = some s') : Stp n0 s s' ∧ ((a = none ∧ b = none) ∨ ∃ x y, a = some x ∧ b = some y ∧ ∀ φ1 φ2 e, Ren n0 s'.al φ1 φ2 → φ2[y]? = some e → φ1[x]? = some e) := by
  unfold mOId at h
  split at h
  · cases h; exact ⟨Stp.refl _ _, .inl ⟨rfl, rfl⟩⟩
  · have := mId_run h; exact ⟨this.1, .inr ⟨_, _, rfl, rfl, this.2⟩⟩
  · cases h

theorem capOk_of {e : Emb} {off cap : Nat} {c d : Cap} (hb : beqCap c d = true) (h : CapOk e off cap d) : CapOk e off cap c := by rw [beqCap_eq hb]; exact h

def VR (n0 : Nat) (al : List (Nat × Nat)) (a b : AV) : Prop := ∀ φ1 φ2 u, Ren n0 al φ1 φ2 → V φ2 b u → V φ1 a u
def VsR (n0 : Nat) (al : List (Nat × Nat)) (a b : List AV) : Prop := ∀ φ1 φ2 us, Ren n0 al φ1 φ2 → Vs φ2 b us → Vs φ1 a us
theorem VR.mono {al al' : List (Nat × Nat)} {a b : AV} (h : VR n0 al a b) (hs : ∀ p ∈ al, p ∈ al') : VR n0 al' a b := fun φ1 φ2 u hr hv => h φ1 φ2 u (hr.mono hs) hv
theorem VsR.mono {al al' : List (Nat × Nat)} {a b : List AV} (h : VsR n0 al a b) (hs : ∀ p ∈ al, p ∈ al') : VsR n0 al' a b := fun φ1 φ2 u hr hv => h φ1 φ2 u (hr.mono hs) hv

mutual
theorem mV_run : ∀ (a b : AV) (s s' : Sg), mV n0 a b s = some s' → Stp n0 s s' ∧ VR n0 s'.al a b
  | a, b, s, s', h => by
    cases a with
    | unk => cases b <;> simp only [mV] at h <;> first | (cases h; done) | (cases h; exact ⟨Stp.refl _ _, fun _ _ _ _ hv => by simp [V]⟩)
    | bool x =>
      cases b <;> simp only [mV] at h <;> first | (cases h; done) | skip
      rename_i y
      cases hb : x == y with
      | false => rw [hb] at h; cases h
      | true =>
        rw [hb] at h; cases h
        have : x = y := by simpa using hb
        subst this
        exact ⟨Stp.refl _ _, fun _ _ _ _ hv => by simpa [V] using hv⟩
    | int k x =>
      cases b <;> simp only [mV] at h <;> first | (cases h; done) | skip
      rename_i k' y
      cases hb : decide (k = k') && decide (x = y) with
      | false => rw [hb] at h; cases h
      | true =>
        rw [hb] at h; cases h
        simp at hb
        obtain ⟨rfl, rfl⟩ := hb
        exact ⟨Stp.refl _ _, fun _ _ _ _ hv => by simpa [V] using hv⟩
    | str x =>
      cases b <;> simp only [mV] at h <;> first | (cases h; done) | skip
      rename_i y
      cases hb : decide (x = y) with
      | false => rw [hb] at h; cases h
      | true =>
        rw [hb] at h; cases h
        simp at hb
        subst hb
        exact ⟨Stp.refl _ _, fun _ _ _ _ hv => by simpa [V] using hv⟩
    | nilFunc => cases b <;> simp only [mV] at h <;> first | (cases h; done) | (cases h; exact ⟨Stp.refl _ _, fun _ _ _ _ hv => by simpa [V] using hv⟩)
    | nilIface => cases b <;> simp only [mV] at h <;> first | (cases h; done) | (cases h; exact ⟨Stp.refl _ _, fun _ _ _ _ hv => by simpa [V] using hv⟩)
    | ptr l =>
      cases b with
      | ptr m =>
        cases l <;> cases m <;> simp only [mV] at h <;> first | (cases h; done) | skip
        · cases h; exact ⟨Stp.refl _ _, fun _ _ _ _ hv => by simpa [V] using hv⟩
        · rename_i x y
          cases hb : Nat.beq x.off y.off with
          | false => rw [hb] at h; cases h
          | true =>
            rw [hb, cond_true] at h
            have ho := Nat.eq_of_beq_eq_true hb
            obtain ⟨h1, h2⟩ := mId_run h
            refine ⟨h1, fun φ1 φ2 u hr hv => ?_⟩
            simp only [V] at hv ⊢
            obtain ⟨e, he, hu⟩ := hv
            exact ⟨e, h2 φ1 φ2 e hr he, by rw [ho]; exact hu⟩
      | _ => cases l <;> simp [mV] at h
    | slice l n c =>
      cases b with
      | slice m n' c' =>
        cases l <;> cases m <;> simp only [mV] at h <;> first | (cases h; done) | skip
        · cases hb : Nat.beq n n' && beqCap c c' with
          | false => rw [hb] at h; cases h
          | true =>
            rw [hb] at h; cases h
            rw [Bool.and_eq_true] at hb
            have hn := Nat.eq_of_beq_eq_true hb.1
            have hc := beqCap_eq hb.2
            subst hn hc
            refine ⟨Stp.refl _ _, fun φ1 φ2 u hr hv => ?_⟩
            cases c <;> simp only [V] at hv ⊢ <;> exact hv
        · rename_i x y
          cases hb : Nat.beq x.off y.off && Nat.beq n n' && beqCap c c' with
          | false => rw [hb] at h; cases h
          | true =>
            rw [hb, cond_true] at h
            rw [Bool.and_eq_true, Bool.and_eq_true] at hb
            have ho := Nat.eq_of_beq_eq_true hb.1.1
            have hn := Nat.eq_of_beq_eq_true hb.1.2
            have hc := beqCap_eq hb.2
            subst hn hc
            obtain ⟨h1, h2⟩ := mId_run h
            refine ⟨h1, fun φ1 φ2 u hr hv => ?_⟩
            simp only [V] at hv ⊢
            obtain ⟨e, cap, a, he, hu⟩ := hv
            exact ⟨e, cap, a, h2 φ1 φ2 e hr he, by rw [ho]; exact hu⟩
      | _ => cases l <;> simp [mV] at h
    | map l =>
      cases b with
      | map m =>
        simp only [mV] at h
        obtain ⟨h1, h2⟩ := mOId_run h
        refine ⟨h1, fun φ1 φ2 u hr hv => ?_⟩
        rcases h2 with ⟨rfl, rfl⟩ | ⟨x, y, rfl, rfl, h2⟩
        · simpa [V] using hv
        · simp only [V] at hv ⊢
          obtain ⟨e, he, hu⟩ := hv
          exact ⟨e, h2 φ1 φ2 e hr he, hu⟩
      | _ => simp [mV] at h
    | chan l =>
      cases b with
      | chan m =>
        simp only [mV] at h
        obtain ⟨h1, h2⟩ := mOId_run h
        refine ⟨h1, fun φ1 φ2 u hr hv => ?_⟩
        rcases h2 with ⟨rfl, rfl⟩ | ⟨x, y, rfl, rfl, h2⟩
        · simpa [V] using hv
        · simp only [V] at hv ⊢
          obtain ⟨e, he, hu⟩ := hv
          exact ⟨e, h2 φ1 φ2 e hr he, hu⟩
      | _ => simp [mV] at h
    | func f x y =>
      cases b with
      | func g x' y' =>
        simp only [mV] at h
        cases hb : decide (f = g) with
        | false => rw [hb] at h; cases h
        | true =>
          rw [hb, cond_true] at h
          have hfg : f = g := of_decide_eq_true hb
          subst hfg
          split at h
          · rename_i s1 hs1
            obtain ⟨h1, h2⟩ := mVs_run x x' s s1 hs1
            obtain ⟨h3, h4⟩ := mVs_run y y' s1 s' h
            refine ⟨h1.trans h3, fun φ1 φ2 u hr hv => ?_⟩
            simp only [V] at hv ⊢
            obtain ⟨p, q, hu, hp, hq⟩ := hv
            exact ⟨p, q, hu, h2 φ1 φ2 _ (hr.mono h3.al) hp, h4 φ1 φ2 _ hr hq⟩
          · cases h
      | _ => simp [mV] at h
    | iface t x =>
      cases b with
      | iface t' y =>
        simp only [mV] at h
        cases hb : Nat.beq t t' with
        | false => rw [hb] at h; cases h
        | true =>
          rw [hb, cond_true] at h
          have := Nat.eq_of_beq_eq_true hb
          subst this
          obtain ⟨h1, h2⟩ := mV_run x y s s' h
          refine ⟨h1, fun φ1 φ2 u hr hv => ?_⟩
          simp only [V] at hv ⊢
          obtain ⟨p, hu, hp⟩ := hv
          exact ⟨p, hu, h2 φ1 φ2 _ hr hp⟩
      | _ => simp [mV] at h
    | agg x =>
      cases b with
      | agg y =>
        simp only [mV] at h
        obtain ⟨h1, h2⟩ := mVs_run x y s s' h
        refine ⟨h1, fun φ1 φ2 u hr hv => ?_⟩
        simp only [V] at hv ⊢
        obtain ⟨p, hu, hp⟩ := hv
        exact ⟨p, hu, h2 φ1 φ2 _ hr hp⟩
      | _ => simp [mV] at h
    | tuple x =>
      cases b with
      | tuple y =>
        simp only [mV] at h
        obtain ⟨h1, h2⟩ := mVs_run x y s s' h
        refine ⟨h1, fun φ1 φ2 u hr hv => ?_⟩
        simp only [V] at hv ⊢
        obtain ⟨p, hu, hp⟩ := hv
        exact ⟨p, hu, h2 φ1 φ2 _ hr hp⟩
      | _ => simp [mV] at h
    | yield k =>
      cases b with
      | yield m =>
        simp only [mV] at h
        obtain ⟨h1, h2⟩ := mId_run h
        refine ⟨h1, fun φ1 φ2 u hr hv => ?_⟩
        simp only [V] at hv ⊢
        obtain ⟨e, he, hu⟩ := hv
        exact ⟨e, h2 φ1 φ2 e hr he, hu⟩
      | _ => simp [mV] at h
theorem mVs_run : ∀ (a b : List AV) (s s' : Sg), mVs n0 a b s = some s' → Stp n0 s s' ∧ VsR n0 s'.al a b
  | [], [], s, s', h => by
    simp only [mVs] at h; cases h
    exact ⟨Stp.refl _ _, fun _ _ _ _ hv => by simpa [Vs] using hv⟩
  | [], _ :: _, s, s', h => by simp [mVs] at h
  | _ :: _, [], s, s', h => by simp [mVs] at h
  | a :: as, b :: bs, s, s', h => by
    simp only [mVs] at h
    split at h
    · rename_i s1 hs1
      obtain ⟨h1, h2⟩ := mV_run a b s s1 hs1
      obtain ⟨h3, h4⟩ := mVs_run as bs s1 s' h
      refine ⟨h1.trans h3, fun φ1 φ2 us hr hv => ?_⟩
      simp only [Vs] at hv ⊢
      obtain ⟨y, ys, hu, hp, hq⟩ := hv
      exact ⟨y, ys, hu, h2 φ1 φ2 _ (hr.mono h3.al) hp, h4 φ1 φ2 _ hr hq⟩
    · cases h
end
theorem mVs_length : ∀ {a b : List AV} {s s' : Sg}, mVs n0 a b s = some s' → a.length = b.length
  | [], [], s, s', h => rfl
  | [], _ :: _, s, s', h => by simp [mVs] at h
  | _ :: _, [], s, s', h => by simp [mVs] at h
  | a :: as, b :: bs, s, s', h => by
    simp only [mVs] at h
    split at h
    · rename_i s1 hs1
      simp [mVs_length h]
    · cases h
theorem mEs_run : ∀ (a b : List EN) (s s' : Sg), mEs n0 a b s = some s' → Stp n0 s s' ∧ ∀ φ1 φ2 us, Ren n0 s'.al φ1 φ2 → Entries φ2 b us → Entries φ1 a us
  | [], [], s, s', h => by
    simp only [mEs] at h; cases h
    exact ⟨Stp.refl _ _, fun _ _ _ _ hv => by simpa [Entries] using hv⟩
  | [], _ :: _, s, s', h => by simp [mEs] at h
  | _ :: _, [], s, s', h => by simp [mEs] at h
  | (k, v, b) :: as, (k', v', b') :: bs, s, s', h => by
    simp only [mEs] at h
    cases hb : Nat.beq b b' with
    | false => rw [hb] at h; cases h
    | true =>
      rw [hb, cond_true] at h
      have := Nat.eq_of_beq_eq_true hb
      subst this
      split at h
      · rename_i s1 hs1
        split at h
        · rename_i s2 hs2
          obtain ⟨h1, h2⟩ := mV_run k k' s s1 hs1
          obtain ⟨h3, h4⟩ := mV_run v v' s1 s2 hs2
          obtain ⟨h5, h6⟩ := mEs_run as bs s2 s' h
          refine ⟨(h1.trans h3).trans h5, fun φ1 φ2 us hr hv => ?_⟩
          simp only [Entries, entryOf] at hv ⊢
          obtain ⟨y, ys, hu, ⟨hk, hv, hbn⟩, hq⟩ := hv
          exact ⟨y, ys, hu, ⟨h2 φ1 φ2 _ (hr.mono (fun p hp => h5.al p (h3.al p hp))) hk, h4 φ1 φ2 _ (hr.mono h5.al) hv, hbn⟩, h6 φ1 φ2 _ hr hq⟩
        · cases h
      · cases h

/-- Two lists, pair by pair. -/
def Z2 {α β : Type} (r : α → β → Prop) : List α → List β → Prop
  | [], [] => True
  | a :: as, b :: bs => r a b ∧ Z2 r as bs
  | _, _ => False
theorem Z2.perm {α β : Type} {r : α → β → Prop} {l m : List β} (hp : l.Perm m) : ∀ {a : List α}, Z2 r a m → ∃ d, Z2 r d l ∧ d.Perm a := by
  induction hp with
  | nil => intro a h; exact ⟨a, h, .refl _⟩
  | cons x _ ih =>
    intro a h
    match a, h with
    | [], h => exact h.elim
    | y :: a, h =>
      obtain ⟨d, h1, h2⟩ := ih h.2
      exact ⟨y :: d, ⟨h.1, h1⟩, .cons _ h2⟩
  | swap x y l =>
    intro a h
    match a, h with
    | [], h => exact h.elim
    | [_], h => exact h.2.elim
    | p :: q :: a, h => exact ⟨q :: p :: a, ⟨h.2.1, h.1, h.2.2⟩, .swap _ _ _⟩
  | trans _ _ ih1 ih2 =>
    intro a h
    obtain ⟨d2, h1, h2⟩ := ih2 h
    obtain ⟨d1, h3, h4⟩ := ih1 h1
    exact ⟨d1, h3, h4.trans h2⟩
theorem mBs_run : ∀ (a b : List (AV × AV)) (s s' : Sg), mBs n0 a b s = some s' → Stp n0 s s' ∧ Z2 (fun p q => VR n0 s'.al p.1 q.1 ∧ VR n0 s'.al p.2 q.2) a b
  | [], [], s, s', h => by simp only [mBs] at h; cases h; exact ⟨Stp.refl _ _, trivial⟩
  | [], _ :: _, s, s', h => by simp [mBs] at h
  | _ :: _, [], s, s', h => by simp [mBs] at h
  | (k, v) :: as, (k', v') :: bs, s, s', h => by
    simp only [mBs] at h
    split at h
    · rename_i s1 hs1
      split at h
      · rename_i s2 hs2
        obtain ⟨h1, h2⟩ := mV_run k k' s s1 hs1
        obtain ⟨h3, h4⟩ := mV_run v v' s1 s2 hs2
        obtain ⟨h5, h6⟩ := mBs_run as bs s2 s' h
        exact ⟨(h1.trans h3).trans h5, ⟨h2.mono (fun p hp => h5.al p (h3.al p hp)), h4.mono h5.al⟩, h6⟩
      · cases h
    · cases h
theorem bag_entries {al : List (Nat × Nat)} {φ1 φ2 : List Emb} (hr : Ren n0 al φ1 φ2) : ∀ {d : List (AV × AV)} {es : List EN} {us : List MapEntry}, Z2 (fun p q => VR n0 al p.1 q.1 ∧ VR n0 al p.2 q.2) d (es.map fun x => (x.1, x.2.1)) → Entries φ2 es us →
    ∃ es', (es'.map fun x => (x.1, x.2.1)) = d ∧ (es'.map fun x => x.2.2) = (es.map fun x => x.2.2) ∧ Entries φ1 es' us
  | [], [], us, _, he => ⟨[], rfl, rfl, by simpa [Entries] using he⟩
  | [], _ :: _, _, h, _ => h.elim
  | _ :: _, [], _, h, _ => h.elim
  | (k, v) :: d, x :: es, us, h, he => by
    simp only [Entries, entryOf] at he
    obtain ⟨y, ys, rfl, ⟨g1, g2, g3⟩, g4⟩ := he
    obtain ⟨⟨h1, h2⟩, h3⟩ := h
    obtain ⟨es', h4, hb, h5⟩ := bag_entries hr h3 g4
    refine ⟨(k, v, x.2.2) :: es', by rw [List.map_cons, h4], by rw [List.map_cons, List.map_cons, hb], ?_⟩
    simp only [Entries, entryOf]
    exact ⟨y, ys, rfl, ⟨h1 φ1 φ2 _ hr g1, h2 φ1 φ2 _ hr g2, g3⟩, h5⟩

/-- The one object stands wherever the other does. -/
def ORr (n0 : Nat) (al : List (Nat × Nat)) : Option Obj → Option Obj → Prop
  | none, none => True
  | some x, some y => x.isOwn = y.isOwn ∧ ∀ φ1 φ2 e w, Ren n0 al φ1 φ2 → O φ2 e w y → O φ1 e w x
  | _, _ => False
theorem ORr.mono {al al' : List (Nat × Nat)} (hs : ∀ p ∈ al, p ∈ al') : ∀ {a b : Option Obj}, ORr n0 al a b → ORr n0 al' a b
  | none, none, _ => trivial
  | some _, some _, h => ⟨h.1, fun φ1 φ2 e w hr ho => h.2 φ1 φ2 e w (hr.mono hs) ho⟩
  | none, some _, h => h.elim
  | some _, none, h => h.elim
theorem mO_run {a b : Option Obj} {s s' : Sg} (h : mO n0 a b s = some s') : Stp n0 s s' ∧ ORr n0 s'.al a b := by
  unfold mO at h
  split at h
  · cases h; exact ⟨Stp.refl _ _, trivial⟩
  · rename_i cs k ds k'
    cases hb : decide (k = k') with
    | false => rw [hb] at h; cases h
    | true =>
      rw [hb, cond_true] at h
      have hk : k = k' := of_decide_eq_true hb
      subst hk
      have hl := mVs_length h
      obtain ⟨h1, h2⟩ := mVs_run cs ds s s' h
      refine ⟨h1, by cases k <;> rfl, fun φ1 φ2 e w hr ho => ?_⟩
      obtain ⟨C, t, fr, g1, g2, g3, g4, g5, g6⟩ := ho
      refine ⟨C, t, fr, g1, g2, by omega, by rw [hl]; exact g4, g5, ?_⟩
      rw [hl]
      exact h2 φ1 φ2 _ hr g6
  · rename_i es c es' c'
    cases hb : Nat.beq c c' with
    | false => rw [hb] at h; cases h
    | true =>
      rw [hb, cond_true] at h
      have := Nat.eq_of_beq_eq_true hb
      subst this
      obtain ⟨h1, h2⟩ := mEs_run es es' s s' h
      refine ⟨h1, rfl, fun φ1 φ2 e w hr ho => ?_⟩
      obtain ⟨ES, g1, g2⟩ := ho
      exact ⟨ES, g1, h2 φ1 φ2 _ hr g2⟩
  · rename_i es c es' c'
    cases hb : Nat.beq c c' with
    | false => rw [hb] at h; cases h
    | true =>
      rw [hb, cond_true] at h
      have := Nat.eq_of_beq_eq_true hb
      subst this
      obtain ⟨h1, h2⟩ := mBs_run es es' s s' h
      refine ⟨h1, rfl, fun φ1 φ2 e w hr ho => ?_⟩
      obtain ⟨ES, es2, g1, g2, g3, gb⟩ := ho
      obtain ⟨d, h3, h4⟩ := h2.perm g3
      obtain ⟨es1, h5, hb, h6⟩ := bag_entries hr h3 g2
      exact ⟨ES, es1, g1, h6, by rw [h5]; exact h4, by rw [births_iff] at gb ⊢; rw [hb]; exact gb⟩
  · rename_i c b x c' b' x'
    cases hb : Nat.beq c c' && (x == x') with
    | false => rw [hb] at h; cases h
    | true =>
      rw [hb, cond_true] at h
      rw [Bool.and_eq_true] at hb
      have hc := Nat.eq_of_beq_eq_true hb.1
      have hx : x = x' := by simpa using hb.2
      subst hc hx
      obtain ⟨h1, h2⟩ := mVs_run b b' s s' h
      refine ⟨h1, rfl, fun φ1 φ2 e w hr ho => ?_⟩
      obtain ⟨B, p, r, g1, g2⟩ := ho
      exact ⟨B, p, r, g1, h2 φ1 φ2 _ hr g2⟩
  · rename_i m a b k c m' a' b' k' c'
    cases hb : Nat.beq a a' && decide (b = b') && Nat.beq c c' && (k.isNone || decide (k = k')) with
    | false => rw [hb] at h; cases h
    | true =>
      rw [hb, cond_true] at h
      rw [Bool.and_eq_true, Bool.and_eq_true, Bool.and_eq_true] at hb
      have ha := Nat.eq_of_beq_eq_true hb.1.1.1
      have hbb : b = b' := of_decide_eq_true hb.1.1.2
      have hc := Nat.eq_of_beq_eq_true hb.1.2
      have hk : ∀ x, k = some x → k' = some x := by
        intro x hx
        have h3 := hb.2
        rw [hx] at h3
        simp at h3
        exact h3.symm
      subst ha hbb hc
      obtain ⟨h1, h2⟩ := mOId_run h
      refine ⟨h1, rfl, fun φ1 φ2 e w hr ho => ?_⟩
      obtain ⟨q, S, g0, g1, gS, gk, g2⟩ := ho
      refine ⟨q, S, g0, g1, gS, fun x hx => gk x (hk x hx), ?_⟩
      rcases h2 with ⟨rfl, rfl⟩ | ⟨x, y, rfl, rfl, h2⟩
      · exact g2
      · obtain ⟨em, g3, g4⟩ := g2
        exact ⟨em, h2 φ1 φ2 em hr g3, g4⟩
  · rename_i a b a' b'
    cases hb : decide (a = a') && Nat.beq b b' with
    | false => rw [hb] at h; cases h
    | true =>
      rw [hb] at h; cases h
      rw [Bool.and_eq_true] at hb
      have ha : a = a' := of_decide_eq_true hb.1
      have hc := Nat.eq_of_beq_eq_true hb.2
      subst ha hc
      exact ⟨Stp.refl _ _, rfl, fun φ1 φ2 e w hr ho => ho⟩
  · cases h; exact ⟨Stp.refl _ _, rfl, fun φ1 φ2 e w hr ho => ho⟩
  · cases h

theorem mGo_run {h1 h2 : Heap} : ∀ (f : Nat) (s s' : Sg), mGo n0 h1 h2 f s = some s' → (∀ p ∈ s.al, p ∈ s'.al) ∧ (Inv n0 s → Inv n0 s') ∧ ∀ p ∈ s'.al, (p ∈ s.al ∧ p ∉ s.todo) ∨ ORr n0 s'.al (h1.get p.1) (h2.get p.2)
  | 0, s, s', h => by simp [mGo] at h
  | f + 1, s, s', h => by
    simp only [mGo] at h
    split at h
    · rename_i ht
      cases h
      exact ⟨fun _ hp => hp, id, fun p hp => .inl ⟨hp, by rw [ht]; simp⟩⟩
    · rename_i a b t ht
      split at h
      · rename_i s1 hs1
        obtain ⟨g1, g2⟩ := mO_run hs1
        obtain ⟨g3, g4, g5⟩ := mGo_run f s1 s' h
        refine ⟨fun p hp => g3 p (g1.al p hp), fun hi => g4 (g1.inv ⟨hi.fn, hi.inj, hi.new⟩), fun p hp => ?_⟩
        rcases g5 p hp with ⟨h3, h4⟩ | h3
        · rcases g1.td p h3 with h5 | h5
          · by_cases hpe : p = (a, b)
            · subst hpe; exact .inr (g2.mono g3)
            · refine .inl ⟨h5, ?_⟩
              rw [ht]
              intro hm
              rcases List.mem_cons.1 hm with h6 | h6
              · exact hpe h6
              · exact h4 (g1.tdm p h6)
          · exact absurd h5 h4
        · exact .inr h3
      · cases h
theorem sameLS_run : ∀ {st : LoopState} {p : Option Code} {st' : LoopState} {p' : Option Code}, sameLS st p st' p' = true → st = st' ∧ p = p' := by
  intro st p st' p' h
  unfold sameLS at h
  split at h
  all_goals first
    | exact ⟨rfl, rfl⟩
    | (rw [Nat.eq_of_beq_eq_true h]; exact ⟨rfl, rfl⟩)
    | cases h
/-- Two records of ranges over functions, in the same state. -/
def LRr (a b : Option Obj) : Prop := ∃ st p n e ps x y d n' e' ps' x' y' d', a = some (.loop st p n e ps x y d) ∧ b = some (.loop st p n' e' ps' x' y' d')
theorem mOO_run {a b : Option Obj} {s s' : Sg} (h : mOO n0 a b s = some s') : Stp n0 s s' ∧ (ORr n0 s'.al a b ∨ LRr a b) := by
  unfold mOO at h
  split at h
  · rename_i hls hls2
    cases hb : sameLS _ _ _ _ with
    | false => rw [hb] at h; cases h
    | true =>
      rw [hb] at h; cases h
      obtain ⟨rfl, rfl⟩ := sameLS_run hb
      exact ⟨Stp.refl _ _, .inr ⟨_, _, _, _, _, _, _, _, _, _, _, _, _, _, rfl, rfl⟩⟩
  · have := mO_run h
    exact ⟨this.1, .inl this.2⟩
theorem mOld_run {h1 h2 : Heap} : ∀ (l : List Nat) (s s' : Sg), mOld n0 h1 h2 l s = some s' → Stp n0 s s' ∧ ∀ i ∈ l, i < n0 → ORr n0 s'.al (h1.get i) (h2.get i) ∨ LRr (h1.get i) (h2.get i)
  | [], s, s', h => by simp only [mOld] at h; cases h; exact ⟨Stp.refl _ _, by simp⟩
  | i :: is, s, s', h => by
    simp only [mOld] at h
    cases hb : Nat.blt i n0 with
    | true =>
      rw [hb, cond_true] at h
      split at h
      · rename_i s1 hs1
        obtain ⟨g1, g2⟩ := mOO_run hs1
        obtain ⟨g3, g4⟩ := mOld_run is s1 s' h
        refine ⟨g1.trans g3, fun j hj hlt => ?_⟩
        rcases List.mem_cons.1 hj with rfl | hj
        · exact g2.imp (fun g => g.mono g3.al) id
        · exact g4 j hj hlt
      · cases h
    | false =>
      rw [hb, cond_false] at h
      obtain ⟨g3, g4⟩ := mOld_run is s s' h
      refine ⟨g3, fun j hj hlt => ?_⟩
      rcases List.mem_cons.1 hj with rfl | hj
      · rw [(blt_iff _ _).2 hlt] at hb; cases hb
      · exact g4 j hj hlt
theorem belowL_all {n : Nat} : ∀ {l : List (Nat × Nat)}, belowL n l = true → ∀ p ∈ l, p.1 < n
  | [], _, p, hp => by cases hp
  | q :: l, h, p, hp => by
    change (Bool.rec false (belowL n l) (Nat.blt q.1 n) : Bool) = true at h
    cases hb : Nat.blt q.1 n with
    | false => rw [hb] at h; cases h
    | true =>
      rw [hb] at h
      rcases List.mem_cons.1 hp with rfl | hp
      · exact (blt_iff _ _).1 hb
      · exact belowL_all h p hp

structure Mrgd (n0 : Nat) (al : List (Nat × Nat)) (vs1 : List AV) (h1 : Heap) (vs2 : List AV) (h2 : Heap) : Prop where
  fn : ∀ a b c, (a, b) ∈ al → (a, c) ∈ al → b = c
  inj : ∀ a b c, (a, c) ∈ al → (b, c) ∈ al → a = b
  new : ∀ a b, (a, b) ∈ al → n0 ≤ a ∧ n0 ≤ b
  lt : ∀ a b, (a, b) ∈ al → a < h1.next
  vals : VsR n0 al vs1 vs2
  obj : ∀ a b, (a, b) ∈ al → ORr n0 al (h1.get a) (h2.get b)
  old : ∀ i, i < n0 → (i ∈ h1.log ∨ i ∈ h2.log) → ORr n0 al (h1.get i) (h2.get i) ∨ LRr (h1.get i) (h2.get i)
theorem mrg_run {vs1 vs2 : List AV} {h1 h2 : Heap} {s : Sg} (h : mrg n0 vs1 h1 vs2 h2 = some s) : Mrgd n0 s.al vs1 h1 vs2 h2 := by
  unfold mrg at h
  split at h
  · rename_i s1 hs1
    split at h
    · rename_i s2 hs2
      split at h
      · rename_i s3 hs3
        split at h
        · rename_i s4 hs4
          cases hb : belowL h1.next s4.al with
          | false => rw [hb] at h; cases h
          | true =>
            rw [hb] at h; cases h
            obtain ⟨a1, a2⟩ := mVs_run _ _ _ _ hs1
            obtain ⟨b1, b2⟩ := mOld_run _ _ _ hs2
            obtain ⟨c1, c2⟩ := mOld_run _ _ _ hs3
            obtain ⟨d1, d2, d3⟩ := mGo_run _ _ _ hs4
            have st := (a1.trans b1).trans c1
            have hi : Inv n0 ⟨[], []⟩ := by
              constructor
              · intro _ _ _ h; cases h
              · intro _ _ _ h; cases h
              · intro _ _ h; cases h
            have hi4 := d2 (st.inv hi)
            refine ⟨hi4.fn, hi4.inj, hi4.new, fun a b hm => belowL_all hb _ hm, a2.mono (fun p hp => d1 p (c1.al p (b1.al p hp))), fun a b hm => ?_, fun i hlt hl => ?_⟩
            · rcases d3 _ hm with ⟨h5, h6⟩ | h5
              · rcases st.td _ h5 with h7 | h7
                · cases h7
                · exact absurd h7 h6
              · exact h5
            · rcases hl with hl | hl
              · exact (b2 i hl hlt).imp (fun g => g.mono (fun p hp => d1 p (c1.al p hp))) id
              · exact (c2 i hl hlt).imp (fun g => g.mono d1) id
        · cases h
      · cases h
    · cases h
  · cases h
end

/-! ### What is known of old things stays, wherever the new ones lie -/

mutual
theorem V.trans {φ φ1 φ2 : List Emb} (h : ∀ i, i < φ.length → ∀ e, φ2[i]? = some e → φ1[i]? = some e) : ∀ (a : AV) (u v : Value), V φ a u → V φ2 a v → V φ1 a v
  | .unk, _, _, _, _ => by simp [V]
  | .bool _, _, _, _, hv => by simpa [V] using hv
  | .int _ _, _, _, _, hv => by simpa [V] using hv
  | .str _, _, _, _, hv => by simpa [V] using hv
  | .ptr none, _, _, _, hv => by simpa [V] using hv
  | .ptr (some l), _, _, hu, hv => by
    simp only [V] at hu hv ⊢
    obtain ⟨e0, he0, _⟩ := hu
    obtain ⟨e, he, hv⟩ := hv
    exact ⟨e, h _ (List.getElem?_eq_some_iff.1 he0).1 e he, hv⟩
  | .slice none _ c, _, _, _, hv => by cases c <;> simp [V] at hv ⊢ <;> exact hv
  | .slice (some l) n c, _, _, hu, hv => by
    simp only [V] at hu hv ⊢
    obtain ⟨e0, _, _, he0, _⟩ := hu
    obtain ⟨e, cap, a, he, hv⟩ := hv
    exact ⟨e, cap, a, h _ (List.getElem?_eq_some_iff.1 he0).1 e he, hv⟩
  | .map none, _, _, _, hv => by simpa [V] using hv
  | .map (some i), _, _, hu, hv => by
    simp only [V] at hu hv ⊢
    obtain ⟨e0, he0, _⟩ := hu
    obtain ⟨e, he, hv⟩ := hv
    exact ⟨e, h _ (List.getElem?_eq_some_iff.1 he0).1 e he, hv⟩
  | .chan none, _, _, _, hv => by simpa [V] using hv
  | .chan (some i), _, _, hu, hv => by
    simp only [V] at hu hv ⊢
    obtain ⟨e0, he0, _⟩ := hu
    obtain ⟨e, he, hv⟩ := hv
    exact ⟨e, h _ (List.getElem?_eq_some_iff.1 he0).1 e he, hv⟩
  | .func fn a b, _, _, hu, hv => by
    simp only [V] at hu hv ⊢
    obtain ⟨x0, y0, _, ha0, hb0⟩ := hu
    obtain ⟨x, y, he, ha, hb⟩ := hv
    exact ⟨x, y, he, Vs.trans h a _ _ ha0 ha, Vs.trans h b _ _ hb0 hb⟩
  | .nilFunc, _, _, _, hv => by simpa [V] using hv
  | .iface t x, _, _, hu, hv => by
    simp only [V] at hu hv ⊢
    obtain ⟨y0, _, hu⟩ := hu
    obtain ⟨y, he, hv⟩ := hv
    exact ⟨y, he, V.trans h x _ _ hu hv⟩
  | .nilIface, _, _, _, hv => by simpa [V] using hv
  | .agg cs, _, _, hu, hv => by
    simp only [V] at hu hv ⊢
    obtain ⟨x0, _, hu⟩ := hu
    obtain ⟨x, he, hv⟩ := hv
    exact ⟨x, he, Vs.trans h cs _ _ hu hv⟩
  | .tuple cs, _, _, hu, hv => by
    simp only [V] at hu hv ⊢
    obtain ⟨x0, _, hu⟩ := hu
    obtain ⟨x, he, hv⟩ := hv
    exact ⟨x, he, Vs.trans h cs _ _ hu hv⟩
  | .yield k, _, _, hu, hv => by
    simp only [V] at hu hv ⊢
    obtain ⟨e0, he0, _⟩ := hu
    obtain ⟨e, he, hv⟩ := hv
    exact ⟨e, h _ (List.getElem?_eq_some_iff.1 he0).1 e he, hv⟩
theorem Vs.trans {φ φ1 φ2 : List Emb} (h : ∀ i, i < φ.length → ∀ e, φ2[i]? = some e → φ1[i]? = some e) : ∀ (as : List AV) (us vs : List Value), Vs φ as us → Vs φ2 as vs → Vs φ1 as vs
  | [], _, _, _, hv => by simpa [Vs] using hv
  | a :: as, _, _, hu, hv => by
    simp only [Vs] at hu hv ⊢
    obtain ⟨y0, ys0, _, g1, g2⟩ := hu
    obtain ⟨y, ys, he, h1, h2⟩ := hv
    exact ⟨y, ys, he, V.trans h a _ _ g1 h1, Vs.trans h as _ _ g2 h2⟩
end
theorem Entries.trans {φ φ1 φ2 : List Emb} (h : ∀ i, i < φ.length → ∀ e, φ2[i]? = some e → φ1[i]? = some e) : ∀ (as : List EN) (us vs : List MapEntry), Entries φ as us → Entries φ2 as vs → Entries φ1 as vs
  | [], _, _, _, hv => by simpa [Entries] using hv
  | a :: as, _, _, hu, hv => by
    simp only [Entries, entryOf] at hu hv ⊢
    obtain ⟨y0, ys0, _, ⟨g1, g2, _⟩, g4⟩ := hu
    obtain ⟨y, ys, he, ⟨h1, h2, h3⟩, h4⟩ := hv
    exact ⟨y, ys, he, ⟨V.trans h _ _ _ g1 h1, V.trans h _ _ _ g2 h2, h3⟩, Entries.trans h as _ _ g4 h4⟩
theorem Entries.memV {φ : List Emb} : ∀ {as : List EN} {us : List MapEntry}, Entries φ as us → ∀ x ∈ as, (∃ u, V φ x.1 u) ∧ ∃ u, V φ x.2.1 u
  | [], _, _, x, hx => by cases hx
  | a :: as, _, he, x, hx => by
    simp only [Entries, entryOf] at he
    obtain ⟨y, ys, _, ⟨g1, g2, _⟩, g4⟩ := he
    rcases List.mem_cons.1 hx with rfl | hx
    · exact ⟨⟨_, g1⟩, _, g2⟩
    · exact Entries.memV g4 x hx
theorem Entries.transM {φ φ1 φ2 : List Emb} (h : ∀ i, i < φ.length → ∀ e, φ2[i]? = some e → φ1[i]? = some e) : ∀ (as : List EN) (vs : List MapEntry), (∀ x ∈ as, (∃ u, V φ x.1 u) ∧ ∃ u, V φ x.2.1 u) → Entries φ2 as vs → Entries φ1 as vs
  | [], _, _, hv => by simpa [Entries] using hv
  | a :: as, _, hu, hv => by
    simp only [Entries, entryOf] at hv ⊢
    obtain ⟨⟨u1, g1⟩, u2, g2⟩ := hu a List.mem_cons_self
    obtain ⟨y, ys, he, ⟨h1, h2, h3⟩, h4⟩ := hv
    exact ⟨y, ys, he, ⟨V.trans h _ _ _ g1 h1, V.trans h _ _ _ g2 h2, h3⟩, Entries.transM h as _ (fun x hx => hu x (List.mem_cons_of_mem _ hx)) h4⟩
theorem O.trans {φ φ1 φ2 : List Emb} (h : ∀ i, i < φ.length → ∀ e, φ2[i]? = some e → φ1[i]? = some e) {e0 e : Emb} {w0 w : World} : ∀ {o : Obj}, O φ e0 w0 o → O φ2 e w o → O φ1 e w o
  | .cells cs k, h0, ho => by
    obtain ⟨_, _, _, _, _, _, _, _, g⟩ := h0
    obtain ⟨C, t, fr, h1, h2, h3, h4, h5, h6⟩ := ho
    exact ⟨C, t, fr, h1, h2, h3, h4, h5, Vs.trans h _ _ _ g h6⟩
  | .map es c, h0, ho => by
    obtain ⟨_, _, g⟩ := h0
    obtain ⟨ES, h1, h2⟩ := ho
    exact ⟨ES, h1, Entries.trans h _ _ _ g h2⟩
  | .bag kvs c, h0, ho => by
    obtain ⟨_, es0, _, g, p0, _⟩ := h0
    obtain ⟨ES, es, h1, h2, p, pb⟩ := ho
    refine ⟨ES, es, h1, Entries.transM h es _ (fun x hx => ?_) h2, p, pb⟩
    have hm : (x.1, x.2.1) ∈ es0.map fun x => (x.1, x.2.1) := p0.symm.subset (p.subset (List.mem_map.2 ⟨x, hx, rfl⟩))
    obtain ⟨x0, hx0, he⟩ := List.mem_map.1 hm
    have hm0 := Entries.memV g x0 hx0
    cases x0 with | mk k0 r0 => cases x with | mk k r => simp only [Prod.mk.injEq] at he; rw [he.1, he.2] at hm0; exact hm0
  | .chan c b cl, h0, ho => by
    obtain ⟨_, _, _, _, g⟩ := h0
    obtain ⟨B, s, r, h1, h2⟩ := ho
    exact ⟨B, s, r, h1, Vs.trans h _ _ _ g h2⟩
  | .iter m a b k c, h0, ho => by
    obtain ⟨_, _, _, _, _, _, g⟩ := h0
    obtain ⟨m', S, k0, h1, hs, hk, h2⟩ := ho
    refine ⟨m', S, k0, h1, hs, hk, ?_⟩
    cases m with
    | none => exact h2
    | some i =>
      obtain ⟨em0, g3, _⟩ := g
      obtain ⟨em, h3, h4⟩ := h2
      exact ⟨em, h _ (List.getElem?_eq_some_iff.1 g3).1 em h3, h4⟩
  | .siter a b, _, ho => ho
  | .loop a b c d f g i j, h0, ho => by
    obtain ⟨_, T0, ed0, _, g2, g3, g4⟩ := h0
    obtain ⟨fn, T, ed, h1, h2, h3, h4⟩ := ho
    refine ⟨fn, T, ed, h1, h2, ⟨h3.1, fun t ht => ?_⟩, h _ (List.getElem?_eq_some_iff.1 g4).1 ed h4⟩
    exact V.trans h _ _ _ (g3.2 t (by omega)) (h3.2 t ht)
  | .defs, _, ho => ho

theorem O.transL {φ φ1 φ2 : List Emb} (h : ∀ i, i < φ.length → ∀ e, φ2[i]? = some e → φ1[i]? = some e) {e0 e : Emb} {w0 w : World} {a a' : LoopState} {b b' : Option Code} {c : Nat} {d : Env} {f : Array Tmp} {g i : Code} {j : Nat} :
    O φ e0 w0 (.loop a' b' c d f g i j) → O φ2 e w (.loop a b c d f g i j) → O φ1 e w (.loop a b c d f g i j) := fun h0 ho => by
  obtain ⟨_, T0, ed0, _, g2, g3, g4⟩ := h0
  obtain ⟨fn, T, ed, h1, h2, h3, h4⟩ := ho
  refine ⟨fn, T, ed, h1, h2, ⟨h3.1, fun t ht => ?_⟩, h _ (List.getElem?_eq_some_iff.1 g4).1 ed h4⟩
  exact V.trans h _ _ _ (g3.2 t (by omega)) (h3.2 t ht)
theorem stat_loop {o : Obj} {st : LoopState} {p : Option Code} {n : Nat} {e : Env} {ps : Array Tmp} {x y : Code} {d : Nat} (h : o.stat = (Obj.loop st p n e ps x y d).stat) : ∃ st' p', o = .loop st' p' n e ps x y d := by
  cases o <;> simp only [Obj.stat] at h <;> first | (cases h; done) | skip
  rename_i st' p' _ _ _ _ _ _
  cases h
  exact ⟨st', p', rfl⟩

/-! ### The places, told anew -/

def rho (n0 n1 : Nat) (al : List (Nat × Nat)) (φ2 : List Emb) : List Emb := (List.range n1).map fun i => if i < n0 then φ2.getD i ⟨0, 0, 0⟩ else match lookL al i with | some b => φ2.getD b ⟨0, 0, 0⟩ | none => ⟨0, 0, 0⟩
theorem sweep_get (al : List (Nat × Nat)) : ∀ (f i : Nat) (h : Heap) (j : Nat), (sweep al f i h).next = h.next ∧ (sweep al f i h).log = h.log ∧ ((sweep al f i h).get j = if i ≤ j ∧ j < i + f ∧ lookL al j = none then none else h.get j)
  | 0, i, h, j => ⟨rfl, rfl, by rw [if_neg (by omega)]; rfl⟩
  | f + 1, i, h, j => by
    simp only [sweep]
    split
    · rename_i hg
      obtain ⟨h1, h2, h3⟩ := sweep_get al f (i + 1) h j
      refine ⟨h1, h2, ?_⟩
      rw [h3]
      by_cases hij : j = i
      · subst hij
        rw [if_neg (by omega), hg]; split <;> rfl
      · by_cases hc : i + 1 ≤ j ∧ j < i + 1 + f ∧ lookL al j = none
        · rw [if_pos hc, if_pos ⟨by omega, by omega, hc.2.2⟩]
        · rw [if_neg hc, if_neg (fun hh => hc ⟨by omega, by omega, hh.2.2⟩)]
    · split
      · rename_i c hc
        obtain ⟨h1, h2, h3⟩ := sweep_get al f (i + 1) h j
        refine ⟨h1, h2, ?_⟩
        rw [h3]
        by_cases hij : j = i
        · subst hij
          rw [if_neg (by omega), if_neg (by rw [hc]; simp)]
        · by_cases hcc : i + 1 ≤ j ∧ j < i + 1 + f ∧ lookL al j = none
          · rw [if_pos hcc, if_pos ⟨by omega, by omega, hcc.2.2⟩]
          · rw [if_neg hcc, if_neg (fun hh => hcc ⟨by omega, by omega, hh.2.2⟩)]
      · rename_i hc
        obtain ⟨h1, h2, h3⟩ := sweep_get al f (i + 1) ⟨h.next, h.tr.put i none, h.log⟩ j
        refine ⟨h1, h2, ?_⟩
        rw [h3]
        have hput : ∀ k, (⟨h.next, h.tr.put i none, h.log⟩ : Heap).get k = if i = k then none else h.get k := by
          intro k
          by_cases hk : i = k
          · subst hk; rw [if_pos rfl]; exact T16.get_put _ _ _
          · rw [if_neg hk]; exact T16.get_put_ne _ hk _
        rw [hput]
        by_cases hij : i = j
        · subst hij
          rw [if_neg (by omega), if_pos rfl, if_pos ⟨Nat.le_refl _, by omega, hc⟩]
        · rw [if_neg hij]
          by_cases hcc : i + 1 ≤ j ∧ j < i + 1 + f ∧ lookL al j = none
          · rw [if_pos hcc, if_pos ⟨by omega, by omega, hcc.2.2⟩]
          · rw [if_neg hcc, if_neg (fun hh => hcc ⟨by omega, by omega, hh.2.2⟩)]
theorem tidy_less (n0 : Nat) (s : Sg) (h : Heap) : Less h (tidy n0 s h) := by
  refine ⟨(sweep_get s.al (Nat.sub h.next n0) n0 h 0).1, fun i o hi => ?_⟩
  have := (sweep_get s.al (Nat.sub h.next n0) n0 h i).2.2
  unfold tidy at hi
  rw [this] at hi
  split at hi
  · cases hi
  · exact hi
theorem tidy_old {n0 : Nat} {s : Sg} {h : Heap} {i : Nat} (hi : i < n0) : (tidy n0 s h).get i = h.get i := by
  unfold tidy
  rw [(sweep_get s.al (Nat.sub h.next n0) n0 h i).2.2, if_neg (by omega)]
theorem tidy_new {n0 : Nat} {s : Sg} {h : Heap} {i : Nat} {o : Obj} (hn : n0 ≤ i) (hw : Wfh h) (hi : (tidy n0 s h).get i = some o) : h.get i = some o ∧ ∃ b, (i, b) ∈ s.al := by
  have hg := (tidy_less n0 s h).2 i o hi
  refine ⟨hg, ?_⟩
  have hlt : i < h.next := by
    rcases Nat.lt_or_ge i h.next with h1 | h1
    · exact h1
    · rw [hw i h1] at hg; cases hg
  unfold tidy at hi
  rw [(sweep_get s.al (Nat.sub h.next n0) n0 h i).2.2] at hi
  cases hl : lookL s.al i with
  | some b => exact ⟨b, lookL_some hl⟩
  | none =>
    rw [if_pos ⟨hn, by show i < n0 + (h.next - n0); omega, hl⟩] at hi
    cases hi
theorem tidy_next (n0 : Nat) (s : Sg) (h : Heap) : (tidy n0 s h).next = h.next := (tidy_less n0 s h).1
theorem tidy_log (n0 : Nat) (s : Sg) (h : Heap) : (tidy n0 s h).log = h.log := (sweep_get s.al (Nat.sub h.next n0) n0 h 0).2.1

/-- Old things that were not written are as they were. -/
def Logged (h a : Heap) : Prop := h.next ≤ a.next ∧ (∀ i, i < h.next → i ∉ a.log → a.get i = h.get i) ∧ ∀ i, i < h.next → Stay (h.get i) (a.get i)
theorem up_of_get {φ φ1 : List Emb} (h : ∀ i, i < φ.length → φ1[i]? = φ[i]?) : Up φ φ1 := by
  refine ⟨φ1.drop φ.length, ?_⟩
  apply List.ext_getElem?
  intro i
  by_cases hi : i < φ.length
  · rw [List.getElem?_append_left hi, h i hi]
  · rw [List.getElem?_append_right (by omega), List.getElem?_drop]
    congr 1; omega
theorem merge_run {P : Program} {φ φ2 : List Emb} {h a h2 : Heap} {w0 w w2 : World} {vs1 vs2 : List AV} {s : Sg} (hm : mrg h.next vs1 a vs2 h2 = some s) (hR0 : R P φ h w0 w) (hu : Up φ φ2) (hR2 : R P φ2 h2 w0 w2) (hla : Logged h a) (hl2 : Logged h h2) (hwa : Wfh a) :
    ∃ φ1, Up φ φ1 ∧ R P φ1 (tidy h.next s a) w0 w2 ∧ ∀ us, Vs φ2 vs2 us → Vs φ1 vs1 us := by
  have M := mrg_run hm
  have hlook : ∀ i b, (i, b) ∈ s.al → lookL s.al i = some b := by
    intro i b hib
    cases hl : lookL s.al i with
    | none => exact absurd hib (lookL_none hl b)
    | some c => rw [M.fn i c b (lookL_some hl) hib]
  have hn01 := hla.1
  have hlen : φ.length = h.next := hR0.len
  have hget : ∀ i, (rho h.next a.next s.al φ2)[i]? = if i < a.next then some (if i < h.next then φ2.getD i ⟨0, 0, 0⟩ else match lookL s.al i with | some b => φ2.getD b ⟨0, 0, 0⟩ | none => ⟨0, 0, 0⟩) else none := by
    intro i
    by_cases hi : i < a.next
    · simp [rho, hi]
    · simp [rho, hi]
  have hgd : ∀ i e, φ2[i]? = some e → φ2.getD i ⟨0, 0, 0⟩ = e := fun i e he => by simp [List.getD, he]
  have ren : Ren h.next s.al (rho h.next a.next s.al φ2) φ2 := by
    refine ⟨fun i hi e he => ?_, fun x y hxy e he => ?_⟩
    · rw [hget, if_pos (by omega), if_pos hi, hgd i e he]
    · have := M.new x y hxy
      rw [hget, if_pos (M.lt x y hxy), if_neg (by omega), hlook x y hxy]
      simp only [hgd y e he]
  have hold : ∀ i, i < h.next → (rho h.next a.next s.al φ2)[i]? = φ[i]? := by
    intro i hi
    have he : φ[i]? = some φ[i] := List.getElem?_eq_getElem (by omega)
    rw [he]
    exact ren.old i hi _ (hu.get he)
  have hup : Up φ (rho h.next a.next s.al φ2) := up_of_get fun i hi => hold i (by omega)
  have key : ∀ i o, (tidy h.next s a).get i = some o → ∃ i2 o2 e, h2.get i2 = some o2 ∧ o.isOwn = o2.isOwn ∧ φ2[i2]? = some e ∧ (rho h.next a.next s.al φ2)[i]? = some e ∧ O (rho h.next a.next s.al φ2) e w2 o ∧ (o.isOwn = true → w0.heap.size ≤ e.blk) ∧ ((i < h.next ∧ i2 = i) ∨ (h.next ≤ i ∧ (i, i2) ∈ s.al)) := by
    intro i o hi
    rcases Nat.lt_or_ge i h.next with hlt | hge
    · rw [tidy_old hlt] at hi
      by_cases hlog : i ∈ a.log ∨ i ∈ h2.log
      · have ho := M.old i hlt hlog
        rw [hi] at ho
        rcases ho with ho | ⟨st, p, n, e, ps, x, y, d, n', e', ps', x', y', d', ho1, ho2⟩
        · cases hg : h2.get i with
          | none => rw [hg] at ho; exact ho.elim
          | some o2 =>
            rw [hg] at ho
            obtain ⟨e, he, hO, hw⟩ := hR2.objs i o2 hg
            exact ⟨i, o2, e, hg, ho.1, he, ren.old i hlt e he, ho.2 _ _ e w2 ren hO, fun hh => hw (by rw [← ho.1]; exact hh), .inl ⟨hlt, rfl⟩⟩
        · cases ho1
          obtain ⟨oa, ha1, ha2⟩ := hla.2.2 i hlt _ hi
          obtain ⟨ob, hb1, hb2⟩ := hl2.2.2 i hlt _ ho2
          rw [ha1] at hb1
          cases hb1
          obtain ⟨sa, pa, rfl⟩ := stat_loop ha2
          obtain ⟨sb, pb, hab⟩ := stat_loop hb2
          cases hab
          obtain ⟨e0, he0, hO0, _⟩ := hR0.objs i _ ha1
          obtain ⟨e1, he, hO, hw⟩ := hR2.objs i _ ho2
          exact ⟨i, _, e1, ho2, rfl, he, ren.old i hlt e1 he, O.transL (fun j hj e' he' => ren.old j (by omega) e' he') hO0 hO, hw, .inl ⟨hlt, rfl⟩⟩
      · rw [not_or] at hlog
        have h3 : h.get i = some o := by rw [← hla.2.1 i hlt hlog.1]; exact hi
        have h4 : h2.get i = some o := by rw [hl2.2.1 i hlt hlog.2]; exact h3
        obtain ⟨e0, he0, hO0, _⟩ := hR0.objs i o h3
        obtain ⟨e, he, hO, hw⟩ := hR2.objs i o h4
        exact ⟨i, o, e, h4, rfl, he, ren.old i hlt e he, O.trans (fun j hj e' he' => ren.old j (by omega) e' he') hO0 hO, hw, .inl ⟨hlt, rfl⟩⟩
    · obtain ⟨h3, b, hb⟩ := tidy_new hge hwa hi
      have ho := M.obj i b hb
      rw [h3] at ho
      cases hg : h2.get b with
      | none => rw [hg] at ho; exact ho.elim
      | some o2 =>
        rw [hg] at ho
        obtain ⟨e, he, hO, hw⟩ := hR2.objs b o2 hg
        exact ⟨b, o2, e, hg, ho.1, he, ren.new i b hb e he, ho.2 _ _ e w2 ren hO, fun hh => hw (by rw [← ho.1]; exact hh), .inr ⟨hge, hb⟩⟩
  refine ⟨rho h.next a.next s.al φ2, hup, ?_, fun us hus => M.vals _ _ us ren hus⟩
  exact {
    below := hR2.below
    len := by rw [tidy_next]; simp [rho]
    objs := fun i o hi => by
      obtain ⟨i2, o2, e, _, _, _, h4, h5, h6, _⟩ := key i o hi
      exact ⟨e, h4, h5, h6⟩
    sep := fun i j oi oj ei ej hij hi hj hei hej hown => by
      obtain ⟨i2, p, e, a1, a2, a3, a4, a5, a6, a7⟩ := key i oi hi
      obtain ⟨j2, q, f, b1, b2, b3, b4, b5, b6, b7⟩ := key j oj hj
      rw [hei] at a4; cases a4
      rw [hej] at b4; cases b4
      refine hR2.sep i2 j2 p q ei ej ?_ a1 b1 a3 b3 (by rw [← a2]; exact hown)
      intro hh
      rcases a7 with ⟨c1, c2⟩ | ⟨c1, c2⟩ <;> rcases b7 with ⟨d1, d2⟩ | ⟨d1, d2⟩
      · exact hij (by omega)
      · have := (M.new j j2 d2).2; omega
      · have := (M.new i i2 c2).2; omega
      · subst hh; exact hij (M.inj i j i2 c2 d2)
    glob := fun g hg => by
      obtain ⟨n, hn⟩ := hR0.glob g hg
      exact ⟨n, hup.get hn⟩ }
end Go.Am
