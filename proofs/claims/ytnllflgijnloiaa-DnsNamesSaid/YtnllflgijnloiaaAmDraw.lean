/- Regions that draw their order: whatever the order, they come to what the text's order comes to. -/
import Derived.Test.YtnllflgijnloiaaAmDrawDef
namespace Go.Am
open Go.RowKit

/-! ### Equality of values -/

theorem beqCap_eq : ∀ {a b : Cap}, beqCap a b = true → a = b
  | .exact a, .exact b, h => by simp only [beqCap] at h; rw [Nat.eq_of_beq_eq_true h]
  | .tip a, .tip b, h => by simp only [beqCap] at h; rw [Nat.eq_of_beq_eq_true h]
  | .dim, .dim, _ => rfl
  | .exact _, .tip _, h => by simp [beqCap] at h
  | .exact _, .dim, h => by simp [beqCap] at h
  | .tip _, .exact _, h => by simp [beqCap] at h
  | .tip _, .dim, h => by simp [beqCap] at h
  | .dim, .exact _, h => by simp [beqCap] at h
  | .dim, .tip _, h => by simp [beqCap] at h
theorem loc_eq {a b : Loc} (h : (Nat.beq a.id b.id && Nat.beq a.off b.off) = true) : a = b := by
  rw [Bool.and_eq_true] at h
  obtain ⟨i, o⟩ := a
  obtain ⟨j, q⟩ := b
  have h1 := Nat.eq_of_beq_eq_true h.1
  have h2 := Nat.eq_of_beq_eq_true h.2
  simp only at h1 h2
  subst h1 h2
  rfl
mutual
theorem beqV_eq : ∀ (a b : AV), beqV a b = true → a = b
  | a, b, h => by
    cases a with
    | unk => cases b <;> simp [beqV] at h ⊢
    | bool x => cases b <;> simp [beqV] at h ⊢; exact h
    | int k x => cases b <;> simp [beqV] at h ⊢; exact h
    | str x => cases b <;> simp [beqV] at h ⊢; exact h
    | nilFunc => cases b <;> simp [beqV] at h ⊢
    | nilIface => cases b <;> simp [beqV] at h ⊢
    | ptr l =>
      cases b with
      | ptr m =>
        cases l <;> cases m <;> first | rfl | (simp [beqV] at h; done) | skip
        simp only [beqV] at h
        rw [loc_eq h]
      | _ => cases l <;> simp [beqV] at h
    | slice l n c =>
      cases b with
      | slice m n' c' =>
        cases l <;> cases m <;> first | (simp [beqV] at h; done) | skip
        · simp only [beqV, Bool.and_eq_true] at h
          rw [Nat.eq_of_beq_eq_true h.1, beqCap_eq h.2]
        · rename_i x y
          simp only [beqV, Bool.and_eq_true] at h
          rw [Nat.eq_of_beq_eq_true h.1.2, beqCap_eq h.2, loc_eq (a := x) (b := y) (by rw [Bool.and_eq_true]; exact h.1.1)]
      | _ => cases l <;> simp [beqV] at h
    | map l =>
      cases b with
      | map m =>
        cases l <;> cases m <;> first | rfl | (simp [beqV] at h; done) | skip
        simp only [beqV] at h
        rw [Nat.eq_of_beq_eq_true h]
      | _ => cases l <;> simp [beqV] at h
    | chan l =>
      cases b with
      | chan m =>
        cases l <;> cases m <;> first | rfl | (simp [beqV] at h; done) | skip
        simp only [beqV] at h
        rw [Nat.eq_of_beq_eq_true h]
      | _ => cases l <;> simp [beqV] at h
    | func f x y =>
      cases b with
      | func g x' y' =>
        simp only [beqV, Bool.and_eq_true, decide_eq_true_eq] at h
        rw [h.1.1, beqVs_eq x x' h.1.2, beqVs_eq y y' h.2]
      | _ => simp [beqV] at h
    | iface t x =>
      cases b with
      | iface u y =>
        simp only [beqV, Bool.and_eq_true] at h
        rw [Nat.eq_of_beq_eq_true h.1, beqV_eq x y h.2]
      | _ => simp [beqV] at h
    | agg x =>
      cases b with
      | agg y => simp only [beqV] at h; rw [beqVs_eq x y h]
      | _ => simp [beqV] at h
    | tuple x =>
      cases b with
      | tuple y => simp only [beqV] at h; rw [beqVs_eq x y h]
      | _ => simp [beqV] at h
theorem beqVs_eq : ∀ (a b : List AV), beqVs a b = true → a = b
  | [], [], _ => rfl
  | [], _ :: _, h => by simp [beqVs] at h
  | _ :: _, [], h => by simp [beqVs] at h
  | a :: as, b :: bs, h => by
    simp only [beqVs, Bool.and_eq_true] at h
    rw [beqV_eq a b h.1, beqVs_eq as bs h.2]
end

/-! ### Quiet operations -/

theorem convert_quiet {P : Program} {h h' : Heap} {src dst : TypeId} {x v : AV} (hd : ∀ e, P.underlying dst ≠ some (.slice e)) (hc : convertA P h src dst x = some (v, h')) : h' = h ∧ ((∀ e, P.underlying src ≠ some (.slice e)) → (∀ e, P.underlying src ≠ some (.pointer e)) → ∀ h2, convertA P h2 src dst x = some (v, h2)) := by
  unfold convertA at hc
  split at hc
  · rename_i hs hdd
    cases hc
    exact ⟨rfl, fun _ _ h2 => by simp [convertA, hs, hdd]⟩
  · rename_i hs hdd
    cases hc
    refine ⟨rfl, fun hh _ h2 => ?_⟩
    rename_i d s
    unfold convertA
    rw [hs, hdd]
  · rename_i hs hdd
    exact absurd hdd (hd _)
  · rename_i e l n c hs hdd
    refine ⟨?_, fun hh => absurd hs (hh e)⟩
    repeat' split at hc
    all_goals first | (cases hc; done) | (cases hc; rfl)
  · rename_i t l hs hdd
    refine ⟨?_, fun _ hh => absurd hs (hh t)⟩
    repeat' split at hc
    all_goals first | (cases hc; done) | (cases hc; rfl)
  · cases hc

theorem bi_toRet {P : Program} {h : Heap} {b : Builtin} {ts : List TypeId} {args : List AV} {r : CRes} (ho : biA P h b ts args = some r) (hb : b ≠ .panic) : toRet (builtinA P h b ts args) = some r := by
  unfold biA at ho
  split at ho
  · exact absurd rfl hb
  · exact ho

theorem quiet_same {P : Program} {call : CallF} {env : List AV} {h : Heap} {op : Op} {r : CRes} (hl : loudA P op = false) (ho : opA call P env h op = some r) : ∃ v, r = .ret v h ∧ aop P env h op = some (v, h) := by
  have key : ∀ x : Option (AV × Heap), toRet x = some r → (∀ v h', x = some (v, h') → h' = h) → x = aop P env h op → ∃ v, r = .ret v h ∧ aop P env h op = some (v, h) := by
    intro x h1 h2 h3
    obtain ⟨v, h', h4, h5⟩ := toRet_some h1
    have := h2 v h' h4
    subst this
    exact ⟨v, h5, by rw [← h3, h4]⟩
  have wh : ∀ (y : Option AV) v h', withH h y = some (v, h') → h' = h := fun y v h' hh => (withH_some hh).2
  cases op <;> simp only [loudA] at hl <;> try (cases hl; done)
  case call c =>
    obtain ⟨callee, args, ats⟩ := c
    cases callee with
    | value f => simp at hl
    | invoke x n => simp at hl
    | builtin b =>
      simp only at hl
      simp only [opA] at ho
      split at hl
      · rename_i heq0
        injection heq0 with e0
        subst e0
        exact key _ (bi_toRet ho (by simp)) (fun v h' hh => by
          unfold builtinA at hh; split at hh <;> first | (exact wh _ _ _ hh) | (rename_i heq _ _; cases heq; done) | (rename_i heq _; cases heq; done) | (cases hh; done)) rfl
      · rename_i heq0
        injection heq0 with e0
        subst e0
        exact key _ (bi_toRet ho (by simp)) (fun v h' hh => by
          unfold builtinA at hh; split at hh <;> first | (exact wh _ _ _ hh) | (rename_i heq _ _; cases heq; done) | (rename_i heq _; cases heq; done) | (cases hh; done)) rfl
      · rename_i heq0
        injection heq0 with e0
        subst e0
        exact key _ (bi_toRet ho (by simp)) (fun v h' hh => by
          unfold builtinA at hh; split at hh <;> first | (exact wh _ _ _ hh) | (rename_i heq _ _; cases heq; done) | (rename_i heq _; cases heq; done) | (cases hh; done)) rfl
      · cases hl
  case convert src dst x =>
    refine key _ ho (fun v h' hh => ?_) rfl
    refine (convert_quiet (fun e he => ?_) hh).1
    rw [he] at hl
    cases hl
  case move x => exact key (aop P env h (.move x)) ho (fun v h' hh => by simp [aop] at hh; exact hh.2.symm) rfl
  case assign x => exact key (aop P env h (.assign x)) ho (fun v h' hh => by simp [aop] at hh; exact hh.2.symm) rfl
  case pick a b c => exact key _ ho (fun v h' hh => by simp only [aop] at hh; split at hh <;> first | (cases hh; done) | (cases hh; rfl)) rfl
  case load t a => exact key _ ho (fun v h' hh => by simp only [aop] at hh; split at hh <;> first | (exact wh _ _ _ hh) | (cases hh)) rfl
  case makeFunc fn a b => exact key (aop P env h (.makeFunc fn a b)) ho (fun v h' hh => by simp [aop] at hh; exact hh.2.symm) rfl
  all_goals exact key _ ho (fun v h' hh => wh _ v h' hh) rfl

theorem binA_free {P : Program} {h : Heap} {op : BinOp} {t : TypeId} {xo yo : Operand} {x y r : AV} (ht : ∀ e, P.underlying t ≠ some (.pointer e)) (hb : binA P h op t xo yo x y = some r) (h2 : Heap) : binA P h2 op t xo yo x y = some r := by
  have he : eqA P h2 t x y = eqA P h t x y := by
    unfold eqA
    split <;> first | rfl | (rename_i hu; exact absurd hu (ht _))
  unfold binA at hb ⊢
  rw [he]
  exact hb

theorem lenA_free {P : Program} {h : Heap} {t : TypeId} {x r : AV} (ht : ∀ k e, P.underlying t ≠ some (.map k e)) (hb : lenA P h t x = some r) (h2 : Heap) : lenA P h2 t x = some r := by
  unfold lenA at hb ⊢
  split at hb <;> first | (rename_i hu; exact absurd hu (ht _ _)) | exact hb

theorem quiet_free {P : Program} {env : List AV} {h : Heap} {op : Op} {v : AV} (hl : loudA P op = false) (hr : readsA P op = false) (ho : aop P env h op = some (v, h)) (h2 : Heap) : aop P env h2 op = some (v, h2) := by
  have wh : ∀ (y : Option AV), withH h y = some (v, h) → withH h2 y = some (v, h2) := fun y hh => by
    have := (withH_some hh).1
    subst this
    rfl
  cases op <;> simp only [loudA] at hl <;> (try (cases hl; done)) <;> simp only [readsA] at hr <;> (try (cases hr; done))
  case call c =>
    obtain ⟨callee, args, ats⟩ := c
    cases callee with
    | value f => simp at hl
    | invoke x n => simp at hl
    | builtin b =>
      simp only at hl hr
      simp only [aop] at ho ⊢
      split at hl
      · rename_i heq0
        injection heq0 with e0
        subst e0
        unfold builtinA at ho ⊢
        split at ho
        · rename_i t x heq1 heq2
          rw [heq1] at hr
          simp only at hr
          have := (withH_some ho).1
          have h3 := lenA_free (h := h) (fun k e hu => by rw [hu] at hr; cases hr) this h2
          simp only [h3, withH]
        · rename_i heq _ _; cases heq
        · rename_i heq _ _; cases heq
        · rename_i heq _; cases heq
        · rename_i heq _; cases heq
        · rename_i heq _; cases heq
        · cases ho
      · rename_i heq0
        injection heq0 with e0
        subst e0
        unfold builtinA at ho ⊢
        split at ho <;> first | (rename_i heq _ _; cases heq; done) | (rename_i heq _; cases heq; done) | (cases ho; done) | exact wh _ ho
      · rename_i heq0
        injection heq0 with e0
        subst e0
        unfold builtinA at ho ⊢
        split at ho <;> first | (rename_i heq _ _; cases heq; done) | (rename_i heq _; cases heq; done) | (cases ho; done) | exact wh _ ho
      · cases hl
  case convert src dst x =>
    simp only [aop] at ho ⊢
    exact (convert_quiet (fun e he => by rw [he] at hl; cases hl) ho).2 (fun e he => by rw [he] at hr; cases hr) (fun e he => by rw [he] at hr; cases hr) h2
  case binOp op t x y yt =>
    simp only [aop] at ho ⊢
    have h1 := (withH_some ho).1
    rw [binA_free (fun e he => by rw [he] at hr; cases hr) h1 h2]
    rfl
  case move x => simp only [aop, Option.some.injEq, Prod.mk.injEq] at ho ⊢; exact ⟨ho.1, trivial⟩
  case assign x => simp only [aop, Option.some.injEq, Prod.mk.injEq] at ho ⊢; exact ⟨ho.1, trivial⟩
  case pick a b c =>
    simp only [aop] at ho ⊢
    split at ho
    · rename_i t ht
      simp only [Option.some.injEq, Prod.mk.injEq] at ho ⊢
      exact ⟨ho.1, trivial⟩
    · cases ho
  case makeFunc fn a b => simp only [aop, Option.some.injEq, Prod.mk.injEq] at ho ⊢; exact ⟨ho.1, trivial⟩
  all_goals exact wh _ ho

/-! ### An operation hangs on its operands alone -/

theorem evals_congr {P : Program} {env env' : List AV} {xs : List Operand} (h : ∀ x ∈ xs, evalA P env x = evalA P env' x) : evals P env xs = evals P env' xs := List.map_congr_left h
theorem evalParts_congr {P : Program} {env env' : List AV} {xs : List (Nat × Operand)} (h : ∀ x ∈ xs.map (·.2), evalA P env x = evalA P env' x) : evalParts P env xs = evalParts P env' xs :=
  List.map_congr_left fun x hx => by rw [h x.2 (List.mem_map.2 ⟨x, hx, rfl⟩)]
theorem evalO_congr {P : Program} {env env' : List AV} {x : Option Operand} (h : ∀ y ∈ x.toArray.toList, evalA P env y = evalA P env' y) : evalO P env x = evalO P env' x := by
  cases x with
  | none => rfl
  | some y => simp only [evalO, Option.map_some]; rw [h y (by simp)]

theorem opA_congr {P : Program} {call : CallF} {env env' : List AV} {h : Heap} {op : Op} (hx : ∀ x ∈ op.operands.toList, evalA P env x = evalA P env' x) : opA call P env h op = opA call P env' h op := by
  cases op with
  | call c =>
    obtain ⟨callee, args, ats⟩ := c
    have hargs : evals P env args.toList = evals P env' args.toList := evals_congr fun x hm => hx x (by simp only [Op.operands, Call.operands, Array.toList_append]; exact List.mem_append.2 (.inr hm))
    cases callee with
    | builtin b => simp only [opA, hargs]
    | value f =>
      have hf : evalA P env f = evalA P env' f := hx f (by simp [Op.operands, Call.operands])
      simp only [opA, hargs, hf]
    | invoke r n =>
      have hf : evalA P env r = evalA P env' r := hx r (by simp [Op.operands, Call.operands])
      simp only [opA, hargs, hf]
  | build t parts =>
    have := evalParts_congr (P := P) (env := env) (env' := env') (xs := parts.toList) (fun x hm => hx x (by simpa [Op.operands] using hm))
    simp only [opA, aop, this]
  | buildSlice t n parts =>
    have := evalParts_congr (P := P) (env := env) (env' := env') (xs := parts.toList) (fun x hm => hx x (by simpa [Op.operands] using hm))
    simp only [opA, aop, this]
  | makeFunc fn a b =>
    have h1 := evals_congr (P := P) (env := env) (env' := env') (xs := a.toList) (fun x hm => hx x (by simp only [Op.operands, Array.toList_append]; exact List.mem_append.2 (.inl hm)))
    have h2 := evals_congr (P := P) (env := env) (env' := env') (xs := b.toList) (fun x hm => hx x (by simp only [Op.operands, Array.toList_append]; exact List.mem_append.2 (.inr hm)))
    simp only [opA, aop, h1, h2]
  | slice t x lo hi mx =>
    have h0 := hx x (by simp [Op.operands])
    have h1 := evalO_congr (P := P) (env := env) (env' := env') (x := lo) (fun y hm => hx y (by simp only [Op.operands, Array.toList_append, List.mem_append]; exact .inl (.inl (.inr hm))))
    have h2 := evalO_congr (P := P) (env := env) (env' := env') (x := hi) (fun y hm => hx y (by simp only [Op.operands, Array.toList_append, List.mem_append]; exact .inl (.inr hm)))
    have h3 := evalO_congr (P := P) (env := env) (env' := env') (x := mx) (fun y hm => hx y (by simp only [Op.operands, Array.toList_append, List.mem_append]; exact .inr hm))
    simp only [opA, aop, h0, h1, h2, h3]
  | select cs b => rfl
  | _ =>
    simp only [Op.operands, List.mem_cons, List.not_mem_nil, or_false, forall_eq_or_imp, forall_eq] at hx
    simp only [opA, aop, hx]
end Go.Am
