/- The abstract machine: one operation. -/
import Derived.Test.YtnllflgijnloiaaAmRest3
namespace Go.Am
open Go.RowKit

inductive CRes where
  | ret (v : AV) (h : Heap)
  | pan (v : AV) (h : Heap)

abbrev CallF := FuncId → List AV → Heap → Option CRes

def evals (P : Program) (env : List AV) (xs : List Operand) : List AV := xs.map (evalA P env)
def evalParts (P : Program) (env : List AV) (xs : List (Nat × Operand)) : List (Nat × AV) := xs.map fun x => (x.1, evalA P env x.2)
def evalO (P : Program) (env : List AV) (x : Option Operand) : Option AV := x.map (evalA P env)

def withH (h : Heap) : Option AV → Option (AV × Heap)
  | some v => some (v, h)
  | none => none

def builtinA (P : Program) (h : Heap) (b : Builtin) (ts : List TypeId) (args : List AV) : Option (AV × Heap) :=
  match b, ts, args with
  | .len, [t], [x] => withH h (lenA P h t x)
  | .append, [t, u], [s, x] => appendA P h t u s x
  | .copy, [t, _], [d, s] => copyA P h t d s
  | .max, _, x :: rest => withH h (maxA x rest)
  | .min, _, x :: rest => withH h (minA x rest)
  | .close, _, [.chan (some i)] => closeA h i
  | _, _, _ => none

/-- The array that a slice's places are. -/
def arrayAtA (P : Program) (arr : TypeId) (x : AV) : Option AV :=
  match P.underlying arr, x with
  | some (.array n _), .slice (some l) (m + 1) _ => bif Nat.ble n (m + 1) then some (.ptr (some l)) else none
  | _, _ => none
theorem arrayAtA_run {P : Program} {φ : List Emb} {w : World} {arr : TypeId} {x r : AV} (h : arrayAtA P arr x = some r) {x' : Value} (hx : V φ x x') : ∃ r', (Instr.arrayAt arr x').run P w = .ok r' w ∧ V φ r r' := by
  unfold arrayAtA at h
  split at h
  · rename_i n e l m c hu
    cases hb : Nat.ble n (m + 1) with
    | false => rw [hb] at h; cases h
    | true =>
      rw [hb, cond_true, Option.some.injEq] at h
      subst h
      have hle := (ble_iff _ _).1 hb
      simp only [V] at hx
      obtain ⟨em, cap, a, he, rfl, _, _, ha⟩ := hx
      have ha : a = ⟨em.blk, em.off + l.off, none⟩ := ha.resolve_right (by omega)
      subst ha
      refine ⟨.pointer (some ⟨em.blk, em.off + l.off, none⟩), ?_, ?_⟩
      · unfold Instr.arrayAt
        simp only [Sem.run_bind, run_underlying hu, Result.andThen_ok]
        rw [if_neg (by omega)]
        rfl
      · simp only [V]; exact ⟨em, he, rfl⟩
  · cases h

/-- An operation that is no call of a Go function. -/
def aop (P : Program) (env : List AV) (h : Heap) (op : Op) : Option (AV × Heap) :=
  match op with
  | .move x | .assign x => some (evalA P env x, h)
  | .pick c a b => (match evalA P env c with | .bool t => some (bif t then evalA P env a else evalA P env b, h) | _ => none)
  | .alloc t => allocA P h t
  | .box _ x => boxA h (evalA P env x)
  | .build t parts => withH h (buildA P t (evalParts P env parts.toList))
  | .buildSlice t len parts => buildSliceA P h t len (evalParts P env parts.toList)
  | .load t a => (match evalA P env a with | .ptr (some l) => withH h (loadA P h t l) | _ => none)
  | .store t a x => (match evalA P env a with | .ptr (some l) => (match storeA P h t l (evalA P env x) with | some h' => some (.tuple [], h') | none => none) | _ => none)
  | .nilCheck x => withH h (nilCheckA (evalA P env x))
  | .binOp op t x y _ => withH h (binA P h op t x y (evalA P env x) (evalA P env y))
  | .unOp op _ x => withH h (unA op (evalA P env x))
  | .convert src dst x => convertA P h src dst (evalA P env x)
  | .sliceToArrayPointer arr x => withH h (arrayAtA P arr (evalA P env x))
  | .makeInterface t x => withH h (makeInterfaceA P t (evalA P env x))
  | .makeFunc fn first captured => some (.func fn (evals P env first.toList) (evals P env captured.toList), h)
  | .makeSlice t l c => makeSliceA P h t (evalA P env l) (evalA P env c)
  | .makeChan t n => makeChanA P h t (evalA P env n)
  | .slice t x lo hi mx => withH h (sliceA P t (evalA P env x) (evalO P env lo) (evalO P env hi) (evalO P env mx))
  | .fieldAddr s x f => withH h (fieldAddrA P s (evalA P env x) f)
  | .field t x f => withH h (fieldA P t (evalA P env x) f)
  | .indexAddr t x i => withH h (indexAddrA P t (evalA P env x) (evalA P env i))
  | .index t x i => withH h (indexA P t (evalA P env x) (evalA P env i))
  | .typeAssert x _ asserted ok => withH h (typeAssertA P (evalA P env x) asserted ok)
  | .extract x i => withH h (extractA (evalA P env x) i)
  | .call c => (match c.callee with | .builtin b => builtinA P h b c.argTypes.toList (evals P env c.args.toList) | _ => none)
  | _ => none

theorem evals_V {P : Program} {φ : List Emb} {env : List AV} {ρ : Operand → Value} (hρ : ∀ x, V φ (evalA P env x) (ρ x)) : ∀ xs : List Operand, Vs φ (evals P env xs) (xs.map ρ)
  | [] => by simp [evals, Vs]
  | x :: xs => by simp only [evals, List.map_cons, Vs_cons]; exact ⟨hρ x, evals_V hρ xs⟩
theorem evalParts_V {P : Program} {φ : List Emb} {env : List AV} {ρ : Operand → Value} (hρ : ∀ x, V φ (evalA P env x) (ρ x)) : ∀ xs : List (Nat × Operand), Parts φ (evalParts P env xs) (xs.map fun (i, x) => (i, ρ x))
  | [] => by simp only [evalParts, List.map_nil]; exact .nil
  | x :: xs => by simp only [evalParts, List.map_cons]; exact .cons (hρ x.2) (evalParts_V hρ xs)
theorem evalO_V {P : Program} {φ : List Emb} {env : List AV} {ρ : Operand → Value} (hρ : ∀ x, V φ (evalA P env x) (ρ x)) (x : Option Operand) : VO φ (evalO P env x) (x.map ρ) := by
  cases x with
  | none => simp [evalO, VO]
  | some x => simp only [evalO, VO, Option.map_some]; exact ⟨_, rfl, hρ x⟩

theorem withH_some {h h' : Heap} {x : Option AV} {v : AV} (e : withH h x = some (v, h')) : x = some v ∧ h' = h := by
  cases x with
  | none => simp [withH] at e
  | some y => simp only [withH, Option.some.injEq, Prod.mk.injEq] at e; exact ⟨by rw [e.1], e.2.symm⟩

/-- No number, no string, no struct. -/
def Plainly (v : Value) : Prop := (∀ k a, v ≠ .int k a) ∧ (∀ k a, v ≠ .float k a) ∧ (∀ k a b, v ≠ .complex k a b) ∧ (∀ a, v ≠ .string a) ∧ (∀ cs, v ≠ .agg cs)

theorem plainly_of {φ : List Emb} {a : AV} {v : Value} (ha : (match a with | .unk | .int _ _ | .str _ | .agg _ => false | _ => true) = true) (hv : V φ a v) : Plainly v := by
  cases a with
  | unk => cases ha
  | int _ _ => cases ha
  | str _ => cases ha
  | agg _ => cases ha
  | ptr l => cases l <;> simp only [V] at hv <;> first | (subst hv; simp [Plainly]; done) | (obtain ⟨_, _, rfl⟩ := hv; simp [Plainly])
  | map l => cases l <;> simp only [V] at hv <;> first | (subst hv; simp [Plainly]; done) | (obtain ⟨_, _, rfl⟩ := hv; simp [Plainly])
  | chan l => cases l <;> simp only [V] at hv <;> first | (subst hv; simp [Plainly]; done) | (obtain ⟨_, _, rfl⟩ := hv; simp [Plainly])
  | slice l n c => cases l <;> simp only [V] at hv <;> first | (obtain ⟨_, rfl, _⟩ := hv; simp [Plainly]; done) | (obtain ⟨_, _, _, _, rfl, _⟩ := hv; simp [Plainly])
  | func fn x y => simp only [V] at hv; obtain ⟨_, _, rfl, _⟩ := hv; simp [Plainly]
  | iface t x => simp only [V] at hv; obtain ⟨_, rfl, _⟩ := hv; simp [Plainly]
  | tuple x => simp only [V] at hv; obtain ⟨_, rfl, _⟩ := hv; simp [Plainly]
  | _ => simp only [V] at hv; subst hv; simp [Plainly]

theorem eqA_shape {P : Program} {φ : List Emb} {h : Heap} {t : TypeId} {x y : AV} {b : Bool} (he : eqA P h t x y = some b) {x' : Value} (hx : V φ x x') : (∃ k a k' b, x = .int k a ∧ y = .int k' b) ∨ (∃ a b, x = .str a ∧ y = .str b) ∨ Plainly x' := by
  cases x with
  | int k a =>
    cases y with
    | int k' b => exact .inl ⟨_, _, _, _, rfl, rfl⟩
    | _ => unfold eqA at he; split at he <;> first | (cases he; done) | simp_all
  | str a =>
    cases y with
    | str b => exact .inr (.inl ⟨_, _, rfl, rfl⟩)
    | _ => unfold eqA at he; split at he <;> first | (cases he; done) | simp_all
  | agg a => unfold eqA at he; split at he <;> first | (cases he; done) | simp_all
  | unk => unfold eqA at he; split at he <;> first | (cases he; done) | simp_all
  | _ => exact .inr (.inr (plainly_of (by rfl) hx))

theorem eqGuard_run {P : Program} {w : World} {op : BinOp} {t : TypeId} {xo yo : Operand} {x y : Value} (h1 : ∀ cs, x ≠ .agg cs) (h2 : x = .nilIface → y = .nilIface → (isConst xo || isConst yo) = true) : (eqGuard op t xo yo x y).run P w = .ok () w := by
  unfold eqGuard
  cases op <;> first
    | rfl
    | (simp only [Bool.not_true, Bool.false_eq_true, if_false]
       split
       · have := h2 rfl rfl
         rw [if_pos (by revert this; cases xo <;> cases yo <;> simp [isConst])]
         rfl
       · exact absurd rfl (h1 _)
       · rfl)

theorem binA_run {P : Program} {φ : List Emb} {h : Heap} {w0 w : World} (hR : R P φ h w0 w) {op : BinOp} {t : TypeId} {xo yo : Operand} {x y r : AV} (hb : binA P h op t xo yo x y = some r) {x' y' : Value} (hx : V φ x x') (hy : V φ y y') :
    ∃ r', (do eqGuard op t xo yo x' y'; binOp op t x' y' : Sem Value).run P w = .ok r' w ∧ V φ r r' := by
  have general : Plainly x' → (x' = .nilIface → y' = .nilIface → (isConst xo || isConst yo) = true) → ∀ b, eqA P h t x y = some b → (op = .eql ∧ r = .bool b ∨ op = .neq ∧ r = .bool !b) →
      ∃ r', (do eqGuard op t xo yo x' y'; binOp op t x' y' : Sem Value).run P w = .ok r' w ∧ V φ r r' := by
    intro hp hg b hb hr
    have heq := eqA_run hR hb hx hy
    have hgr := eqGuard_run (P := P) (w := w) (op := op) (t := t) hp.2.2.2.2 hg
    obtain ⟨h1, h2, h3, h4, h5⟩ := hp
    rcases hr with ⟨rfl, rfl⟩ | ⟨rfl, rfl⟩
    · refine ⟨.bool b, ?_, by simp [V]⟩
      simp only [Sem.run_bind, hgr, Result.andThen_ok]
      cases x' <;> first | (exact absurd rfl (h1 _ _)) | (exact absurd rfl (h2 _ _)) | (exact absurd rfl (h3 _ _ _)) | (exact absurd rfl (h4 _)) | (simp [binOp, heq])
    · refine ⟨.bool !b, ?_, by simp [V]⟩
      simp only [Sem.run_bind, hgr, Result.andThen_ok]
      cases x' <;> first | (exact absurd rfl (h1 _ _)) | (exact absurd rfl (h2 _ _)) | (exact absurd rfl (h3 _ _ _)) | (exact absurd rfl (h4 _)) | (simp [binOp, heq])
  unfold binA at hb
  split at hb
  · rename_i k a k' b
    simp only [V] at hx hy
    subst hx hy
    have hgr := eqGuard_run (P := P) (w := w) (op := op) (t := t) (xo := xo) (yo := yo) (x := .int k a) (y := .int k' b) (by simp) (by simp)
    simp only [Sem.run_bind, hgr, Result.andThen_ok]
    split at hb
    · obtain ⟨v, h1, h2⟩ := shiftA_run (P := P) (w := w) (k' := k') hb t; exact ⟨v, h1, h2 φ⟩
    · obtain ⟨v, h1, h2⟩ := shiftA_run (P := P) (w := w) (k' := k') hb t; exact ⟨v, h1, h2 φ⟩
    · rename_i hn1 hn2
      split at hb
      · rename_i hk
        subst hk
        obtain ⟨v, h1, h2⟩ := intA_run (P := P) (w := w) hb t (fun h => hn1 h) (fun h => hn2 h); exact ⟨v, h1, h2 φ⟩
      · cases hb
  · rename_i a b
    simp only [V] at hx hy
    subst hx hy
    have hgr := eqGuard_run (P := P) (w := w) (op := op) (t := t) (xo := xo) (yo := yo) (x := .string ⟨a.toArray⟩) (y := .string ⟨b.toArray⟩) (by simp) (by simp)
    simp only [Sem.run_bind, hgr, Result.andThen_ok]
    obtain ⟨v, h1, h2⟩ := strA_run (P := P) (w := w) hb t
    exact ⟨v, h1, h2 φ⟩
  · split at hb
    · rename_i hconst
      have hp : Plainly x' := by simp only [V] at hx; subst hx; simp [Plainly]
      split at hb
      · simp only [Option.map_eq_some_iff] at hb
        obtain ⟨b, hb, rfl⟩ := hb
        exact general hp (fun _ _ => hconst) b hb (.inl ⟨rfl, rfl⟩)
      · simp only [Option.map_eq_some_iff] at hb
        obtain ⟨b, hb, rfl⟩ := hb
        exact general hp (fun _ _ => hconst) b hb (.inr ⟨rfl, rfl⟩)
      · cases hb
    · cases hb
  · rename_i xs ys
    simp only [V] at hx hy
    obtain ⟨X, rfl, hX⟩ := hx
    obtain ⟨Y, rfl, hY⟩ := hy
    have agg : ∀ b, eqAggA P t xs ys = some b → (op = .eql ∧ r = .bool b ∨ op = .neq ∧ r = .bool !b) → ∃ r', (do eqGuard op t xo yo (.agg X) (.agg Y); binOp op t (.agg X) (.agg Y) : Sem Value).run P w = .ok r' w ∧ V φ r r' := by
      intro b hb hr
      obtain ⟨hg, he⟩ := eqAggA_run (w := w) hb hX hY
      rcases hr with ⟨rfl, rfl⟩ | ⟨rfl, rfl⟩
      · refine ⟨.bool b, ?_, by simp [V]⟩
        simp only [Sem.run_bind, eqGuard, run_program, Result.andThen_ok, hg, Bool.not_false, if_true, Bool.not_true, Bool.false_eq_true, if_false, Sem.run_pure, run_eql_struct, he]
      · refine ⟨.bool !b, ?_, by simp [V]⟩
        simp only [Sem.run_bind, eqGuard, run_program, Result.andThen_ok, hg, Bool.not_false, if_true, Bool.not_true, Bool.false_eq_true, if_false, Sem.run_pure, run_neq_struct, he]
    split at hb
    · simp only [Option.map_eq_some_iff] at hb
      obtain ⟨b, hb, rfl⟩ := hb
      exact agg b hb (.inl ⟨rfl, rfl⟩)
    · simp only [Option.map_eq_some_iff] at hb
      obtain ⟨b, hb, rfl⟩ := hb
      exact agg b hb (.inr ⟨rfl, rfl⟩)
    · cases hb
  · cases hb
  · rename_i hn1 hn2 hn3 hn4 hn5
    have fin : ∀ b, eqA P h t x y = some b → Plainly x' ∧ (x' = .nilIface → y' = .nilIface → (isConst xo || isConst yo) = true) := by
      intro b hb
      rcases eqA_shape hb hx with ⟨k, a, k', b', rfl, rfl⟩ | ⟨a, b', rfl, rfl⟩ | hp
      · exact (hn2 _ _ _ _ rfl rfl).elim
      · exact (hn3 _ _ rfl rfl).elim
      · refine ⟨hp, fun e1 e2 => ?_⟩
        subst e1 e2
        unfold eqA at hb
        split at hb
        case h_7 => exact (hn4 rfl rfl).elim
        case h_17 => cases hb
        all_goals first | (simp [V] at hx; done) | (simp [V] at hy; done)
    split at hb
    · simp only [Option.map_eq_some_iff] at hb
      obtain ⟨b, hb, rfl⟩ := hb
      exact general (fin b hb).1 (fin b hb).2 b hb (.inl ⟨rfl, rfl⟩)
    · simp only [Option.map_eq_some_iff] at hb
      obtain ⟨b, hb, rfl⟩ := hb
      exact general (fin b hb).1 (fin b hb).2 b hb (.inr ⟨rfl, rfl⟩)
    · cases hb
end Go.Am
