/- The abstract machine's operations, all that are no calls, say what the model's do. -/
import Derived.Test.YtnllflgijnloiaaAmOp
namespace Go.Am
open Go.RowKit

def Done (P : Program) (φ : List Emb) (w0 : World) (v : AV) (h' : Heap) (s : Sem Next) (w : World) : Prop :=
  ∃ nx φ' w', s.run P w = .ok nx w' ∧ (∃ v', (nx = .value v' ∨ (nx = .skip ∧ v' = undef)) ∧ V φ' v v') ∧ Up φ φ' ∧ R P φ' h' w0 w'

theorem Done.val {P : Program} {φ φ' : List Emb} {w0 w w' : World} {v : AV} {h' : Heap} {s : Sem Value} {v' : Value} (h : s.run P w = .ok v' w') (hu : Up φ φ') (hR : R P φ' h' w0 w') (hv : V φ' v v') : Done P φ w0 v h' (do pure (.value (← s))) w :=
  ⟨.value v', φ', w', by simp [h], ⟨v', .inl rfl, hv⟩, hu, hR⟩
theorem Done.quiet {P : Program} {φ : List Emb} {w0 w : World} {v : AV} {h : Heap} {s : Sem Value} {v' : Value} (hR : R P φ h w0 w) (hs : s.run P w = .ok v' w) (hv : V φ v v') : Done P φ w0 v h (do pure (.value (← s))) w :=
  Done.val hs (Up.refl _) hR hv

theorem builtinA_run {P : Program} {φ : List Emb} {h h' : Heap} {w0 w : World} (hR : R P φ h w0 w) {b : Builtin} {ts : Array TypeId} {ty : TypeId} {cs : Array Bool} {args : List AV} {r : AV} (hb : builtinA P h b ts.toList args = some (r, h')) {vs : Array Value} (hv : Vs φ args vs.toList) :
    Done P φ w0 r h' (builtin b ts ty cs vs) w := by
  obtain ⟨ts⟩ := ts
  obtain ⟨vs⟩ := vs
  simp only at hb hv
  unfold builtinA at hb
  split at hb
  · rename_i t x
    obtain ⟨h1, rfl⟩ := withH_some hb
    simp only [Vs] at hv
    obtain ⟨y, ys, rfl, hy, rfl⟩ := hv
    obtain ⟨r', h2, h3⟩ := lenA_run (ty := ty) hR h1 hy
    exact Done.quiet hR h2 h3
  · rename_i t u s x
    simp only [Vs] at hv
    obtain ⟨y, ys, rfl, hy, z, zs, rfl, hz, rfl⟩ := hv
    obtain ⟨r', φ', w', h1, h2, h3, h4⟩ := appendA_run (ty := ty) hR hb hy hz
    exact Done.val h1 h2 h3 h4
  · rename_i t u d s
    simp only [Vs] at hv
    obtain ⟨y, ys, rfl, hy, z, zs, rfl, hz, rfl⟩ := hv
    obtain ⟨r', w', h1, h2, h3⟩ := copyA_run (sT := u) (ty := ty) hR hb hy hz
    exact Done.val h1 (Up.refl _) h2 h3
  · rename_i x rest
    obtain ⟨h1, rfl⟩ := withH_some hb
    simp only [Vs] at hv
    obtain ⟨y, ys, rfl, hy, hys⟩ := hv
    obtain ⟨r', h2, h3⟩ := maxA_run (P := P) (w := w) h1 hy hys
    exact Done.quiet hR (s := Builtin.max_ ⟨ts⟩ ty ⟨y :: ys⟩) h2 h3
  · rename_i x rest
    obtain ⟨h1, rfl⟩ := withH_some hb
    simp only [Vs] at hv
    obtain ⟨y, ys, rfl, hy, hys⟩ := hv
    obtain ⟨r', h2, h3⟩ := minA_run (P := P) (w := w) h1 hy hys
    exact Done.quiet hR (s := Builtin.min_ ⟨ts⟩ ty ⟨y :: ys⟩) h2 h3
  · rename_i i
    simp only [Vs] at hv
    obtain ⟨y, ys, rfl, hy, rfl⟩ := hv
    obtain ⟨r', w', h1, h2, h3⟩ := closeA_run hR hb hy ⟨ts⟩ ty
    exact Done.val h1 (Up.refl _) h2 h3
  · cases hb

theorem unA_run {P : Program} {φ : List Emb} {w : World} {op : UnOp} {x r : AV} (h : unA op x = some r) {x' : Value} (hx : V φ x x') : ∃ r', (Op.unary op x').run P w = .ok r' w ∧ V φ r r' := by
  unfold unA at h
  split at h
  · cases h; simp only [V] at hx; subst hx; exact ⟨_, rfl, by simp [V]⟩
  · cases h; simp only [V] at hx; subst hx; exact ⟨_, rfl, by simp [V]⟩
  · cases h; simp only [V] at hx; subst hx; exact ⟨_, rfl, by simp [V]⟩
  · cases h

theorem execOp_bi (ρ : Operand → Value) (dst : Option Tmp) (b : Builtin) (xs : Array Operand) (ats : Array TypeId) (ty : TypeId) (pos : String) (after : Array Edge) (guard : Option (Nat × Bool)) :
    execOp ρ ⟨dst, .call ⟨.builtin b, xs, ats⟩, ty, pos, after, guard⟩ = builtin b ats ty (xs.map fun | .const _ => true | _ => false) (xs.map ρ) := rfl

theorem aop_run {P : Program} {φ : List Emb} {h h' : Heap} {w0 w : World} (hR : R P φ h w0 w) {env : List AV} {ρ : Operand → Value} (hρ : ∀ x, V φ (evalA P env x) (ρ x)) {o : Oper} {r : AV} (ho : aop P env h o.op = some (r, h')) :
    Done P φ w0 r h' (execOp ρ o) w := by
  obtain ⟨dst, op, type, pos, after, guard⟩ := o
  simp only at ho
  cases op <;> simp only [aop] at ho <;> try (cases ho; done)
  case move x =>
    simp only [Option.some.injEq, Prod.mk.injEq] at ho
    obtain ⟨rfl, rfl⟩ := ho
    exact ⟨.value (ρ x), φ, w, rfl, ⟨_, .inl rfl, hρ x⟩, Up.refl _, hR⟩
  case assign x =>
    simp only [Option.some.injEq, Prod.mk.injEq] at ho
    obtain ⟨rfl, rfl⟩ := ho
    exact ⟨.value (ρ x), φ, w, rfl, ⟨_, .inl rfl, hρ x⟩, Up.refl _, hR⟩
  case pick c a b =>
    split at ho
    · rename_i t ht
      simp only [Option.some.injEq, Prod.mk.injEq] at ho
      obtain ⟨rfl, rfl⟩ := ho
      have hc := hρ c
      rw [ht] at hc
      simp only [V] at hc
      refine ⟨.value (if t then ρ a else ρ b), φ, w, by simp [execOp, hc, asBool], ⟨_, .inl rfl, ?_⟩, Up.refl _, hR⟩
      cases t
      · exact hρ b
      · exact hρ a
    · cases ho
  case alloc t =>
    obtain ⟨r', φ', w', h1, h2, h3, h4⟩ := allocA_run hR ho
    exact Done.val h1 h2 h3 h4
  case box t x =>
    obtain ⟨r', φ', w', h1, h2, h3, h4⟩ := boxA_run (t := t) hR ho (hρ x)
    exact Done.val h1 h2 h3 h4
  case build t parts =>
    obtain ⟨h1, rfl⟩ := withH_some ho
    have hp := evalParts_V hρ parts.toList
    obtain ⟨r', h2, h3⟩ := buildA_run (w := w) (qs := parts.map fun (i, x) => (i, ρ x)) h1 (by simpa using hp)
    exact Done.quiet hR h2 h3
  case buildSlice t len parts =>
    have hp := evalParts_V hρ parts.toList
    obtain ⟨r', φ', w', h1, h2, h3, h4⟩ := buildSliceA_run (qs := parts.map fun (i, x) => (i, ρ x)) hR ho (by simpa using hp)
    exact Done.val h1 h2 h3 h4
  case load t a =>
    split at ho
    · rename_i l hl
      obtain ⟨h1, rfl⟩ := withH_some ho
      have ha := hρ a
      rw [hl] at ha
      obtain ⟨r', h2, h3⟩ := loadA_run hR h1 ha
      exact Done.quiet hR h2 h3
    · cases ho
  case store t a x =>
    split at ho
    · rename_i l hl
      split at ho
      · rename_i h2 hs
        simp only [Option.some.injEq, Prod.mk.injEq] at ho
        obtain ⟨rfl, rfl⟩ := ho
        have ha := hρ a
        rw [hl] at ha
        obtain ⟨w', h3, h4⟩ := storeA_run hR hs ha (hρ x)
        exact ⟨.skip, φ, w', by simp [execOp, h3], ⟨undef, .inr ⟨rfl, rfl⟩, by simp only [V]; exact ⟨#[], rfl, by simp [Vs]⟩⟩, Up.refl _, h4⟩
      · cases ho
    · cases ho
  case nilCheck x =>
    obtain ⟨h1, rfl⟩ := withH_some ho
    have hx := hρ x
    unfold nilCheckA at h1
    split at h1
    · rename_i l hl
      cases h1
      rw [hl] at hx
      have hx2 := hx
      simp only [V] at hx2
      obtain ⟨e, _, hv⟩ := hx2
      exact ⟨.value (ρ x), φ, w, by simp only [execOp, hv, Sem.run_pure], ⟨_, .inl rfl, hx⟩, Up.refl _, hR⟩
    · rename_i f a b hl
      cases h1
      rw [hl] at hx
      have hx2 := hx
      simp only [V] at hx2
      obtain ⟨y, z, hv, _⟩ := hx2
      exact ⟨.value (ρ x), φ, w, by simp only [execOp, hv, Sem.run_pure], ⟨_, .inl rfl, hx⟩, Up.refl _, hR⟩
    · rename_i t v hl
      cases h1
      rw [hl] at hx
      have hx2 := hx
      simp only [V] at hx2
      obtain ⟨y, hv, _⟩ := hx2
      exact ⟨.value (ρ x), φ, w, by simp only [execOp, hv, Sem.run_pure], ⟨_, .inl rfl, hx⟩, Up.refl _, hR⟩
    · cases h1
  case binOp op t x y yt =>
    obtain ⟨h1, rfl⟩ := withH_some ho
    obtain ⟨r', h2, h3⟩ := binA_run hR h1 (hρ x) (hρ y)
    exact Done.quiet hR h2 h3
  case unOp op t x =>
    obtain ⟨h1, rfl⟩ := withH_some ho
    obtain ⟨r', h2, h3⟩ := unA_run (P := P) (w := w) h1 (hρ x)
    exact Done.quiet hR h2 h3
  case convert src dst x =>
    obtain ⟨r', φ', w', h1, h2, h3, h4⟩ := convertA_run hR ho (hρ x)
    exact Done.val h1 h2 h3 h4
  case sliceToArrayPointer arr x =>
    obtain ⟨h1, rfl⟩ := withH_some ho
    obtain ⟨r', h2, h3⟩ := arrayAtA_run (w := w) h1 (hρ x)
    exact Done.quiet hR h2 h3
  case makeInterface t x =>
    obtain ⟨h1, rfl⟩ := withH_some ho
    obtain ⟨r', h2, h3⟩ := makeInterfaceA_run (w := w) h1 (hρ x)
    exact Done.quiet hR h2 h3
  case makeFunc fn first captured =>
    simp only [Option.some.injEq, Prod.mk.injEq] at ho
    obtain ⟨rfl, rfl⟩ := ho
    refine Done.quiet hR (v' := .func fn (first.map ρ) (captured.map ρ)) rfl ?_
    simp only [V]
    exact ⟨_, _, rfl, by simpa using evals_V hρ first.toList, by simpa using evals_V hρ captured.toList⟩
  case makeSlice t l c =>
    obtain ⟨r', φ', w', h1, h2, h3, h4⟩ := makeSliceA_run hR ho (hρ l) (hρ c)
    exact Done.val h1 h2 h3 h4
  case makeChan t n =>
    obtain ⟨r', φ', w', h1, h2, h3, h4⟩ := makeChanA_run hR ho (hρ n)
    exact Done.val h1 h2 h3 h4
  case slice t x lo hi mx =>
    obtain ⟨h1, rfl⟩ := withH_some ho
    obtain ⟨r', h2, h3⟩ := sliceA_run (w := w) h1 (hρ x) (evalO_V hρ lo) (evalO_V hρ hi) (evalO_V hρ mx)
    exact Done.quiet hR h2 h3
  case fieldAddr s x f =>
    obtain ⟨h1, rfl⟩ := withH_some ho
    obtain ⟨r', h2, h3⟩ := fieldAddrA_run (w := w) h1 (hρ x)
    exact Done.quiet hR h2 h3
  case field t x f =>
    obtain ⟨h1, rfl⟩ := withH_some ho
    obtain ⟨r', h2, h3⟩ := fieldA_run (w := w) h1 (hρ x)
    exact Done.quiet hR h2 h3
  case indexAddr t x i =>
    obtain ⟨h1, rfl⟩ := withH_some ho
    obtain ⟨r', h2, h3⟩ := indexAddrA_run (w := w) h1 (hρ x) (hρ i)
    exact Done.quiet hR h2 h3
  case index t x i =>
    obtain ⟨h1, rfl⟩ := withH_some ho
    obtain ⟨r', h2, h3⟩ := indexA_run (w := w) h1 (hρ x) (hρ i)
    exact Done.quiet hR h2 h3
  case typeAssert x xt asserted ok =>
    obtain ⟨h1, rfl⟩ := withH_some ho
    obtain ⟨r', h2, h3⟩ := typeAssertA_run (w := w) (xt := xt) h1 (hρ x)
    exact Done.quiet hR h2 h3
  case extract x i =>
    obtain ⟨h1, rfl⟩ := withH_some ho
    obtain ⟨r', h2, h3⟩ := extractA_run (P := P) (w := w) h1 (hρ x)
    exact Done.quiet hR h2 h3
  case call c =>
    obtain ⟨callee, args, argTypes⟩ := c
    cases callee with
    | builtin b =>
      simp only at ho
      have hv := evals_V hρ args.toList
      rw [execOp_bi]
      exact builtinA_run hR ho (by simpa using hv)
    | value f => cases ho
    | invoke r m => cases ho
end Go.Am
