/- The abstract machine's operators say what the model's do. -/
import Derived.Test.YteoekjfgihnhaaaGreatDoorHmGRF4
import Derived.Laws.Strings
set_option linter.all false
noncomputable section
namespace Go.Am
open Go.RowKit

theorem bytes_beq (a b : List UInt8) : ((⟨a.toArray⟩ : ByteArray) == ⟨b.toArray⟩) = (a == b) := by
  show (a.toArray == b.toArray) = _
  simp

theorem intA_run {P : Program} {w : World} {op : BinOp} {k : IntKind} {a b : Int} {r : AV} (h : intA op k a b = some r) (t : TypeId) (h1 : op ≠ .shl) (h2 : op ≠ .shr) :
    ∃ v, (binOp op t (.int k a) (.int k b)).run P w = .ok v w ∧ ∀ φ, V φ r v := by
  cases op <;> simp only [intA, Option.some.injEq] at h <;> first
    | (exact absurd rfl h1)
    | (exact absurd rfl h2)
    | (subst h; refine ⟨_, ?_, fun φ => by simp only [V]; rfl⟩; simp [binOp, Op.intArith, Op.intBits, Op.intCmp]; done)
    | skip
  all_goals
    split at h
    · cases h
    · rename_i hb
      cases h
      refine ⟨_, ?_, fun φ => by simp only [V]; rfl⟩
      simp [binOp, Op.intDiv, hb]

theorem shiftA_run {P : Program} {w : World} {op : BinOp} {k k' : IntKind} {a b : Int} {r : AV} (h : shiftA op k a b = some r) (t : TypeId) :
    ∃ v, (binOp op t (.int k a) (.int k' b)).run P w = .ok v w ∧ ∀ φ, V φ r v := by
  unfold shiftA at h
  split at h
  · cases h
  · rename_i hb
    cases op <;> simp only [Option.some.injEq, reduceCtorEq] at h
    all_goals
      subst h
      refine ⟨_, ?_, fun φ => by simp only [V]; rfl⟩
      simp [binOp, Op.shift, hb]

theorem strA_run {P : Program} {w : World} {op : BinOp} {a b : List UInt8} {r : AV} (h : strA op a b = some r) (t : TypeId) :
    ∃ v, (binOp op t (.string ⟨a.toArray⟩) (.string ⟨b.toArray⟩)).run P w = .ok v w ∧ ∀ φ, V φ r v := by
  cases op <;> simp only [strA, Option.some.injEq, reduceCtorEq] at h <;> first
    | (subst h; refine ⟨_, ?_, fun φ => by simp only [V]; rfl⟩; simp [binOp, Op.stringOp]; done)
    | skip
  split at h
  · cases h
  · rename_i hb
    cases h
    refine ⟨.string ⟨(a ++ b).toArray⟩, ?_, fun φ => by simp only [V]⟩
    have e : (⟨a.toArray⟩ : ByteArray) ++ ⟨b.toArray⟩ = ⟨(a ++ b).toArray⟩ := by
      apply ByteArray.ext
      simp
    have hb' : ¬ ((((⟨a.toArray⟩ : ByteArray).size + (⟨b.toArray⟩ : ByteArray).size : Nat) : Int) > IntKind.i64.max) := by simpa [ByteArray.size] using hb
    simp only [binOp, Op.stringOp, if_neg hb', e, Sem.run_pure]

theorem own_cells {P : Program} {φ : List Emb} {h : Heap} {w0 w : World} (hR : R P φ h w0 w) {l : Loc} (hl : livePtr h l = true) :
    ∃ e cs C t o k, φ[l.id]? = some e ∧ h.get l.id = some (.cells cs k) ∧ w.heap[e.blk]? = some (.cells C t (0, 0)) ∧ o = Obj.cells cs k ∧ o.isOwn = true := by
  unfold livePtr at hl
  split at hl
  · rename_i cs k hg
    obtain ⟨e, he, ⟨C, t, fr, h1, h2, h3, h4, _⟩, _⟩ := hR.objs _ _ hg
    have := (h4.1 k rfl).1
    subst this
    exact ⟨e, cs, C, t, _, _, he, hg, h1, rfl, rfl⟩
  · rename_i cs k hg
    obtain ⟨e, he, ⟨C, t, fr, h1, h2, h3, h4, _⟩, _⟩ := hR.objs _ _ hg
    have := (h4.2 k rfl).1
    subst this
    exact ⟨e, cs, C, t, _, _, he, hg, h1, rfl, rfl⟩
  · cases hl

theorem run_sameAddr {P : Program} {w : World} {a b : Addr} {C D : Array Value} {t u : TypeId} (ha : w.heap[a.block]? = some (.cells C t (0, 0))) (hb : w.heap[b.block]? = some (.cells D u (0, 0))) :
    (sameAddr a b).run P w = .ok (if a.block = b.block then a == b else false) w := by
  by_cases hab : a.block = b.block
  · simp [sameAddr, hab]
  · simp [sameAddr, hab, noView, viewAt, mayBeOne, stringish, World.frozen?, World.shape?, ha, hb]

set_option maxHeartbeats 4000000 in
theorem eqA_run {P : Program} {φ : List Emb} {h : Heap} {w0 w : World} (hR : R P φ h w0 w) {t : TypeId} {x y : AV} {b : Bool} (he : eqA P h t x y = some b) {x' y' : Value} (hx : V φ x x') (hy : V φ y y') :
    (Op.equal t x' y').run P w = .ok b w := by
  have hd : Op.maxDepth = 9999 + 1 := rfl
  unfold Op.equal
  rw [hd]
  unfold Op.equalIn
  unfold eqA at he
  split at he
  case h_1 hu => simp only [V] at hx hy; subst hx hy; cases he; simp [run_underlying hu]
  case h_2 hu =>
    simp only [V] at hx hy; subst hx hy
    split at he
    · rename_i hk; cases he; simp [run_underlying hu, hk]
    · cases he
  case h_3 hu =>
    simp only [V] at hx hy; subst hx hy; cases he
    simp only [Sem.run_bind, run_underlying hu, Result.andThen_ok, Sem.run_pure]
    congr 1
    exact bytes_beq _ _
  case h_4 hu =>
    rename_i c
    simp only [V] at hx; subst hx; cases he
    cases c with
    | none => simp only [V] at hy; subst hy; simp [run_underlying hu]
    | some l => simp only [V] at hy; obtain ⟨e, _, rfl⟩ := hy; simp [run_underlying hu]
  case h_5 hu =>
    rename_i c hne
    simp only [V] at hy; subst hy; cases he
    cases c with
    | none => simp at hne
    | some l => simp only [V] at hx; obtain ⟨e, _, rfl⟩ := hx; simp [run_underlying hu]
  case h_6 hu =>
    rename_i a b'
    split at he
    · rename_i sz hsz
      split at he
      · rename_i hlive
        rw [Bool.and_eq_true] at hlive
        cases he
        obtain ⟨ea, ca, Ca, ta, oa, ka, ha, hga, hwa, hoa⟩ := own_cells hR hlive.1
        obtain ⟨eb, cb, Cb, tb, ob, kb, hb, hgb, hwb, hob⟩ := own_cells hR hlive.2
        simp only [V] at hx hy
        obtain ⟨e1, h1, rfl⟩ := hx
        obtain ⟨e2, h2, rfl⟩ := hy
        rw [ha] at h1; cases h1
        rw [hb] at h2; cases h2
        have hs := run_sameAddr (P := P) (w := w) (a := ⟨ea.blk, ea.off + a.off, none⟩) (b := ⟨eb.blk, eb.off + b'.off, none⟩) hwa hwb
        have hne : sz.succ ≠ 0 := by omega
        simp only [Sem.run_bind, run_underlying hu, Result.andThen_ok, run_sizeA hsz]
        rw [if_pos hne, hs]
        congr 1
        by_cases hid : a.id = b'.id
        · rw [hid] at ha
          rw [ha] at hb
          cases hb
          simp only [if_true, beq1, hid, decide_true, Bool.true_and]
          rw [Bool.eq_iff_iff]
          simp
        · have := hR.sep a.id b'.id _ _ ea eb hid hga hgb ha hb (by rw [← hoa.1]; exact hoa.2)
          simp [this, beq1, hid]
      · cases he
    · cases he
  case h_7 hu => simp only [V] at hx hy; subst hx hy; cases he; simp [run_underlying hu]
  case h_8 hu => simp only [V] at hx hy; obtain ⟨_, rfl, _⟩ := hy; subst hx; cases he; simp [run_underlying hu]
  case h_9 hu => simp only [V] at hx hy; obtain ⟨_, rfl, _⟩ := hx; subst hy; cases he; simp [run_underlying hu]
  case h_10 hu =>
    rename_i t1 a t2 b'
    simp only [V] at hx hy
    obtain ⟨_, rfl, e1, h1, rfl⟩ := hx
    obtain ⟨_, rfl, e2, h2, rfl⟩ := hy
    unfold samePtrA at he
    split at he
    · rename_i e i hu1 hi
      split at he
      · rename_i sz hsz
        cases hc : (i.comparable && Nat.beq t1 t2 && Nat.beq a.id b'.id && Nat.beq a.off b'.off) with
        | false => rw [hc] at he; cases he
        | true =>
          rw [hc, cond_true] at he
          cases he
          simp only [Bool.and_eq_true] at hc
          obtain ⟨⟨⟨c1, c2⟩, c3⟩, c4⟩ := hc
          have c2 := Nat.eq_of_beq_eq_true c2
          have c3 := Nat.eq_of_beq_eq_true c3
          have c4 := Nat.eq_of_beq_eq_true c4
          subst c2
          rw [c3] at h1
          rw [h2] at h1
          cases h1
          have hne : sz.succ ≠ 0 := by omega
          simp only [Sem.run_bind, run_underlying hu, Result.andThen_ok, ne_eq, not_true_eq_false, if_false, typeInfo, run_program, hi, Sem.run_pure, c1, Bool.not_true, Bool.false_eq_true]
          unfold Op.equalIn
          simp only [Sem.run_bind, run_underlying hu1, Result.andThen_ok, run_sizeA hsz]
          rw [if_pos hne]
          simp [sameAddr, c4]
      · cases he
    · cases he
  case h_11 hu =>
    rename_i c _ _
    simp only [V] at hx; obtain ⟨_, rfl, _⟩ := hx; cases he
    cases c with
    | none => simp only [V] at hy; obtain ⟨_, rfl, _⟩ := hy; simp [run_underlying hu]
    | some l => simp only [V] at hy; obtain ⟨e, _, _, _, rfl, _⟩ := hy; simp [run_underlying hu]
  case h_12 hu =>
    rename_i c _ _ _ _ hne
    simp only [V] at hy; obtain ⟨_, rfl, _⟩ := hy; cases he
    cases c with
    | none => simp at hne
    | some l => simp only [V] at hx; obtain ⟨e, _, _, _, rfl, _⟩ := hx; simp [run_underlying hu]
  case h_13 hu =>
    rename_i c
    simp only [V] at hx; subst hx; cases he
    cases c with
    | none => simp only [V] at hy; subst hy; simp [run_underlying hu]
    | some l => simp only [V] at hy; obtain ⟨e, _, rfl⟩ := hy; simp [run_underlying hu]
  case h_14 hu =>
    rename_i c hne
    simp only [V] at hy; subst hy; cases he
    cases c with
    | none => simp at hne
    | some l => simp only [V] at hx; obtain ⟨e, _, rfl⟩ := hx; simp [run_underlying hu]
  case h_15 hu => simp only [V] at hx hy; subst hx hy; cases he; simp [run_underlying hu]
  case h_16 hu => simp only [V] at hx hy; obtain ⟨_, _, rfl, _⟩ := hy; subst hx; cases he; simp [run_underlying hu]
  case h_17 hu => simp only [V] at hx hy; obtain ⟨_, _, rfl, _⟩ := hx; subst hy; cases he; simp [run_underlying hu]
  case h_18 => cases he
end Go.Am
