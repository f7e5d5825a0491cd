/- Regions that draw their order: the theorem. -/
import Derived.Test.YtnllflgijnloiaaAmDraw
namespace Go.Am
open Go.RowKit

/-! ### What the static look says -/

theorem allFrom_at {p : Nat → Oper → Bool} : ∀ {l : List Oper} {k : Nat}, allFrom p l k = true → ∀ (i : Nat) (o : Oper), l[i]? = some o → p (k + i) o = true
  | [], _, _, i, o, h => by simp at h
  | x :: xs, k, h, i, o, ho => by
    simp only [allFrom, Bool.and_eq_true] at h
    cases i with
    | zero => simp at ho; subst ho; exact h.1
    | succ i =>
      simp at ho
      have := allFrom_at h.2 i o ho
      rwa [show k + 1 + i = k + (i + 1) by omega] at this

theorem masks_length : ∀ (os : List Oper) (acc : List Nat), (masks os acc).length = acc.length + os.length
  | [], acc => by simp [masks]
  | o :: os, acc => by simp [masks, masks_length os]; omega
theorem masks_prefix : ∀ (os : List Oper) (acc : List Nat) (i : Nat), i < acc.length → (masks os acc).getD i 0 = acc.getD i 0
  | [], acc, i, _ => rfl
  | o :: os, acc, i, hi => by
    simp only [masks]
    rw [masks_prefix os _ i (by simp; omega)]
    simp [List.getD, List.getElem?_append, hi]
theorem masks_at : ∀ (os : List Oper) (acc : List Nat) (i : Nat) (o : Oper), os[i]? = some o → ∃ pre : List Nat, pre.length = acc.length + i ∧ (masks os acc).getD (acc.length + i) 0 = maskOf pre o.after.toList ∧ ∀ k, k < pre.length → pre.getD k 0 = (masks os acc).getD k 0
  | [], acc, i, o, h => by simp at h
  | x :: os, acc, i, o, h => by
    cases i with
    | zero =>
      simp at h
      subst h
      refine ⟨acc, rfl, ?_, fun k hk => ?_⟩
      · simp only [masks, Nat.add_zero]
        rw [masks_prefix os _ acc.length (by simp)]
        simp [List.getD]
      · simp only [masks]
        rw [masks_prefix os _ k (by simp; omega)]
        simp [List.getD, List.getElem?_append, hk]
    | succ i =>
      simp at h
      obtain ⟨pre, h1, h2, h3⟩ := masks_at os (acc ++ [maskOf acc x.after.toList]) i o h
      simp only [List.length_append, List.length_singleton] at h1 h2
      refine ⟨pre, by omega, ?_, fun k hk => by simpa [masks] using h3 k hk⟩
      simp only [masks]
      rw [show acc.length + (i + 1) = acc.length + 1 + i by omega]
      exact h2

theorem maskOf_bit {bs : List Nat} {j : Nat} : ∀ {es : List Edge}, Nat.testBit (maskOf bs es) j = true → ∃ e ∈ es, bindsA e = true ∧ (e.on = j ∨ Nat.testBit (bs.getD e.on 0) j = true)
  | [], h => by simp [maskOf] at h
  | e :: es, h => by
    simp only [maskOf] at h
    cases hb : bindsA e with
    | false =>
      simp only [hb, cond_false] at h
      obtain ⟨e', h1, h2⟩ := maskOf_bit h
      exact ⟨e', by simp [h1], h2⟩
    | true =>
      simp only [hb, cond_true, Nat.testBit_or, Bool.or_eq_true] at h
      rcases h with (h | h) | h
      · rw [Nat.one_shiftLeft, Nat.testBit_two_pow, decide_eq_true_eq] at h
        exact ⟨e, by simp, hb, .inl h⟩
      · exact ⟨e, by simp, hb, .inr h⟩
      · obtain ⟨e', h1, h2⟩ := maskOf_bit h
        exact ⟨e', by simp [h1], h2⟩

structure Static (P : Program) (ops : Array Oper) (bs : List Nat) : Prop where
  edge : ∀ (j : Nat) (y : Oper), ops[j]? = some y → ∀ e ∈ y.after.toList, bindsA e = true → e.on < j
  dst : ∀ (i j : Nat) (x y : Oper) (t : Tmp), i < j → ops[i]? = some x → ops[j]? = some y → x.dst = some t → y.dst ≠ some t
  pair : ∀ (i j : Nat) (x y : Oper), i < j → ops[i]? = some x → ops[j]? = some y → Nat.testBit (bs.getD j 0) i = true ∨
    ((loudA P x.op = false ∨ loudA P y.op = false) ∧ (∀ t, x.dst = some t → t ∉ usesA ops y) ∧ (∀ t, y.dst = some t → t ∉ usesA ops x))

theorem static_of {P : Program} {ops : Array Oper} {bs : List Nat} (h : drawStatic P ops bs = true) : Static P ops bs := by
  have hj : ∀ (j : Nat) (y : Oper), ops[j]? = some y → _ := fun j y hy => allFrom_at h j y (by rw [Array.getElem?_toList]; exact hy)
  refine ⟨?_, ?_, ?_⟩
  · intro j y hy e he hb
    have := hj j y hy
    rw [Bool.and_eq_true, List.all_eq_true] at this
    have h1 := this.1 e he
    rw [hb] at h1
    have := (blt_iff _ _).1 (by simpa using h1)
    omega
  · intro i j x y t hij hx hy hxt hyt
    have := hj j y hy
    rw [Bool.and_eq_true] at this
    have h2 := allFrom_at this.2 i x (by rw [Array.getElem?_toList]; exact hx)
    rw [Nat.zero_add, Nat.zero_add, (blt_iff i j).2 hij] at h2
    simp only [Bool.not_true, Bool.false_or, Bool.and_eq_true, dstOk, hxt, hyt] at h2
    have := h2.1
    simp at this
  · intro i j x y hij hx hy
    have := hj j y hy
    rw [Bool.and_eq_true] at this
    have h2 := allFrom_at this.2 i x (by rw [Array.getElem?_toList]; exact hx)
    rw [Nat.zero_add, Nat.zero_add, (blt_iff i j).2 hij] at h2
    simp only [Bool.not_true, Bool.false_or, Bool.and_eq_true] at h2
    have h3 := h2.2
    unfold pairOk at h3
    rw [Bool.or_eq_true] at h3
    rcases h3 with h3 | h3
    · exact .inl h3
    · right
      simp only [Bool.and_eq_true] at h3
      obtain ⟨⟨h4, h5⟩, h6⟩ := h3
      refine ⟨?_, ?_, ?_⟩
      · cases hlx : loudA P x.op with
        | false => exact .inl rfl
        | true => cases hly : loudA P y.op with
          | false => exact .inr rfl
          | true => rw [hlx, hly] at h4; simp at h4
      · intro t ht
        rw [ht] at h5
        simpa using h5
      · intro t ht
        rw [ht] at h6
        simpa using h6

theorem mem_louds {P : Program} : ∀ (os : List Oper) (k q : Nat), q ∈ louds P os k ↔ (q = k + os.length ∨ ∃ o, k ≤ q ∧ os[q - k]? = some o ∧ loudA P o.op = true)
  | [], k, q => by simp [louds]
  | o :: os, k, q => by
    have ih := mem_louds (P := P) os (k + 1) q
    have shift : (∃ o', k + 1 ≤ q ∧ os[q - (k + 1)]? = some o' ∧ loudA P o'.op = true) ↔ (∃ o', k + 1 ≤ q ∧ (o :: os)[q - k]? = some o' ∧ loudA P o'.op = true) := by
      constructor <;> rintro ⟨o', h1, h2, h3⟩ <;> refine ⟨o', h1, ?_, h3⟩
      · rw [show q - k = (q - (k + 1)) + 1 by omega]; simpa using h2
      · rw [show q - k = (q - (k + 1)) + 1 by omega] at h2; simpa using h2
    have len : q = k + 1 + os.length ↔ q = k + (o :: os).length := by simp; omega
    simp only [louds]
    cases hl : loudA P o.op with
    | true =>
      simp only [cond_true, List.mem_cons]
      rw [ih, len, shift]
      constructor
      · rintro (h | h | ⟨o', h1, h2, h3⟩)
        · exact .inr ⟨o, by omega, by rw [h, Nat.sub_self]; rfl, hl⟩
        · exact .inl h
        · exact .inr ⟨o', by omega, h2, h3⟩
      · rintro (h | ⟨o', h1, h2, h3⟩)
        · exact .inr (.inl h)
        · by_cases hq : q = k
          · exact .inl hq
          · exact .inr (.inr ⟨o', by omega, h2, h3⟩)
    | false =>
      simp only [cond_false]
      rw [ih, len, shift]
      constructor
      · rintro (h | ⟨o', h1, h2, h3⟩)
        · exact .inl h
        · exact .inr ⟨o', by omega, h2, h3⟩
      · rintro (h | ⟨o', h1, h2, h3⟩)
        · exact .inl h
        · by_cases hq : q = k
          · subst hq
            rw [Nat.sub_self] at h2
            simp at h2
            subst h2
            rw [hl] at h3
            cases h3
          · exact .inr ⟨o', by omega, h2, h3⟩

theorem mayAt_iff {bs : List Nat} {i p : Nat} : ∀ {ls : List Nat}, mayAt bs i p ls = true ↔ (Nat.testBit (bs.getD i 0) p = false ∧ ∀ q ∈ ls, q < p → Nat.testBit (bs.getD q 0) i = false)
  | [] => by simp [mayAt]
  | q :: qs => by
    simp only [mayAt, Bool.and_eq_true]
    rw [mayAt_iff (ls := qs)]
    constructor
    · rintro ⟨h1, h2, h3⟩
      refine ⟨h2, fun r hr hlt => ?_⟩
      rcases List.mem_cons.1 hr with rfl | hr
      · rw [(blt_iff _ _).2 hlt] at h1; simpa using h1
      · exact h3 r hr hlt
    · rintro ⟨h1, h2⟩
      refine ⟨?_, h1, fun r hr => h2 r (List.mem_cons_of_mem _ hr)⟩
      cases hb : Nat.blt q p with
      | false => rfl
      | true => simpa using h2 q (List.mem_cons_self ..) ((blt_iff _ _).1 hb)

/-! ### The text's run -/

def TrStep (call : CallF) (P : Program) (ops : Array Oper) (o : Oper) (x y : TR) : Prop :=
  (x.on = true ∧ wantedA ops x.env o = some true ∧ opA call P x.env x.heap o.op = some (.ret x.val y.heap) ∧ y.env = putA x.env o.dst x.val) ∨
  (x.on = false ∧ wantedA ops x.env o = some false ∧ x.val = .tuple [] ∧ y.heap = x.heap ∧ y.env = putA x.env o.dst (.tuple []))

theorem trace_of {call : CallF} {P : Program} {ops : Array Oper} : ∀ {rest : List Oper} {e : List AV} {h : Heap} {e' : List AV} {h' : Heap}, opsA call P ops rest e h = some (.normal, e', h') →
    ∃ tr, traceA call P ops rest e h = some tr ∧ (∃ x, tr[0]? = some x ∧ x.env = e ∧ x.heap = h) ∧ (∃ z, tr[rest.length]? = some z ∧ z.env = e' ∧ z.heap = h') ∧
      ∀ (i : Nat) (o : Oper), rest[i]? = some o → ∃ x y, tr[i]? = some x ∧ tr[i + 1]? = some y ∧ TrStep call P ops o x y
  | [], e, h, e', h', hr => by
    simp only [opsA, Option.some.injEq, Prod.mk.injEq] at hr
    obtain ⟨_, rfl, rfl⟩ := hr
    exact ⟨_, rfl, ⟨_, rfl, rfl, rfl⟩, ⟨_, rfl, rfl, rfl⟩, fun i o ho => by simp at ho⟩
  | o :: rest, e, h, e', h', hr => by
    simp only [opsA] at hr
    split at hr
    · rename_i hw
      split at hr
      · rename_i v h2 ho
        obtain ⟨tr, h3, ⟨x, hx, hxe, hxh⟩, ⟨z, hz, hze, hzh⟩, h4⟩ := trace_of hr
        refine ⟨⟨e, h, v, true⟩ :: tr, by simp only [traceA, hw, ho, h3], ⟨_, rfl, rfl, rfl⟩, ⟨z, by simpa using hz, hze, hzh⟩, ?_⟩
        intro i o' ho'
        cases i with
        | zero =>
          simp at ho'
          subst ho'
          exact ⟨⟨e, h, v, true⟩, x, rfl, by simpa using hx, .inl ⟨rfl, hw, by rw [hxh]; exact ho, hxe⟩⟩
        | succ i =>
          simp at ho'
          obtain ⟨a, b, ha, hb, hab⟩ := h4 i o' ho'
          exact ⟨a, b, by simpa using ha, by simpa using hb, hab⟩
      · cases hr
      · cases hr
    · rename_i hw
      obtain ⟨tr, h3, ⟨x, hx, hxe, hxh⟩, ⟨z, hz, hze, hzh⟩, h4⟩ := trace_of hr
      refine ⟨⟨e, h, .tuple [], false⟩ :: tr, by simp only [traceA, hw, h3], ⟨_, rfl, rfl, rfl⟩, ⟨z, by simpa using hz, hze, hzh⟩, ?_⟩
      intro i o' ho'
      cases i with
      | zero =>
        simp at ho'
        subst ho'
        exact ⟨⟨e, h, .tuple [], false⟩, x, rfl, by simpa using hx, .inr ⟨rfl, hw, rfl, hxh, hxe⟩⟩
      | succ i =>
        simp at ho'
        obtain ⟨a, b, ha, hb, hab⟩ := h4 i o' ho'
        exact ⟨a, b, by simpa using ha, by simpa using hb, hab⟩
    · cases hr

/-- The text's run, by place. -/
structure TextRun (call : CallF) (P : Program) (ops : Array Oper) (bs : List Nat) (e : List AV) (h : Heap) (e' : List AV) (h' : Heap) (X : Nat → TR) : Prop where
  first : (X 0).env = e ∧ (X 0).heap = h
  last : (X ops.size).env = e' ∧ (X ops.size).heap = h'
  step : ∀ (i : Nat) (o : Oper), ops[i]? = some o → TrStep call P ops o (X i) (X (i + 1))
  /-- A reading may be done wherever it may come to be done. -/
  same : ∀ (i : Nat) (o : Oper), ops[i]? = some o → (X i).on = true → readsA P o.op = true → loudA P o.op = false → ∀ p ∈ louds P ops.toList 0, mayAt bs i p (louds P ops.toList 0) = true →
    aop P (X i).env (X p).heap o.op = some ((X i).val, (X p).heap)

theorem sameAt_at {P : Program} {bs ls : List Nat} {full : List TR} {i : Nat} {o : Oper} {x : TR} : ∀ {ps : List Nat}, sameAt P bs ls full i o x ps = true → ∀ p ∈ ps, mayAt bs i p ls = true → ∃ y v k, full[p]? = some y ∧ aop P x.env y.heap o.op = some (v, k) ∧ v = x.val
  | [], _, p, hp, _ => by simp at hp
  | q :: qs, h, p, hp, hm => by
    simp only [sameAt, Bool.and_eq_true] at h
    rcases List.mem_cons.1 hp with rfl | hp
    · have h1 := h.1
      rw [hm] at h1
      simp only [cond_true] at h1
      split at h1
      · rename_i y hy
        split at h1
        · rename_i v k ha
          exact ⟨y, v, k, hy, ha, beqV_eq _ _ h1⟩
        · cases h1
      · cases h1
    · exact sameAt_at h.2 p hp hm

theorem dynAll_at {P : Program} {bs ls : List Nat} {full : List TR} : ∀ {os : List Oper} {xs : List TR} {k : Nat}, dynAll P bs ls full os xs k = true → ∀ (i : Nat) (o : Oper) (x : TR), os[i]? = some o → xs[i]? = some x → x.on = true → readsA P o.op = true → loudA P o.op = false → sameAt P bs ls full (k + i) o x ls = true
  | [], _, _, _, i, o, x, ho, _, _, _, _ => by simp at ho
  | _ :: _, [], _, _, i, o, x, _, hx, _, _, _ => by simp at hx
  | o0 :: os, x0 :: xs, k, h, i, o, x, ho, hx, hon, hr, hl => by
    simp only [dynAll, Bool.and_eq_true] at h
    cases i with
    | zero =>
      simp at ho hx
      subst ho hx
      have := h.1
      simpa [hon, hr, hl] using this
    | succ i =>
      simp at ho hx
      have := dynAll_at h.2 i o x ho hx hon hr hl
      rwa [show k + 1 + i = k + (i + 1) by omega] at this

theorem only_at {bs ls : List Nat} {i : Nat} : ∀ {ps : List Nat}, only bs ls i ps = true → ∀ p ∈ ps, mayAt bs i p ls = true → i < p ∧ ∀ q ∈ ls, ¬ (i < q ∧ q < p)
  | [], _, p, hp, _ => by simp at hp
  | q :: qs, h, p, hp, hm => by
    simp only [only, Bool.and_eq_true] at h
    rcases List.mem_cons.1 hp with rfl | hp
    · have h1 := h.1
      rw [hm] at h1
      simp only [Bool.not_true, Bool.false_or, Bool.and_eq_true, List.all_eq_true] at h1
      refine ⟨(blt_iff _ _).1 h1.1, fun r hr ⟨h3, h4⟩ => ?_⟩
      have := h1.2 r hr
      rw [(blt_iff _ _).2 h3, (blt_iff _ _).2 h4] at this
      simp at this
    · exact only_at h.2 p hp hm
theorem needNot_at {P : Program} {bs ls : List Nat} : ∀ {os : List Oper} {k : Nat}, needNot P bs ls os k = true → ∀ (i : Nat) (o : Oper), os[i]? = some o → readsA P o.op = true → loudA P o.op = false → only bs ls (k + i) ls = true
  | [], _, _, i, o, ho, _, _ => by simp at ho
  | o0 :: os, k, h, i, o, ho, hr, hl => by
    simp only [needNot, Bool.and_eq_true] at h
    cases i with
    | zero =>
      simp at ho
      subst ho
      have := h.1
      simpa [hr, hl] using this
    | succ i =>
      simp at ho
      have := needNot_at h.2 i o ho hr hl
      rwa [show k + 1 + i = k + (i + 1) by omega] at this

/-- Between two loud operations memory stands. -/
theorem quiet_between {call : CallF} {P : Program} {ops : Array Oper} {X : Nat → TR} (step : ∀ (i : Nat) (o : Oper), ops[i]? = some o → TrStep call P ops o (X i) (X (i + 1))) {i : Nat} : ∀ (k : Nat), i ≤ k → k ≤ ops.size → (∀ q, q ∈ louds P ops.toList 0 → ¬ (i ≤ q ∧ q < k)) → (X k).heap = (X i).heap := by
  intro k
  induction k with
  | zero => intro h1 h2 h3; rw [show i = 0 by omega]
  | succ k ih =>
    intro h1 h2 h3
    by_cases hik : i = k + 1
    · rw [hik]
    · have := ih (by omega) (by omega) (fun q hq hh => h3 q hq ⟨hh.1, by omega⟩)
      rw [← this]
      have hk : k < ops.size := by omega
      have ho : ops[k]? = some ops[k] := Array.getElem?_eq_getElem hk
      have hq : loudA P ops[k].op = false := by
        cases hl : loudA P ops[k].op with
        | false => rfl
        | true =>
          refine absurd ⟨by omega, by omega⟩ (h3 k ?_)
          rw [mem_louds]
          exact .inr ⟨ops[k], by omega, by simp, hl⟩
      rcases step k _ ho with ⟨h4, h5, h6, h7⟩ | ⟨h4, h5, h6, h7, h8⟩
      · obtain ⟨v, h8, h9⟩ := quiet_same hq h6
        simp only [CRes.ret.injEq] at h8
        exact h8.2
      · exact h7

theorem textRun_of {call : CallF} {P : Program} {ops : Array Oper} {e : List AV} {h : Heap} {e' : List AV} {h' : Heap} (hr : opsA call P ops ops.toList e h = some (.normal, e', h'))
    (hd : (needNot P (masks ops.toList []) (louds P ops.toList 0) ops.toList 0 || dynOk call P ops e h) = true) : ∃ X, TextRun call P ops (masks ops.toList []) e h e' h' X := by
  obtain ⟨tr, h1, ⟨x, hx, hxe, hxh⟩, ⟨z, hz, hze, hzh⟩, h2⟩ := trace_of hr
  let X : Nat → TR := fun i => tr.getD i ⟨[], h, .unk, false⟩
  have hX : ∀ i y, tr[i]? = some y → X i = y := fun i y hy => by simp [X, List.getD, hy]
  have step : ∀ (i : Nat) (o : Oper), ops[i]? = some o → TrStep call P ops o (X i) (X (i + 1)) := fun i o ho => by
    obtain ⟨a, b, ha, hb, hab⟩ := h2 i o (by rw [Array.getElem?_toList]; exact ho)
    rw [hX i a ha, hX (i + 1) b hb]
    exact hab
  refine ⟨X, ⟨by rw [hX 0 x hx]; exact ⟨hxe, hxh⟩, by rw [hX ops.size z (by simpa using hz)]; exact ⟨hze, hzh⟩, step, ?_⟩⟩
  intro i o ho hon hrd hl p hp hm
  have hil : i < ops.size := (Array.getElem?_eq_some_iff.1 ho).1
  have hps : p ≤ ops.size := by
    rw [mem_louds] at hp
    rcases hp with hp | ⟨o', _, ho', _⟩
    · simp at hp; omega
    · have := (List.getElem?_eq_some_iff.1 ho').1
      simp at this
      omega
  have text : opA call P (X i).env (X i).heap o.op = some (.ret (X i).val (X (i + 1)).heap) := by
    rcases step i o ho with ⟨_, _, h6, _⟩ | ⟨h6, _⟩
    · exact h6
    · rw [hon] at h6; cases h6
  obtain ⟨v, hv, ha⟩ := quiet_same hl text
  simp only [CRes.ret.injEq] at hv
  rw [← hv.1] at ha
  rw [Bool.or_eq_true] at hd
  rcases hd with hd | hd
  · have h3 := needNot_at hd i o (by rw [Array.getElem?_toList]; exact ho) hrd hl
    rw [Nat.zero_add] at h3
    obtain ⟨h4, h5⟩ := only_at h3 p hp hm
    have : (X p).heap = (X i).heap := by
      refine quiet_between step p (by omega) hps (fun q hq hh => ?_)
      by_cases hqi : q = i
      · subst hqi
        rw [mem_louds] at hq
        rcases hq with hq | ⟨o', _, ho', hlo⟩
        · simp at hq; omega
        · have : o' = o := by
            rw [Nat.sub_zero, Array.getElem?_toList, ho] at ho'
            cases ho'; rfl
          subst this
          rw [hl] at hlo
          cases hlo
      · exact h5 q hq ⟨by omega, hh.2⟩
    rw [this]
    exact ha
  · simp only [dynOk, h1] at hd
    obtain ⟨y, v2, k, hy, ha2, hval⟩ := sameAt_at (dynAll_at hd i o (X i) (by rw [Array.getElem?_toList]; exact ho) (by
      obtain ⟨a, b, hai, _, _⟩ := h2 i o (by rw [Array.getElem?_toList]; exact ho)
      rw [hX i a hai]; exact hai) hon hrd hl) p hp (by rw [Nat.zero_add]; exact hm)
    rw [hX p y hy]
    subst hval
    have hk : k = y.heap := by
      have : toRet (aop P (X i).env y.heap o.op) = some (.ret (X i).val k) := by rw [ha2]; rfl
      have hop : opA call P (X i).env y.heap o.op = some (.ret (X i).val k) := by
        cases hop : o.op with
        | call c =>
          rw [hop] at this hl
          obtain ⟨callee, args, ats⟩ := c
          cases callee with
          | value f => simp [loudA] at hl
          | invoke r n => simp [loudA] at hl
          | builtin b =>
            simp only [opA]
            have hb : b ≠ .panic := by rintro rfl; simp [loudA] at hl
            unfold biA
            split
            · exact absurd rfl hb
            · exact this
        | panic x => rw [hop] at hl; simp [loudA] at hl
        | _ => rw [hop] at this; exact this
      obtain ⟨v3, h7, _⟩ := quiet_same hl hop
      simp only [CRes.ret.injEq] at h7
      exact h7.2
    rw [← hk] at ha2 ⊢
    exact ha2
end Go.Am
