/- Parts of the proof by the abstract machine: ExF, ExG, ExL, ExC. -/
import Derived.Test.YteoekjfgihnhaaaGreatDoorHmGRB22
set_option linter.all false
noncomputable section
namespace Go.Am
open Go.RowKit

section
variable {P : Program} {c : CallF} {ops : Array Oper}

def Exec1 (c : CallF) (P : Program) (ops : Array Oper) (o : Oper) (e : List AV) (h : Heap) (v : AV) (h' : Heap) : Prop :=
  (wantedA ops e o = some true ∧ opA c P e h o.op = some (.ret v h')) ∨ (wantedA ops e o = some false ∧ v = .tuple [] ∧ h' = h)
def chk1 (P : Program) (ops : Array Oper) (o : Oper) (e : List AV) (h : Heap) : Prop :=
  (wantedA ops e o = some true ∧ ∃ d h', o.dst = some d ∧ aop P e h o.op = some (nth e d, h')) ∨ wantedA ops e o = some false
/-- One operation. -/
def stepO (c : CallF) (P : Program) (ops : Array Oper) (K : List AV → Heap → Prop) (e : List AV) (h : Heap) : Option Oper → Prop
  | some o => ∃ v h', Exec1 c P ops o e h v h' ∧ K (putA e o.dst v) h'
  | none => False
def TP (c : CallF) (P : Program) (ops : Array Oper) : Plan → List AV → Heap → (List AV → Heap → Prop) → Prop
  | .done, e, h, K => K e h
  | .quiet i p, e, h, K => stepO c P ops (fun e' h' => TP c P ops p e' h' K) e h ops[i]?
  | .alt i cs p q, e, h, K => stepO c P ops (fun e' h' => (∀ s ∈ cs, ∀ y, ops[s]? = some y → chk1 P ops y e' h') ∧ TP c P ops p e' h' K) e h ops[i]? ∧ TP c P ops q e h K
  | .stop, _, _, _ => True

theorem stepO.mono {K K' : List AV → Heap → Prop} (hk : ∀ e h, K e h → K' e h) {e : List AV} {h : Heap} : ∀ {o : Option Oper}, stepO c P ops K e h o → stepO c P ops K' e h o
  | some _, ⟨v, h', h1, h2⟩ => ⟨v, h', h1, hk _ _ h2⟩
  | none, h => h.elim
theorem TP.mono {K K' : List AV → Heap → Prop} (hk : ∀ e h, K e h → K' e h) : ∀ (p : Plan) (e : List AV) (h : Heap), TP c P ops p e h K → TP c P ops p e h K'
  | .done, e, h, ht => hk _ _ ht
  | .quiet i p, e, h, ht => stepO.mono (fun e h => TP.mono hk p e h) ht
  | .alt i cs p q, e, h, ht => ⟨stepO.mono (fun e h hh => ⟨hh.1, TP.mono hk p e h hh.2⟩) ht.1, TP.mono hk q e h ht.2⟩
  | .stop, _, _, _ => trivial

structure Strict (ops : Array Oper) (bs : List Nat) : Prop where
  edge : ∀ (j : Nat) (y : Oper), ops[j]? = some y → ∀ e ∈ y.after.toList, bindsA e = true → e.on < j
  dst : ∀ (i j : Nat) (x y : Oper) (d : Tmp), i ≠ j → ops[i]? = some x → ops[j]? = some y → x.dst = some d → y.dst ≠ some d
  use : ∀ (i j : Nat) (x y : Oper) (d : Tmp), ops[i]? = some x → ops[j]? = some y → x.dst = some d → d ∈ usesA ops y → Nat.testBit (bs.getD j 0) i = true ∨ Nat.testBit (bs.getD i 0) j = true
theorem strict_of {ops : Array Oper} {bs : List Nat} (h : strictOk ops bs = true) : Strict ops bs := by
  have h1 := allFrom_at h
  have h2 : ∀ (i j : Nat) (x y : Oper), ops[i]? = some x → ops[j]? = some y → (Nat.beq i j || dstOk x y) = true ∧ ∀ d, x.dst = some d → (!(usesA ops y).contains d || Nat.testBit (bs.getD j 0) i || Nat.testBit (bs.getD i 0) j) = true := by
    intro i j x y hi hj
    have h3 := h1 j y (by rw [Array.getElem?_toList]; exact hj)
    rw [Bool.and_eq_true] at h3
    have h4 := allFrom_at h3.2 i x (by rw [Array.getElem?_toList]; exact hi)
    rw [Nat.zero_add, Nat.zero_add, Bool.and_eq_true] at h4
    refine ⟨h4.1, fun d hd => ?_⟩
    have h5 := h4.2
    rw [hd] at h5
    exact h5
  refine ⟨fun j y hj e he hb => ?_, fun i j x y d hij hi hj hx hy => ?_, fun i j x y d hi hj hx hd => ?_⟩
  · have h3 := h1 j y (by rw [Array.getElem?_toList]; exact hj)
    rw [Bool.and_eq_true, List.all_eq_true] at h3
    have h4 := h3.1 e he
    rw [hb, Nat.zero_add] at h4
    simpa using (blt_iff _ _).1 (by simpa using h4)
  · have h3 := (h2 i j x y hi hj).1
    rw [Bool.or_eq_true] at h3
    rcases h3 with h4 | h4
    · exact hij (Nat.eq_of_beq_eq_true h4)
    · simp only [dstOk, hx, hy] at h4
      simp at h4
  · have h4 := (h2 i j x y hi hj).2 d hx
    have : (usesA ops y).contains d = true := by simpa using hd
    rw [this] at h4
    simpa using h4
theorem sub_of {ops : Array Oper} {bs : List Nat} {i : Nat} {L : List Nat} (h : subOk ops bs i L = true) {j : Nat} (hj : j < ops.size) (hb : Nat.testBit (bs.getD i 0) j = true) : j ∈ L := by
  have h1 := allFrom_at h j ops[j] (by rw [Array.getElem?_toList]; exact Array.getElem?_eq_getElem hj)
  rw [Nat.zero_add, hb] at h1
  simpa using h1
theorem allFrom_of {p : Nat → Oper → Bool} : ∀ {l : List Oper} {k : Nat}, (∀ (i : Nat) (o : Oper), l[i]? = some o → p (k + i) o = true) → allFrom p l k = true
  | [], _, _ => rfl
  | o :: os, k, h => by
    simp only [allFrom, Bool.and_eq_true]
    refine ⟨by simpa using h 0 o rfl, allFrom_of fun i x hi => ?_⟩
    have := h (i + 1) x (by simpa using hi)
    rw [show k + 1 + i = k + (i + 1) by omega]; exact this
theorem sub_mk {ops : Array Oper} {bs : List Nat} {i : Nat} {L : List Nat} (h : ∀ j, Nat.testBit (bs.getD i 0) j = true → j ∈ L) : subOk ops bs i L = true := by
  refine allFrom_of fun j o _ => ?_
  rw [Nat.zero_add]
  cases hb : Nat.testBit (bs.getD i 0) j with
  | false => rfl
  | true => simpa using h j hb
theorem use_of {ops : Array Oper} {bs : List Nat} {i : Nat} {L : List Nat} (h : useOk P ops bs i L = true) {oi : Oper} (hi : ops[i]? = some oi) {d : Tmp} (hd : oi.dst = some d) {x : Nat} {y : Oper} (hx : ops[x]? = some y) (hxL : x ∈ L) (hu : d ∈ usesA ops y) :
    loudA P y.op = true ∨ ∃ l ∈ L, ∃ z, ops[l]? = some z ∧ loudA P z.op = true ∧ Nat.testBit (bs.getD l 0) x = true := by
  unfold useOk at h
  simp only [hi, Option.bind_some, hd] at h
  have h1 := allFrom_at h x y (by rw [Array.getElem?_toList]; exact hx)
  rw [Nat.zero_add] at h1
  have h2 : L.contains x = true := by simpa using hxL
  have h3 : (usesA ops y).contains d = true := by simpa using hu
  rw [h2, h3] at h1
  simp only [Bool.not_true, Bool.false_or, Bool.or_eq_true] at h1
  rcases h1 with h1 | h1
  · exact .inl h1
  · rw [List.any_eq_true] at h1
    obtain ⟨l, hl, h4⟩ := h1
    rw [Bool.and_eq_true] at h4
    right
    refine ⟨l, hl, ?_⟩
    cases hz : ops[l]? with
    | none => rw [hz] at h4; exact absurd h4.1 (by simp)
    | some z => rw [hz] at h4; exact ⟨z, rfl, h4.1, h4.2⟩

theorem uses_guard {o : Oper} {j : Nat} {b : Bool} {d : Tmp} (hg : o.guard = some (j, b)) (hd : (ops[j]?).bind (·.dst) = some d) : d ∈ usesA ops o := by
  unfold usesA
  refine List.mem_append.2 (.inr ?_)
  rw [hg]
  simp only [hd]
  simp
theorem uses_tmp {o : Oper} {t : Tmp} (h : .tmp t ∈ o.op.operands.toList) : t ∈ usesA ops o := by
  unfold usesA
  refine List.mem_append.2 (.inl ?_)
  rw [List.mem_filterMap]
  exact ⟨.tmp t, h, rfl⟩
theorem wanted_congr {o : Oper} {e e' : List AV} (h : ∀ t ∈ usesA ops o, nth e t = nth e' t) : wantedA ops e o = wantedA ops e' o := by
  unfold wantedA
  split
  · rfl
  · rename_i j b hg
    split
    · rfl
    · rename_i d hd
      rw [h d (uses_guard hg hd)]
theorem opA_uses {o : Oper} {e e' : List AV} (h : ∀ t ∈ usesA ops o, nth e t = nth e' t) (hh : Heap) : opA c P e hh o.op = opA c P e' hh o.op := by
  refine opA_congr fun x hx => ?_
  cases x with
  | tmp t => exact h t (uses_tmp hx)
  | _ => rfl
theorem Exec1.congr {o : Oper} {e e' : List AV} {h h' : Heap} {v : AV} (hx : Exec1 c P ops o e h v h') (hu : ∀ t ∈ usesA ops o, nth e t = nth e' t) : Exec1 c P ops o e' h v h' := by
  unfold Exec1
  rw [← wanted_congr hu, ← opA_uses hu]
  exact hx
theorem Exec1.heap {o : Oper} (hl : loudA P o.op = false) {e : List AV} {h h' : Heap} {v : AV} (hx : Exec1 c P ops o e h v h') : h' = h := by
  rcases hx with ⟨_, h2⟩ | ⟨_, _, rfl⟩
  · obtain ⟨u, h3, _⟩ := quiet_same hl h2
    cases h3; rfl
  · rfl
theorem Exec1.free {o : Oper} (hl : loudA P o.op = false) (hr : readsA P o.op = false) {e : List AV} {h : Heap} {v : AV} (hx : Exec1 c P ops o e h v h) (h2 : Heap) : Exec1 c P ops o e h2 v h2 := by
  rcases hx with ⟨h1, h3⟩ | ⟨h1, h3, _⟩
  · obtain ⟨u, h4, h5⟩ := quiet_same hl h3
    cases h4
    exact .inl ⟨h1, opA_of_aop (quiet_free hl hr h5 h2)⟩
  · exact .inr ⟨h1, h3, rfl⟩
theorem Exec1.check {o : Oper} (hl : loudA P o.op = false) {e : List AV} {h h2 : Heap} {v : AV} (hx : Exec1 c P ops o e h v h) (hc : chk1 P ops o e h2) (hd : ∀ d, o.dst = some d → nth e d = v) : Exec1 c P ops o e h2 v h2 := by
  rcases hx with ⟨h1, h3⟩ | ⟨h1, h3, _⟩
  · refine .inl ⟨h1, ?_⟩
    rcases hc with ⟨_, d, h', h4, h5⟩ | h4
    · rw [hd d h4] at h5
      have := aop_quiet hl h5
      subst this
      exact opA_of_aop h5
    · rw [h1] at h4; cases h4
  · exact .inr ⟨h1, h3, rfl⟩

theorem wp_exec1 {ρ : Option Nat} (hF : Fns P) (hcall : CallsOk P c) {w0 : World} {Q : Exit → Act → World → Prop} {φ : List Emb} {h h' : Heap} {w : World} (hR : R P φ h w0 w) {e : List AV} {a : Act} {i : Nat} {o : Oper} (ho : ops[i]? = some o) {v : AV} (hx : Exec1 c P ops o e h v h')
    (hV : ∀ t ∈ usesA ops o, V φ (nth e t) (a.tmps.getD t undef)) {K : Act → World → Prop} (hK : ∀ (φ' : List Emb) (w' : World) (v' : Value), Up φ φ' → R P φ' h' w0 w' → V φ' v v' → K (a.put o.dst v') w') : wpOpIn (wideR ρ) 0 P ops Q i K a w := by
  let env : List AV := (List.range e.length).map fun t => if t ∈ usesA ops o then nth e t else .unk
  have henv : ∀ t, nth env t = if t ∈ usesA ops o then nth e t else .unk := by
    intro t
    by_cases htl : t < e.length
    · have : env[t]? = some (if t ∈ usesA ops o then nth e t else .unk) := by simp [env, htl]
      rw [nth_list _ _ _ this]
    · rw [nth_big env t (by simp [env]; omega), nth_big e t (by omega)]
      simp
  have hVenv : ∀ t, V φ (nth env t) (a.tmps.getD t undef) := by
    intro t
    rw [henv]
    split
    · rename_i hh; exact hV t hh
    · simp [V]
  have hρ : ∀ x, V φ (evalA P env x) (a.eval x) := by
    intro x
    cases x with
    | tmp t => exact hVenv t
    | const v =>
      simp only [evalA, Act.eval]
      split
      · rename_i b hb; exact ofValue_V hb
      · simp [V]
    | global g =>
      simp only [evalA, Act.eval]
      cases hb : Nat.blt g P.globals.size with
      | true =>
        obtain ⟨n, hn⟩ := hR.glob g ((blt_iff _ _).1 hb)
        simp only [cond_true, V]
        exact ⟨_, hn, by simp⟩
      | false => simp [V]
    | func f => simp [evalA, Act.eval, V, Vs]
  have hag : ∀ t ∈ usesA ops o, nth e t = nth env t := fun t ht => by rw [henv, if_pos ht]
  have hwant : ∀ b, wantedA ops e o = some b → Region.wanted o (yielded ops a.tmps) = b := fun b hb =>
    wantedA_eq (φ := φ) hb fun j c d hg hd => hV d (uses_guard hg hd)
  unfold wpOpIn
  rw [ho]
  simp only
  rcases hx with ⟨h1, h2⟩ | ⟨h1, rfl, rfl⟩
  · rw [hwant true h1]
    simp only [if_true]
    rw [opA_uses hag] at h2
    refine opA_wp hF hcall hR hρ h2 ?_
    intro φ' w' v' hu hR' hv
    exact hK φ' w' v' hu hR' hv
  · rw [hwant false h1]
    simp only [Bool.false_eq_true, if_false]
    exact ⟨fun _ _ => trivial, hK φ w undef (Up.refl _) hR (undef_V φ)⟩

theorem mask_lt (S : Strict ops (masks ops.toList [])) : ∀ (i : Nat) (o : Oper), ops[i]? = some o → ∀ j, Nat.testBit ((masks ops.toList []).getD i 0) j = true → j < i := by
  intro i
  induction i using Nat.strongRecOn with
  | _ i ih =>
    intro o ho j hj
    obtain ⟨pre, h1, h2, h3⟩ := masks_at ops.toList [] i o (by rw [Array.getElem?_toList]; exact ho)
    simp only [List.length_nil, Nat.zero_add] at h1 h2
    rw [h2] at hj
    obtain ⟨ed, hed, hb, hh⟩ := maskOf_bit hj
    have hlt := S.edge i o ho ed hed hb
    rcases hh with rfl | hh
    · exact hlt
    · rw [h3 _ (by omega)] at hh
      have hil : i < ops.size := (Array.getElem?_eq_some_iff.1 ho).1
      have ho2 : ops[ed.on]? = some ops[ed.on] := Array.getElem?_eq_getElem (by omega)
      have := ih ed.on hlt ops[ed.on] ho2 j hh
      omega
theorem closed_bit' (S : Strict ops (masks ops.toList [])) {listed : Array Bool} (hc : Closed ops listed) : ∀ (i : Nat) (o : Oper), ops[i]? = some o → (∀ e ∈ o.after.toList, bindsA e = true → listed.getD e.on false = true) → ∀ j, Nat.testBit ((masks ops.toList []).getD i 0) j = true → listed.getD j false = true := by
  intro i
  induction i using Nat.strongRecOn with
  | _ i ih =>
    intro o ho he j hj
    obtain ⟨pre, h1, h2, h3⟩ := masks_at ops.toList [] i o (by rw [Array.getElem?_toList]; exact ho)
    simp only [List.length_nil, Nat.zero_add] at h1 h2
    rw [h2] at hj
    obtain ⟨ed, hed, hb, hh⟩ := maskOf_bit hj
    have hlt := S.edge i o ho ed hed hb
    have hl := he ed hed hb
    rcases hh with rfl | hh
    · exact hl
    · rw [h3 _ (by omega)] at hh
      have hil : i < ops.size := (Array.getElem?_eq_some_iff.1 ho).1
      have ho2 : ops[ed.on]? = some ops[ed.on] := Array.getElem?_eq_getElem (by omega)
      exact ih ed.on hlt ops[ed.on] ho2 (hc ed.on _ ho2 hl) j hh

/-! ### Every order -/

/-- What is done for the abstract machine (L), against what is done indeed (listed). -/
structure St (c : CallF) (P : Program) (ops : Array Oper) (φ : List Emb) (listed : Array Bool) (a : Act) (L : List Nat) (e : List AV) (h : Heap) : Prop where
  lt : ∀ i ∈ L, i < ops.size
  sub : ∀ i, listed.getD i false = true → i ∈ L
  cl : ∀ i ∈ L, ∀ j, Nat.testBit ((masks ops.toList []).getD i 0) j = true → j ∈ L
  pend : ∀ i ∈ L, listed.getD i false = false → ∀ o, ops[i]? = some o → loudA P o.op = false ∧ ∃ v, Exec1 c P ops o e h v h ∧ ∀ d, o.dst = some d → d < e.length → nth e d = v
  val : ∀ t, (∀ j ∈ L, listed.getD j false = false → ∀ y, ops[j]? = some y → y.dst ≠ some t) → V φ (nth e t) (a.tmps.getD t undef)
  nouse : ∀ i ∈ L, listed.getD i false = false → ∀ j ∈ L, listed.getD j false = false → ∀ x y t, ops[i]? = some x → ops[j]? = some y → y.dst = some t → t ∈ usesA ops x → Nat.testBit ((masks ops.toList []).getD i 0) j = true
  len : a.tmps.size = e.length

/-- What is quiet is done ahead. -/
theorem St.ahead (S : Strict ops (masks ops.toList [])) {φ : List Emb} {listed : Array Bool} (hc : Closed ops listed) {a : Act} {L : List Nat} {e : List AV} {h h' : Heap} (I : St c P ops φ listed a L e h) {q : Nat} {o : Oper} (ho : ops[q]? = some o) (hl : loudA P o.op = false) (hq : q ∉ L)
    (hsub : ∀ j, Nat.testBit ((masks ops.toList []).getD q 0) j = true → j ∈ L) (huse : useOk P ops (masks ops.toList []) q L = true) {v : AV} (hx : Exec1 c P ops o e h v h') : h' = h ∧ St c P ops φ listed a (q :: L) (putA e o.dst v) h := by
  have hh := hx.heap hl
  subst hh
  have hql := (Array.getElem?_eq_some_iff.1 ho).1
  have hself : ¬ Nat.testBit ((masks ops.toList []).getD q 0) q = true := fun hb => by have := mask_lt S q o ho q hb; omega
  -- a pending one does not look at what q writes
  have noLook : ∀ i ∈ q :: L, listed.getD i false = false → ∀ y, ops[i]? = some y → ∀ t, o.dst = some t → t ∉ usesA ops y := by
    intro i hi hil y hy t hd ht
    rcases S.use q i o y t ho hy hd ht with hb | hb
    · rcases List.mem_cons.1 hi with rfl | hi
      · exact hself hb
      · exact hq (I.cl i hi q hb)
    · rcases List.mem_cons.1 hi with rfl | hi
      · exact hself hb
      · rcases use_of huse ho hd hy hi ht with h1 | ⟨l, hlL, z, hz, hzl, hzb⟩
        · rw [(I.pend i hi hil y hy).1] at h1; cases h1
        · have hll : listed.getD l false = true := by
            cases hh : listed.getD l false with
            | true => rfl
            | false => rw [(I.pend l hlL hh z hz).1] at hzl; cases hzl
          have := closed_bit' S hc l z hz (hc l z hz hll) i hzb
          rw [hil] at this; cases this
  have huses : ∀ i ∈ q :: L, listed.getD i false = false → ∀ y, ops[i]? = some y → ∀ t ∈ usesA ops y, nth e t = nth (putA e o.dst v) t := by
    intro i hi hil y hy t ht
    rw [nth_putA, if_neg]
    rintro ⟨hd, _⟩
    exact noLook i hi hil y hy t hd ht
  have hqn : listed.getD q false = false := by
    cases hc : listed.getD q false with
    | false => rfl
    | true => exact absurd (I.sub q hc) hq
  refine ⟨rfl, ?_⟩
  exact {
    lt := fun i hi => by
      rcases List.mem_cons.1 hi with rfl | hi
      · exact hql
      · exact I.lt i hi
    sub := fun i hi => List.mem_cons_of_mem _ (I.sub i hi)
    cl := fun i hi j hj => by
      rcases List.mem_cons.1 hi with rfl | hi
      · exact List.mem_cons_of_mem _ (hsub j hj)
      · exact List.mem_cons_of_mem _ (I.cl i hi j hj)
    pend := fun i hi hil y hy => by
      have hu := huses i hi hil y hy
      rcases List.mem_cons.1 hi with rfl | hi
      · rw [ho] at hy
        cases hy
        exact ⟨hl, v, hx.congr hu, fun d hd hdl => by rw [nth_putA, if_pos ⟨hd, by rwa [putA_length] at hdl⟩]⟩
      · obtain ⟨h1, u, h2, h3⟩ := I.pend i hi hil y hy
        refine ⟨h1, u, h2.congr hu, fun d hd hdl => ?_⟩
        rw [putA_length] at hdl
        rw [nth_putA, if_neg, h3 d hd hdl]
        rintro ⟨hd2, _⟩
        exact S.dst q i o y d (by rintro rfl; exact hq hi) ho hy hd2 hd
    val := fun t ht => by
      rw [nth_putA, if_neg]
      · exact I.val t fun j hj hjl y hy => ht j (List.mem_cons_of_mem _ hj) hjl y hy
      · rintro ⟨hd, _⟩
        exact ht q List.mem_cons_self hqn o ho hd
    nouse := fun i hi hil j hj hjl x y t hx hy hd ht => by
      by_cases hjq : j = q
      · subst hjq
        rw [ho] at hy; cases hy
        exact absurd ht (noLook i hi hil x hx t hd)
      · have hj2 : j ∈ L := (List.mem_cons.1 hj).resolve_left hjq
        by_cases hiq : i = q
        · rcases S.use j i y x t hy hx hd ht with hb | hb
          · exact hb
          · exact absurd (hiq ▸ I.cl j hj2 i hb) hq
        · exact I.nouse i ((List.mem_cons.1 hi).resolve_left hiq) hil j hj2 hjl x y t hx hy hd ht
    len := by rw [putA_length]; exact I.len }

/-- The next one, wherever the plan has it. -/
theorem plan_next (S : Strict ops (masks ops.toList [])) {φ : List Emb} {listed : Array Bool} (hc : Closed ops listed) {a : Act} {h : Heap} {K : List AV → Heap → Prop} {x : Nat} {o : Oper} (ho : ops[x]? = some o) (hxd : ∀ j, Nat.testBit ((masks ops.toList []).getD x 0) j = true → listed.getD j false = true) :
    ∀ (pl : Plan) (L as : List Nat) (e : List AV), planOk P ops (masks ops.toList []) pl L as = true → TP c P ops pl e h K → x ∉ L → x ∉ as → St c P ops φ listed a L e h →
      (∃ (L' : List Nat) (e' : List AV) (p : Plan), x ∈ L' ∧ planOk P ops (masks ops.toList []) p L' [] = true ∧ TP c P ops p e' h K ∧ St c P ops φ listed a L' e' h) ∨
      (∃ (L' : List Nat) (e' : List AV) (cs : List Nat) (p : Plan), x ∉ L' ∧ planOk P ops (masks ops.toList []) p (x :: L') [] = true ∧ (∀ s ∈ L', ∀ y, ops[s]? = some y → Nat.testBit ((masks ops.toList []).getD x 0) s = false → loudA P y.op = false → readsA P y.op = true → s ∈ cs) ∧
        stepO c P ops (fun e2 h2 => (∀ s ∈ cs, ∀ y, ops[s]? = some y → chk1 P ops y e2 h2) ∧ TP c P ops p e2 h2 K) e' h (some o) ∧ St c P ops φ listed a L' e' h)
  | .done, L, as, e, hp, ht, hxL, hxa, I => by
    have := allFrom_at hp x o (by rw [Array.getElem?_toList]; exact ho)
    rw [Nat.zero_add] at this
    exact absurd (by simpa using this) hxL
  | .stop, L, as, e, hp, ht, hxL, hxa, I => by
    simp only [planOk, Bool.and_eq_true] at hp
    have := allFrom_at hp.2 x o (by rw [Array.getElem?_toList]; exact ho)
    rw [Nat.zero_add, sub_mk (fun j hj => I.sub j (hxd j hj))] at this
    simp only [Bool.not_true, Bool.or_false, Bool.or_eq_true, List.contains_eq_mem, decide_eq_true_eq] at this
    rcases this with h1 | h1
    · exact absurd h1 hxL
    · exact absurd h1 hxa
  | .quiet i p, L, as, e, hp, ht, hxL, hxa, I => by
    simp only [planOk, Bool.and_eq_true] at hp
    obtain ⟨⟨⟨⟨h1, h2⟩, h3⟩, h3'⟩, h4⟩ := hp
    simp only [TP] at ht
    cases hoi : ops[i]? with
    | none => rw [hoi] at h1; cases h1
    | some oi =>
      rw [hoi] at h1 ht
      simp only [Bool.not_eq_true'] at h1
      obtain ⟨v, h', hx, hT⟩ := ht
      have hiL : i ∉ L := by simpa using h2
      have hsub : ∀ j, Nat.testBit ((masks ops.toList []).getD i 0) j = true → j ∈ L := fun j hj => by
        have hjl : j < ops.size := by
          have hil := (Array.getElem?_eq_some_iff.1 hoi).1
          have := mask_lt S i oi hoi j hj
          omega
        exact sub_of h3 hjl hj
      obtain ⟨rfl, I'⟩ := I.ahead S hc hoi h1 hiL hsub h3' hx
      by_cases hxi : x = i
      · subst hxi
        exact .inl ⟨_, _, p, List.mem_cons_self, h4, hT, I'⟩
      · exact plan_next S hc ho hxd p (i :: L) [] _ h4 hT (by simp [hxi, hxL]) (by simp) I'
  | .alt i cs p q, L, as, e, hp, ht, hxL, hxa, I => by
    simp only [planOk, Bool.and_eq_true] at hp
    obtain ⟨⟨⟨⟨⟨h1, h2⟩, h3⟩, h4⟩, h5⟩, h6⟩ := hp
    simp only [TP] at ht
    by_cases hxi : x = i
    · subst hxi
      refine .inr ⟨L, e, cs, p, hxL, h5, fun s hs y hy hb hly hry => ?_, by rw [← ho]; exact ht.1, I⟩
      have := allFrom_at h4 s y (by rw [Array.getElem?_toList]; exact hy)
      rw [Nat.zero_add, hb, hly, hry] at this
      simpa [hs] using this
    · exact plan_next S hc ho hxd q L (i :: as) e h6 ht.2 hxL (by simp [hxi, hxa]) I

theorem put_get {e : List AV} {a : Act} (hsz : a.tmps.size = e.length) (o : Oper) (v' : Value) (t : Tmp) : (a.put o.dst v').tmps.getD t undef = if o.dst = some t ∧ t < e.length then v' else a.tmps.getD t undef := by
  cases hd : o.dst with
  | none => simp [Act.put]
  | some d =>
    simp only [Act.put, Option.some.injEq]
    by_cases hdt : d = t
    · subst hdt
      by_cases htl : d < e.length
      · simp [Array.getD_eq_getD_getElem?, hsz, htl]
      · simp [Array.getD_eq_getD_getElem?, hsz, htl]
    · simp [Array.getD_eq_getD_getElem?, Array.getElem?_setIfInBounds_ne hdt, hdt]

theorem tree_wp {ρ : Option Nat} (hF : Fns P) (hcall : CallsOk P c) (S : Strict ops (masks ops.toList [])) {n : Nat} (hdst : ∀ (i : Nat) (o : Oper) (d : Tmp), ops[i]? = some o → o.dst = some d → d < n) {w0 : World} {Q : Exit → Act → World → Prop} {ds : List Deferred} {K : List AV → Heap → Prop} : ∀ (fuel : Nat) (listed : Array Bool) (φ : List Emb) (a : Act) (w : World) (pl : Plan) (L : List Nat) (e : List AV) (h : Heap),
    e.length = n → listed.size = ops.size → Closed ops listed → todo ops.size listed ≤ fuel → planOk P ops (masks ops.toList []) pl L [] = true → TP c P ops pl e h K → St c P ops φ listed a L e h → R P φ h w0 w → a.defers = ds →
    (∀ e' h', e'.length = n → K e' h' → Final P φ w0 ds Q (.normal, e', h')) → wpAnyIn (wideR ρ) 0 P .any ops Q fuel listed a w := by
  have getDs : ∀ (listed : Array Bool) (i : Nat), listed.size = ops.size → i < ops.size → listed.getD i true = listed.getD i false := by
    intro listed i hs hi
    simp [Array.getD_eq_getD_getElem?, Array.getElem?_eq_getElem (show i < listed.size by omega)]
  have allDone : ∀ (listed : Array Bool), listed.size = ops.size → Region.ready .any ops listed = [] → ∀ i, i < ops.size → listed.getD i false = true := by
    intro listed hs hr i
    induction i using Nat.strongRecOn with
    | _ i ih =>
      intro hi
      cases hl : listed.getD i false with
      | true => rfl
      | false =>
        have ho : ops[i]? = some ops[i] := Array.getElem?_eq_getElem hi
        have : i ∈ Region.ready .any ops listed := by
          rw [ready_iff]
          refine ⟨_, ho, by rw [getDs listed i hs hi]; exact hl, fun ed hed hb => ?_⟩
          have := S.edge i _ ho ed hed hb
          exact ih ed.on this (by omega)
        rw [hr] at this
        cases this
  have finish : ∀ (listed : Array Bool) (φ : List Emb) (a : Act) (w : World) (pl : Plan) (L : List Nat) (e : List AV) (h : Heap), e.length = n → (∀ i, i < ops.size → listed.getD i false = true) → planOk P ops (masks ops.toList []) pl L [] = true → TP c P ops pl e h K → St c P ops φ listed a L e h → R P φ h w0 w → a.defers = ds →
      (∀ e' h', e'.length = n → K e' h' → Final P φ w0 ds Q (.normal, e', h')) → Q .normal a w := by
    intro listed φ a w pl L e h hen hall hp ht I hR hds hK
    have hL : ∀ i, i < ops.size → i ∈ L := fun i hi => I.sub i (hall i hi)
    cases pl with
    | done =>
      simp only [TP] at ht
      refine hK e h hen ht φ w a (Up.refl _) hR ?_ hds
      refine Vs.of_get (by rw [Array.length_toList, I.len]) fun t b v hb hv => ?_
      have hgd : a.tmps.getD t undef = v := by
        rw [Array.getElem?_toList] at hv
        simp [Array.getD_eq_getD_getElem?, hv]
      have hnb := nth_list e t b hb
      rw [← hgd, ← hnb]
      refine I.val t fun j hj hjl _ _ => ?_
      rw [hall j (I.lt j hj)] at hjl
      cases hjl
    | quiet i p =>
      simp only [planOk, Bool.and_eq_true] at hp
      obtain ⟨⟨⟨⟨h1, h2⟩, h3⟩, _⟩, h4⟩ := hp
      cases hoi : ops[i]? with
      | none => rw [hoi] at h1; cases h1
      | some oi =>
        have := hL i (Array.getElem?_eq_some_iff.1 hoi).1
        simp [this] at h2
    | alt i cs p q =>
      simp only [planOk, Bool.and_eq_true] at hp
      obtain ⟨⟨⟨⟨⟨h1, h2⟩, h3⟩, h4⟩, h5⟩, h6⟩ := hp
      have := hL i ((blt_iff _ _).1 h1)
      simp [this] at h2
    | stop =>
      simp [planOk] at hp
  intro fuel
  induction fuel with
  | zero =>
    intro listed φ a w pl L e h hen hs hc htodo hp ht I hR hds hK
    have hall : ∀ i, i < ops.size → listed.getD i false = true := fun i hi => by
      rw [← getDs listed i hs hi]; exact todo_zero (Nat.le_zero.1 htodo) i hi
    refine ⟨?_, finish listed φ a w pl L e h hen hall hp ht I hR hds hK⟩
    rw [List.eq_nil_iff_forall_not_mem]
    intro i hi
    rw [ready_iff] at hi
    obtain ⟨o, ho, h1, _⟩ := hi
    have hil := (Array.getElem?_eq_some_iff.1 ho).1
    rw [getDs listed i hs hil, hall i hil] at h1
    cases h1
  | succ fuel ih =>
    intro listed φ a w pl L e h hen hs hc htodo hp ht I hR hds hK
    refine ⟨fun hr => finish listed φ a w pl L e h hen (allDone listed hs hr) hp ht I hR hds hK, ?_⟩
    intro x hx
    rw [ready_iff] at hx
    obtain ⟨o, ho, hxl, hedges⟩ := hx
    have hin := (Array.getElem?_eq_some_iff.1 ho).1
    have hxl' : listed.getD x false = false := by rw [← getDs listed x hs hin]; exact hxl
    have hbit := closed_bit' S hc x o ho hedges
    -- behind the operation
    let listed' := listed.setIfInBounds x true
    have hs' : listed'.size = ops.size := by simp [listed', hs]
    have hget : ∀ j, listed'.getD j false = if j = x then true else listed.getD j false := by
      intro j
      by_cases hj : j = x
      · subst hj; simp [listed', Array.getD_eq_getD_getElem?, hs, hin]
      · simp [listed', Array.getD_eq_getD_getElem?, Array.getElem?_setIfInBounds_ne (Ne.symm hj), hj]
    have hc' : Closed ops listed' := by
      intro j y hy hlj ed hed hb
      rw [hget] at hlj ⊢
      by_cases hj : j = x
      · subst hj
        rw [ho] at hy; cases hy
        have := hedges ed hed hb
        rw [this]; simp
      · rw [if_neg hj] at hlj
        have := hc j y hy hlj ed hed hb
        rw [this]; simp
    have htodo' : todo ops.size listed' ≤ fuel := by
      have := todo_set hin hs hxl
      show todo ops.size (listed.setIfInBounds x true) ≤ fuel
      omega
    -- what is looked at is there
    have look : ∀ (L : List Nat) (e : List AV), St c P ops φ listed a L e h → ∀ t ∈ usesA ops o, V φ (nth e t) (a.tmps.getD t undef) := by
      intro L e I t ht
      refine I.val t fun j hj hjl y hy hd => ?_
      have done : Nat.testBit ((masks ops.toList []).getD x 0) j = true → False := fun hb => by
        rw [hbit j hb] at hjl; cases hjl
      rcases S.use j x y o t hy ho hd ht with hb | hb
      · exact done hb
      · exact done (I.nouse x (I.cl j hj x hb) hxl' j hj hjl o y t ho hy hd ht)
    -- what was done ahead is done
    have late : ∀ (L : List Nat) (e : List AV) (p : Plan), e.length = n → x ∈ L → planOk P ops (masks ops.toList []) p L [] = true → TP c P ops p e h K → St c P ops φ listed a L e h → wpOpIn (wideR ρ) 0 P ops Q x (wpAnyIn (wideR ρ) 0 P .any ops Q fuel listed') a w := by
      intro L e p hen hxL hp ht I
      obtain ⟨hl, v, hx1, hd1⟩ := I.pend x hxL hxl' o ho
      refine wp_exec1 hF hcall hR ho hx1 (look L e I) ?_
      intro φ' w' v' hu hR' hv
      refine ih listed' φ' _ w' p L e h hen hs' hc' htodo' hp ht ?_ hR' (by rw [put_defers']; exact hds) (fun e' h' h1 h2 => (hK e' h' h1 h2).up hu)
      have hun : ∀ i, listed'.getD i false = false → i ≠ x ∧ listed.getD i false = false := fun i hil => by
        rw [hget] at hil
        by_cases hix : i = x
        · rw [if_pos hix] at hil; cases hil
        · rw [if_neg hix] at hil; exact ⟨hix, hil⟩
      exact {
        lt := I.lt
        sub := fun i hi => by
          rw [hget] at hi
          by_cases hix : i = x
          · subst hix; exact hxL
          · rw [if_neg hix] at hi; exact I.sub i hi
        cl := I.cl
        pend := fun i hi hil y hy => I.pend i hi (hun i hil).2 y hy
        nouse := fun i hi hil j hj hjl => I.nouse i hi (hun i hil).2 j hj (hun j hjl).2
        val := fun t ht => by
          rw [put_get I.len]
          by_cases hd : o.dst = some t ∧ t < e.length
          · rw [if_pos hd, hd1 t hd.1 hd.2]; exact hv
          · rw [if_neg hd]
            refine V.up hu _ _ ?_
            by_cases htl : t < e.length
            · refine I.val t fun j hj hjl y hy hyd => ?_
              by_cases hjx : j = x
              · subst hjx
                rw [ho] at hy; cases hy
                exact hd ⟨hyd, htl⟩
              · exact ht j hj (by rw [hget, if_neg hjx]; exact hjl) y hy hyd
            · rw [nth_big e t (Nat.le_of_not_lt htl)]; simp [V]
        len := by cases hd : o.dst <;> simp [Act.put, I.len] }
    by_cases hxL : x ∈ L
    · exact late L e pl hen hxL hp ht I
    · have hlen : ∀ {L' : List Nat} {e' : List AV}, St c P ops φ listed a L' e' h → e'.length = n := fun I' => by rw [← I'.len, I.len, hen]
      rcases plan_next S hc ho hbit pl L [] e hp ht hxL (by simp) I with ⟨L', e', p, hxL', hp', ht', I'⟩ | ⟨L', e', cs, p, hxL', hp', hcs, hst, I'⟩
      · exact late L' e' p (hlen I') hxL' hp' ht' I'
      · obtain ⟨v, h2, hx1, hchk, hT⟩ := hst
        refine wp_exec1 hF hcall hR ho hx1 (look L' e' I') ?_
        intro φ' w' v' hu hR' hv
        refine ih listed' φ' _ w' p (x :: L') (putA e' o.dst v) h2 (by rw [putA_length]; exact hlen I') hs' hc' htodo' hp' hT ?_ hR' (by rw [put_defers']; exact hds) (fun e' h' h1 h2 => (hK e' h' h1 h2).up hu)
        have pnd : ∀ i ∈ x :: L', listed'.getD i false = false → i ≠ x ∧ i ∈ L' ∧ listed.getD i false = false := fun i hi hil => by
          rw [hget] at hil
          by_cases hix : i = x
          · rw [if_pos hix] at hil; cases hil
          · rw [if_neg hix] at hil
            rcases List.mem_cons.1 hi with h1 | h1
            · exact absurd h1 hix
            · exact ⟨hix, h1, hil⟩
        have huses : ∀ i ∈ L', listed.getD i false = false → ∀ y, ops[i]? = some y → ∀ t ∈ usesA ops y, nth e' t = nth (putA e' o.dst v) t := by
          intro i hi hil y hy t ht
          rw [nth_putA, if_neg]
          rintro ⟨hd, _⟩
          rcases S.use x i o y t ho hy hd ht with hb | hb
          · exact hxL' (I'.cl i hi x hb)
          · rw [hbit i hb] at hil; cases hil
        exact {
          lt := fun i hi => by
            rcases List.mem_cons.1 hi with rfl | hi
            · exact hin
            · exact I'.lt i hi
          sub := fun i hi => by
            rw [hget] at hi
            by_cases hix : i = x
            · subst hix; exact List.mem_cons_self
            · rw [if_neg hix] at hi; exact List.mem_cons_of_mem _ (I'.sub i hi)
          cl := fun i hi j hj => by
            rcases List.mem_cons.1 hi with rfl | hi
            · exact List.mem_cons_of_mem _ (I'.sub j (hbit j hj))
            · exact List.mem_cons_of_mem _ (I'.cl i hi j hj)
          pend := fun i hi hil y hy => by
            obtain ⟨hix, hi, hil⟩ := pnd i hi hil
            obtain ⟨h1, u, h3, h4⟩ := I'.pend i hi hil y hy
            have hnd : ∀ d, y.dst = some d → d < (putA e' o.dst v).length → nth (putA e' o.dst v) d = u := fun d hd hdl => by
              rw [putA_length] at hdl
              rw [nth_putA, if_neg, h4 d hd hdl]
              rintro ⟨hd2, _⟩
              exact S.dst x i o y d (fun hh => hix hh.symm) ho hy hd2 hd
            have h5 := h3.congr (huses i hi hil y hy)
            have hb : Nat.testBit ((masks ops.toList []).getD x 0) i = false := by
              cases hb : Nat.testBit ((masks ops.toList []).getD x 0) i with
              | false => rfl
              | true => rw [hbit i hb] at hil; cases hil
            refine ⟨h1, u, ?_, hnd⟩
            cases hr : readsA P y.op with
            | false => exact h5.free h1 hr h2
            | true => exact h5.check h1 (hchk i (hcs i hi y hy hb h1 hr) y hy) (fun d hd => hnd d hd (by rw [putA_length, hlen I']; exact hdst i y d hy hd))
          val := fun t ht => by
            rw [put_get I'.len, nth_putA]
            by_cases hd : o.dst = some t ∧ t < e'.length
            · rw [if_pos hd, if_pos hd]; exact hv
            · rw [if_neg hd, if_neg hd]
              refine V.up hu _ _ (I'.val t fun j hj hjl y hy hyd => ?_)
              have hjx : j ≠ x := by rintro rfl; exact hxL' hj
              exact ht j (List.mem_cons_of_mem _ hj) (by rw [hget, if_neg hjx]; exact hjl) y hy hyd
          nouse := fun i hi hil j hj hjl => by
            obtain ⟨_, hi, hil⟩ := pnd i hi hil
            obtain ⟨_, hj, hjl⟩ := pnd j hj hjl
            exact I'.nouse i hi hil j hj hjl
          len := by rw [putA_length]; cases hd : o.dst <;> simp [Act.put, I'.len] }

/-- A region whose orders are all looked at. -/
theorem tree_region {ρ : Option Nat} (hF : Fns P) (hm : P.follows .mixedOrders = true) (hcall : CallsOk P c) {n : Nat} (hst : strictOk ops (masks ops.toList []) = true) (hds : dstsOk ops n = true) {pl : Plan} (hp : planOk P ops (masks ops.toList []) pl [] [] = true) {id : Nat} {w0 : World} {Q : Exit → Act → World → Prop} {φ : List Emb} {e : List AV} {h : Heap} {w : World} {a : Act} {K : List AV → Heap → Prop}
    (hR : R P φ h w0 w) (he : Vs φ e a.tmps.toList) (hen : e.length = n) (ht : TP c P ops pl e h K) (hK : ∀ e' h', e'.length = n → K e' h' → Final P φ w0 a.defers Q (.normal, e', h')) : cwp ρ P (.region id ops true) Q a w := by
  have S := strict_of hst
  refine wpIn_region_any hm ?_
  have hfalse : ∀ i, (Array.replicate ops.size false).getD i false = false := by
    intro i
    simp [Array.getD_eq_getD_getElem?, Array.getElem?_replicate]
    split <;> rfl
  refine tree_wp hF hcall S (n := n) (fun i o d ho hd => ?_) ops.size _ φ a _ pl [] e h hen (by simp) ?_ ?_ hp ht ?_ (hR.drew rfl rfl rfl rfl) rfl hK
  · have := allFrom_at hds i o (by rw [Array.getElem?_toList]; exact ho)
    rw [hd] at this
    exact (blt_iff _ _).1 this
  · intro i o ho hl; rw [hfalse] at hl; cases hl
  · unfold todo
    refine Nat.le_trans (List.countP_le_length) (by simp)
  · exact {
      lt := by simp
      sub := fun i hi => by rw [hfalse] at hi; cases hi
      cl := by simp
      pend := by simp
      nouse := by simp
      val := fun t _ => by
        have := nth_V he t
        simpa [Array.getD_eq_getD_getElem?, List.getD_eq_getElem?_getD] using this
      len := by rw [← Array.length_toList, he.length] }
end
end Go.Am

noncomputable section
namespace Go.Am
open Go.RowKit

theorem R.relog {P : Program} {φ : List Emb} {h h' : Heap} {w0 w : World} (hR : R P φ h w0 w) (hn : h'.next = h.next) (hg : ∀ i, h'.get i = h.get i) : R P φ h' w0 w where
  below := hR.below
  len := by rw [hR.len, hn]
  objs := fun i o hi => hR.objs i o (by rw [← hg]; exact hi)
  sep := fun i j oi oj ei ej hij hi hj => hR.sep i j oi oj ei ej hij (by rw [← hg]; exact hi) (by rw [← hg]; exact hj)
  glob := hR.glob

section
variable {P : Program} {call : CallM} {n : Nat} {ops : Array Oper}

theorem compO_one (hcall : CallMOk P call) {o : Oper} (hp : plainOp o.op = true) {k : KX} {e : Env} {h : Heap} {ds : List DVM} {L : List Res} (hr : (compO P false n ops o).run (oneM call) k e h ds = some L) :
    ∃ v h' L', Exec1 (callOne call) P ops o (envL n e) h v h' ∧ k ((dstOf n o.dst).put v e) h' ds = some L' ∧ (∀ r, r ∈ L' ↔ r ∈ L) ∧ Grows h h' := by
  rcases compO_run hr with ⟨hw, l, hd, hg⟩ | ⟨hw, hk⟩
  · have hgr := hd.grows (oneM_ok hcall)
    obtain ⟨v, h1, rfl, ho⟩ := does_one hp hd
    obtain ⟨L'', h2, h3⟩ := hg.1 _ List.mem_cons_self
    refine ⟨v, h1, L'', .inl ⟨hw, ho⟩, h2, fun r => ⟨h3 r, fun hr => ?_⟩, hgr _ List.mem_cons_self⟩
    obtain ⟨x, hx, L3, h4, h5⟩ := hg.2 r hr
    rw [List.mem_singleton] at hx
    subst hx
    rw [h2] at h4
    cases h4
    exact h5
  · exact ⟨.tuple [], h, L, .inr ⟨hw, rfl, rfl⟩, hk, fun _ => Iff.rfl, Grows.refl _⟩

theorem coAt_some {c : CallM} {i : Nat} {k : KX} {e : Env} {h : Heap} {ds : List DVM} {L : List Res} (hr : coAt (compOps P false n ops) i c k e h ds = some L) : ∃ o, ops[i]? = some o ∧ (compO P false n ops o).run c k e h ds = some L := by
  unfold coAt at hr
  rw [nthF_eq, compOps, mapF_eq, List.getElem?_map, Array.getElem?_toList] at hr
  cases ho : ops[i]? with
  | none => rw [ho] at hr; cases hr
  | some o => rw [ho] at hr; exact ⟨o, rfl, hr⟩

theorem chkM_mem {e : Env} {h : Heap} : ∀ {cs : List Nat}, chkM P n ops cs e h = true → ∀ s ∈ cs, ∀ y, ops[s]? = some y → chk1 P ops y (envL n e) h
  | [], _, s, hs, _, _ => by cases hs
  | q :: cs, hc, s, hs, y, hy => by
    have hc1 : (Bool.rec (motive := fun _ => Bool) false (chkM P n ops cs e h) (match ops[q]? with
      | some o => (match wantG (guardOf n ops o) e, o.dst with
        | some true, some d => CI.rec (motive := fun _ => Bool) (fun f => R1.rec (motive := fun _ => Bool) false (fun v _ => beqV v ((tmpS n d).ev e)) (f e h)) (compOp P n o.op)
        | some false, _ => true
        | _, _ => false)
      | none => true)) = true := hc
    cases ho : ops[q]? with
    | none =>
      rw [ho] at hc1
      rcases List.mem_cons.1 hs with rfl | hs
      · rw [ho] at hy; cases hy
      · exact chkM_mem hc1 s hs y hy
    | some o =>
      rw [ho] at hc1
      simp only at hc1
      cases hw : wantG (guardOf n ops o) e with
      | none => rw [hw] at hc1; cases hd : o.dst <;> rw [hd] at hc1 <;> cases hc1
      | some t =>
        rw [hw] at hc1
        cases t with
        | false =>
          have hc2 : chkM P n ops cs e h = true := by cases hd : o.dst <;> rw [hd] at hc1 <;> exact hc1
          rcases List.mem_cons.1 hs with rfl | hs
          · rw [ho] at hy; cases hy
            exact .inr (wantG_wanted hw)
          · exact chkM_mem hc2 s hs y hy
        | true =>
          cases hd : o.dst with
          | none => rw [hd] at hc1; cases hc1
          | some d =>
            rw [hd] at hc1
            simp only at hc1
            cases hf : compOp P n o.op with
            | op f =>
              rw [hf] at hc1
              have hc2 : (Bool.rec (motive := fun _ => Bool) false (chkM P n ops cs e h) (R1.rec (motive := fun _ => Bool) false (fun v _ => beqV v ((tmpS n d).ev e)) (f e h))) = true := hc1
              cases hfe : f e h with
              | no => rw [hfe] at hc2; cases hc2
              | ok v h' =>
                rw [hfe] at hc2
                have hc3 : (Bool.rec (motive := fun _ => Bool) false (chkM P n ops cs e h) (beqV v ((tmpS n d).ev e))) = true := hc2
                cases hb : beqV v ((tmpS n d).ev e) with
                | false => rw [hb] at hc3; cases hc3
                | true =>
                  rw [hb] at hc3
                  rcases List.mem_cons.1 hs with rfl | hs
                  · rw [ho] at hy
                    have hyo : o = y := Option.some.inj hy
                    subst hyo
                    have hv := beqV_eq _ _ hb
                    rw [tmpS_ev] at hv
                    have hrun : (compOp P n o.op).run e h = .ok v h' := by rw [hf]; exact hfe
                    have := compOp_run hrun
                    rw [hv] at this
                    exact .inl ⟨wantG_wanted hw, d, h', hd, this⟩
                  · exact chkM_mem hc3 s hs y hy

def LeafOf (n : Nat) (ds : List DVM) (l : List Res) (e' : List AV) (h' : Heap) : Prop := ∃ r ∈ l, ∃ e2, r = .mk .normal e2 h' ds ∧ envL n e2 = e'
theorem tpM_TP (hcall : CallMOk P call) (hn : n ≤ 256) (hpl : ∀ o ∈ ops.toList, plainOp o.op = true) {ds : List DVM} : ∀ (pl : Plan) (e : Env) (h : Heap) (l : List Res), tpM P n ops (compOps P false n ops) (oneM call) pl leafK e h ds = some l →
    TP (callOne call) P ops pl (envL n e) h (LeafOf n ds l) ∧ ∀ r ∈ l, ∃ e2 h2, r = .mk .normal e2 h2 ds ∧ Grows h h2
  | .done, e, h, l, hr => by
    cases hr
    exact ⟨⟨_, List.mem_singleton.2 rfl, e, rfl, rfl⟩, fun r hr => by rw [List.mem_singleton] at hr; exact ⟨e, h, hr, Grows.refl _⟩⟩
  | .quiet i p, e, h, l, hr => by
    obtain ⟨o, ho, hr⟩ := coAt_some hr
    have hpo := hpl o (by have := Array.mem_of_getElem? ho; exact Array.mem_toList_iff.2 this)
    obtain ⟨v, h', L', h1, h2, h3, h4⟩ := compO_one hcall hpo hr
    obtain ⟨g1, g2⟩ := tpM_TP hcall hn hpl p _ h' L' h2
    refine ⟨?_, fun r hr => ?_⟩
    · simp only [TP, ho]
      refine ⟨v, h', h1, ?_⟩
      rw [← dstOf_put hn]
      refine TP.mono (fun e' h'' hx => ?_) p _ _ g1
      obtain ⟨r, hr, e2, h5, h6⟩ := hx
      exact ⟨r, (h3 r).1 hr, e2, h5, h6⟩
    · obtain ⟨e2, h2', h5, h6⟩ := g2 r ((h3 r).2 hr)
      exact ⟨e2, h2', h5, h4.trans h6⟩
  | .alt i cs p q, e, h, l, hr => by
    obtain ⟨x, y, hx, hy, rfl⟩ := joinR_some (show joinR (coAt (compOps P false n ops) i (oneM call) (fun e h ds => Bool.rec none (tpM P n ops (compOps P false n ops) (oneM call) p leafK e h ds) (chkM P n ops cs e h)) e h ds) (tpM P n ops (compOps P false n ops) (oneM call) q leafK e h ds) = some l from hr)
    obtain ⟨g1, g2⟩ := tpM_TP hcall hn hpl q e h y hy
    obtain ⟨o, ho, hx⟩ := coAt_some hx
    have hpo := hpl o (by have := Array.mem_of_getElem? ho; exact Array.mem_toList_iff.2 this)
    obtain ⟨v, h', L', h1, h2, h3, h4⟩ := compO_one hcall hpo hx
    have h2' : (Bool.rec (motive := fun _ => RX) none (tpM P n ops (compOps P false n ops) (oneM call) p leafK ((dstOf n o.dst).put v e) h' ds) (chkM P n ops cs ((dstOf n o.dst).put v e) h')) = some L' := h2
    cases hc : chkM P n ops cs ((dstOf n o.dst).put v e) h' with
    | false => rw [hc] at h2'; cases h2'
    | true =>
      rw [hc] at h2'
      obtain ⟨f1, f2⟩ := tpM_TP hcall hn hpl p _ h' L' h2'
      refine ⟨⟨?_, ?_⟩, fun r hr => ?_⟩
      · rw [ho]
        refine ⟨v, h', h1, ?_⟩
        rw [← dstOf_put hn]
        refine ⟨chkM_mem hc, TP.mono (fun e' h'' hx => ?_) p _ _ f1⟩
        obtain ⟨r, hr, e2, h5, h6⟩ := hx
        exact ⟨r, List.mem_append.2 (.inl ((h3 r).1 hr)), e2, h5, h6⟩
      · refine TP.mono (fun e' h'' hx => ?_) q _ _ g1
        obtain ⟨r, hr, e2, h5, h6⟩ := hx
        exact ⟨r, List.mem_append.2 (.inr hr), e2, h5, h6⟩
      · rcases List.mem_append.1 hr with hr | hr
        · obtain ⟨e2, h2', h5, h6⟩ := f2 r ((h3 r).2 hr)
          exact ⟨e2, h2', h5, h4.trans h6⟩
        · exact g2 r hr
  | .stop, e, h, l, hr => by cases hr; exact ⟨trivial, by simp⟩

/-! ### All ends told as the first's -/

/-- As it was, but for new things forgotten. -/
def Like (n0 : Nat) (a b : Heap) : Prop := Less a b ∧ b.log = a.log ∧ ∀ i, i < n0 → b.get i = a.get i
theorem Like.refl (n0 : Nat) (a : Heap) : Like n0 a a := ⟨Less.refl _, rfl, fun _ _ => rfl⟩
theorem Like.trans {n0 : Nat} {a b c : Heap} (h : Like n0 a b) (h' : Like n0 b c) : Like n0 a c := ⟨h.1.trans h'.1, h'.2.1.trans h.2.1, fun i hi => (h'.2.2 i hi).trans (h.2.2 i hi)⟩
theorem Like.tidy (n0 : Nat) (s : Sg) (a : Heap) : Like n0 a (tidy n0 s a) := ⟨tidy_less _ _ _, tidy_log _ _ _, fun _ hi => tidy_old hi⟩
theorem Like.logged {h a b : Heap} (hl : Logged h a) (hk : Like h.next a b) : Logged h b := ⟨by rw [hk.1.1]; exact hl.1, fun i hi hn => by rw [hk.2.2 i hi]; exact hl.2.1 i hi (by rw [← hk.2.1]; exact hn), fun i hi => by rw [hk.2.2 i hi]; exact hl.2.2 i hi⟩
theorem Less.wfh {a b : Heap} (h : Less a b) (hw : Wfh a) : Wfh b := fun i hi => by
  cases hg : b.get i with
  | none => rfl
  | some o => have := h.2 i o hg; rw [hw i (by rw [h.1] at hi; exact hi)] at this; cases this
theorem frAll_run {n0 : Nat} {e1 : Env} : ∀ {l : List Res} {a A : Heap}, frAll n n0 e1 l a = some A → Like n0 a A ∧ ∀ r ∈ l, ∀ o e2 h2 ds, r = .mk o e2 h2 ds → ∃ b s, Like n0 a b ∧ mrg n0 (envL n e1) b (envL n e2) h2 = some s ∧ Less (tidy n0 s b) A
  | [], a, A, h => by cases h; exact ⟨Like.refl _ _, by simp⟩
  | r :: l, a, A, h => by
    obtain ⟨o, e2, h2, ds⟩ := r
    have h1 : (Option.rec (motive := fun _ => Option Heap) none (fun s => frAll n n0 e1 l (tidy n0 s a)) (mrg n0 (envL n e1) a (envL n e2) h2)) = some A := h
    cases hm : mrg n0 (envL n e1) a (envL n e2) h2 with
    | none => rw [hm] at h1; cases h1
    | some s =>
      rw [hm] at h1
      obtain ⟨g1, g2⟩ := frAll_run (l := l) h1
      refine ⟨(Like.tidy n0 s a).trans g1, fun r hr o' e2' h2' ds' hre => ?_⟩
      rcases List.mem_cons.1 hr with rfl | hr
      · cases hre
        exact ⟨a, s, Like.refl _ _, hm, g1.1⟩
      · obtain ⟨b, s', h3, h4, h5⟩ := g2 r hr o' e2' h2' ds' hre
        exact ⟨b, s', (Like.tidy n0 s a).trans h3, h4, h5⟩

theorem logged_of_grows {h a : Heap} (hg : Grows h a) (hl : h.log = []) : Logged h a := by
  obtain ⟨h1, ⟨l, h2, h3⟩, _, h4⟩ := hg
  rw [hl, List.append_nil] at h2
  exact ⟨h1, fun i hi hn => h3 i hi (by rw [← h2]; exact hn), h4⟩

theorem freeM_inv {pl : Plan} {k : KX} {e : Env} {h : Heap} {ds : List DVM} {L' : List Res} (hr : freeM P n ops (compOps P false n ops) (oneM call) pl k e h ds = some L') :
    ∃ o1 e1 h1 ds1 rs A, tpM P n ops (compOps P false n ops) (oneM call) pl leafK e ⟨h.next, h.tr, []⟩ ds = some (.mk o1 e1 h1 ds1 :: rs) ∧ frAll n h.next e1 rs h1 = some A ∧ k e1 ⟨A.next, A.tr, A.log ++ h.log⟩ ds1 = some L' := by
  have hr1 : (Option.rec (motive := fun _ => RX) none (fun l => freeEnd n h k l) (tpM P n ops (compOps P false n ops) (oneM call) pl leafK e ⟨h.next, h.tr, []⟩ ds)) = some L' := hr
  cases ht : tpM P n ops (compOps P false n ops) (oneM call) pl leafK e ⟨h.next, h.tr, []⟩ ds with
  | none => rw [ht] at hr1; cases hr1
  | some l =>
    rw [ht] at hr1
    cases l with
    | nil => cases hr1
    | cons r rs =>
      obtain ⟨o1, e1, h1, ds1⟩ := r
      have hr2 : (Option.rec (motive := fun _ => RX) none (fun a => k e1 ⟨a.next, a.tr, appF a.log h.log⟩ ds1) (frAll n h.next e1 rs h1)) = some L' := hr1
      cases hf : frAll n h.next e1 rs h1 with
      | none => rw [hf] at hr2; cases hr2
      | some A =>
        rw [hf] at hr2
        have hr3 : k e1 ⟨A.next, A.tr, appF A.log h.log⟩ ds1 = some L' := hr2
        rw [appF_eq] at hr3
        exact ⟨o1, e1, h1, ds1, rs, A, rfl, hf, hr3⟩

theorem free_region {ρ : Option Nat} (hF : Fns P) (hm : P.follows .mixedOrders = true) (hcall : CallMOk P call) (hn : n ≤ 256) (hpl : (ops.toList.all fun o => plainOp o.op) = true) {pl : Plan} (hst : strictOk ops (masks ops.toList []) = true) (hdst : dstsOk ops n = true) (hp : planOk P ops (masks ops.toList []) pl [] [] = true)
    {k : KX} {e : Env} {h : Heap} {ds : List DVM} {L L' : List Res} (hr : freeM P n ops (compOps P false n ops) (oneM call) pl k e h ds = some L') (hs : ∀ r ∈ L', r ∈ L) {id : Nat} {w0 w : World} {Q : Exit → Act → World → Prop} {φ : List Emb} {a : Act} (hR : R P φ h w0 w) (he : Vs φ (envL n e) a.tmps.toList) (hd : DS φ ds a.defers)
    (hk : SX P φ w0 n L (Q .normal) k) : cwp ρ P (.region id ops true) Q a w := by
  obtain ⟨o1, e1, h1, ds1, rs, A, ht, hf, hkk⟩ := freeM_inv hr
  obtain ⟨g1, g2⟩ := tpM_TP hcall hn (plain_all hpl) pl e _ _ ht
  have hRb : R P φ ⟨h.next, h.tr, []⟩ w0 w := hR.relog rfl (fun _ => rfl)
  obtain ⟨e1', h1', hr1, hg1⟩ := g2 _ List.mem_cons_self
  cases hr1
  obtain ⟨f1, f2⟩ := frAll_run hf
  refine tree_region hF hm (callOne_ok hcall) hst hdst hp hRb he (envL_length _ _) g1 ?_
  rintro e' h' _ ⟨r, hrl, e2, rfl, rfl⟩
  intro φ' w' a' hu hR' he' hd'
  have conc : ∀ φ1, Up φ φ1 → R P φ1 A w0 w' → Vs φ1 (envL n e1) a'.tmps.toList → Q .normal a' w' := by
    intro φ1 hu1 hR1 he1
    refine hk e1 _ ds L' hkk hs φ1 w' a' hu1 (hR1.relog rfl (fun _ => rfl)) he1 ?_
    rw [hd']; exact hd.up hu1
  rcases List.mem_cons.1 hrl with heq | hrs
  · cases heq
    exact conc φ' hu (hR'.less f1.1) he'
  · obtain ⟨b, s, hlb, hms, hless⟩ := f2 _ hrs _ _ _ _ rfl
    obtain ⟨e2', h2', hre, hg2⟩ := g2 _ hrl
    cases hre
    have hl1 := logged_of_grows hg1 rfl
    have hl2 := logged_of_grows hg2 rfl
    have hw1 : Wfh h1 := hg1.2.2.1 hRb.wfh
    obtain ⟨φ1, hu1, hR1, hv1⟩ := merge_run (h := ⟨h.next, h.tr, []⟩) hms hRb hu hR' (Like.logged hl1 hlb) hl2 (hlb.1.wfh hw1)
    exact conc φ1 hu1 (hR1.less hless) (hv1 _ he')
theorem free_from (hcall : CallMOk P call) (hn : n ≤ 256) (hpl : (ops.toList.all fun o => plainOp o.op) = true) {pl : Plan} {k : KX} {e : Env} {h : Heap} {ds : List DVM} {L' : List Res} (hr : freeM P n ops (compOps P false n ops) (oneM call) pl k e h ds = some L') : From h k L' := by
  obtain ⟨o1, e1, h1, ds1, rs, A, ht, hf, hkk⟩ := freeM_inv hr
  obtain ⟨g1, g2⟩ := tpM_TP hcall hn (plain_all hpl) pl e _ _ ht
  obtain ⟨e1', h1', hr1, hg1⟩ := g2 _ List.mem_cons_self
  cases hr1
  obtain ⟨f1, f2⟩ := frAll_run hf
  intro r hrl
  refine ⟨_, _, _, L', hkk, hrl, ?_⟩
  have hl1 := logged_of_grows hg1 rfl
  refine ⟨?_, ⟨A.log, rfl, fun i hi hnl => ?_⟩, fun hw => ?_, fun i hi => ?_⟩
  · show h.next ≤ A.next
    rw [f1.1.1]; exact hl1.1
  · show A.get i = h.get i
    rw [f1.2.2 i hi]
    exact hl1.2.1 i hi (by rw [← f1.2.1]; exact hnl)
  · exact f1.1.wfh (hg1.2.2.1 hw)
  · show Stay (h.get i) (A.get i)
    rw [f1.2.2 i hi]
    exact hl1.2.2 i hi

/-! ### All of them -/

theorem drawX_wp {ρ : Option Nat} (hF : Fns P) (hm : P.follows .mixedOrders = true) (hcall : CallMOk P call) (hn : n ≤ 256) {plan : FuncId → Nat → Option Plan} {fid id : Nat}
    {k : KX} {e : Env} {h : Heap} {ds : List DVM} {L L' : List Res} (hr : drawX P plan call fid id n ops k e h ds = some L') (hs : ∀ r ∈ L', r ∈ L) {w0 w : World} {Q : Exit → Act → World → Prop} {φ : List Emb} {a : Act} (hR : R P φ h w0 w) (he : Vs φ (envL n e) a.tmps.toList) (hd : DS φ ds a.defers)
    (hk : SX P φ w0 n L (Q .normal) k) : cwp ρ P (.region id ops true) Q a w := by
  unfold drawX at hr
  unfold drK at hr
  cases hpl : ops.toList.all fun o => plainOp o.op with
  | false => rw [hpl] at hr; cases hr
  | true =>
    rw [hpl] at hr
    simp only [Bool.not_true, cond_false] at hr
    cases hst : drawStatic P ops (masks ops.toList []) with
    | true =>
      rw [hst] at hr
      simp only [cond_true] at hr
      cases hnn : needNot P (masks ops.toList []) (louds P ops.toList 0) ops.toList 0 with
      | true =>
        rw [hnn] at hr
        have hr1 : opsM (oneM call) (compOps P false n ops) k e h ds = some L' := hr
        rw [← opsT_const _ _ _ []] at hr1
        exact text_region hF hm hcall hn hpl hst (.inl ⟨rfl, hnn⟩) hr1 hs hR he hd hk
      | false =>
        rw [hnn] at hr
        exact text_region hF hm hcall hn hpl hst (.inr rfl) hr hs hR he hd hk
    | false =>
      rw [hst] at hr
      simp only [cond_false] at hr
      cases hpp : plan fid id with
      | none => rw [hpp] at hr; cases hr
      | some pl =>
        rw [hpp] at hr
        simp only at hr
        cases hb : strictOk ops (masks ops.toList []) && dstsOk ops n && planOk P ops (masks ops.toList []) pl [] [] with
        | false => rw [hb] at hr; cases hr
        | true =>
          rw [hb] at hr
          simp only [Bool.and_eq_true] at hb
          exact free_region hF hm hcall hn hpl hb.1.1 hb.1.2 hb.2 hr hs hR he hd hk
theorem drawX_from (hcall : CallMOk P call) (hn : n ≤ 256) {plan : FuncId → Nat → Option Plan} {fid id : Nat} {k : KX} {e : Env} {h : Heap} {ds : List DVM} {L' : List Res} (hr : drawX P plan call fid id n ops k e h ds = some L') : From h k L' := by
  unfold drawX at hr
  unfold drK at hr
  cases hpl : ops.toList.all fun o => plainOp o.op with
  | false => rw [hpl] at hr; cases hr
  | true =>
    rw [hpl] at hr
    simp only [Bool.not_true, cond_false] at hr
    cases hst : drawStatic P ops (masks ops.toList []) with
    | true =>
      rw [hst] at hr
      simp only [cond_true] at hr
      cases hnn : needNot P (masks ops.toList []) (louds P ops.toList 0) ops.toList 0 with
      | true =>
        rw [hnn] at hr
        have hr1 : opsM (oneM call) (compOps P false n ops) k e h ds = some L' := hr
        rw [← opsT_const _ _ _ []] at hr1
        exact text_from (K := fun _ => k) hcall hn hpl (fun tr e h ds L hL => hL) hr1
      | false =>
        rw [hnn] at hr
        have hr1 : opsT (oneM call) (compOps P false n ops) [] (fun tr e h ds => Bool.rec (motive := fun _ => RX) none (k e h ds) (rdAll tr ops.size (readsOf P n ops (masks ops.toList []) (louds P ops.toList 0) ops.toList 0))) e h ds = some L' := hr
        refine text_from (k := k) hcall hn hpl (fun tr e h ds L hL => ?_) hr1
        cases hrd : rdAll tr ops.size (readsOf P n ops (masks ops.toList []) (louds P ops.toList 0) ops.toList 0) with
        | false => simp only [hrd] at hL; cases hL
        | true => simp only [hrd] at hL; exact hL
    | false =>
      rw [hst] at hr
      simp only [cond_false] at hr
      cases hpp : plan fid id with
      | none => rw [hpp] at hr; cases hr
      | some pl =>
        rw [hpp] at hr
        simp only at hr
        cases hb : strictOk ops (masks ops.toList []) && dstsOk ops n && planOk P ops (masks ops.toList []) pl [] [] with
        | false => rw [hb] at hr; cases hr
        | true =>
          rw [hb] at hr
          exact free_from hcall hn hpl hr
end
end Go.Am

noncomputable section
namespace Go.Am
open Go.RowKit

def FromK (h0 : Heap) (κ : KO) (L : List Res) : Prop := ∀ r ∈ L, ∃ o e h ds L', κ o e h ds = some L' ∧ r ∈ L' ∧ Grows h0 h
theorem FromK.self {h : Heap} {κ : KO} {o : Out} {e : Env} {ds : List DVM} {L : List Res} (hk : κ o e h ds = some L) : FromK h κ L := fun _ hr => ⟨o, e, h, ds, L, hk, hr, Grows.refl _⟩
theorem FromK.trans {h0 : Heap} {κ κ' : KO} {L : List Res} (h : FromK h0 κ L) (hk : ∀ o e h ds L', κ o e h ds = some L' → FromK h κ' L') : FromK h0 κ' L := by
  intro r hr
  obtain ⟨o, e, h1, ds, L', h2, h3, h4⟩ := h r hr
  obtain ⟨o', e', h1', ds', L'', h5, h6, h7⟩ := hk o e h1 ds L' h2 r h3
  exact ⟨o', e', h1', ds', L'', h5, h6, h4.trans h7⟩
theorem FromK.of_from {h0 : Heap} {k : KX} {κ : KO} {L : List Res} (h : From h0 k L) (hk : ∀ e h ds L', k e h ds = some L' → FromK h κ L') : FromK h0 κ L := by
  intro r hr
  obtain ⟨e, h1, ds, L', h2, h3, h4⟩ := h r hr
  obtain ⟨o', e', h1', ds', L'', h5, h6, h7⟩ := hk e h1 ds L' h2 r h3
  exact ⟨o', e', h1', ds', L'', h5, h6, h4.trans h7⟩
theorem FromK.grow {h0 h1 : Heap} {κ : KO} {L : List Res} (hg : Grows h0 h1) (h : FromK h1 κ L) : FromK h0 κ L := by
  intro r hr
  obtain ⟨o, e, h2, ds, L', h3, h4, h5⟩ := h r hr
  exact ⟨o, e, h2, ds, L', h3, h4, hg.trans h5⟩

theorem logNew_of {h a : Heap} {l : List Nat} (hl : a.log = l ++ h.log) : logNew h a = l := by
  unfold logNew
  rw [takeF_eq, lenF_eq, lenF_eq, hl, List.length_append]
  show List.take (l.length + h.log.length - h.log.length) (l ++ h.log) = l
  rw [Nat.add_sub_cancel, List.take_left]
theorem relog_logged {h a : Heap} (hg : Grows h a) : Logged h (relog h a) := by
  obtain ⟨h1, ⟨l, h2, h3⟩, _, h4⟩ := hg
  refine ⟨h1, fun i hi hn => ?_, h4⟩
  have hn : i ∉ logNew h a := hn
  rw [logNew_of h2] at hn
  exact h3 i hi hn
theorem Like.grows {h a b : Heap} (hg : Grows h a) (hk : Like h.next a b) : Grows h b := by
  obtain ⟨h1, ⟨l, h2, h3⟩, h4, h5⟩ := hg
  exact ⟨by rw [hk.1.1]; exact h1, ⟨l, by rw [hk.2.1]; exact h2, fun i hi hn => by rw [hk.2.2 i hi]; exact h3 i hi hn⟩, fun hw => hk.1.wfh (h4 hw), fun i hi => by rw [hk.2.2 i hi]; exact h5 i hi⟩
theorem tidy_relog {n0 : Nat} {s : Sg} {h b : Heap} (i : Nat) : (tidy n0 s (relog h b)).get i = (tidy n0 s b).get i := by
  unfold tidy
  rw [(sweep_get s.al _ n0 (relog h b) i).2.2, (sweep_get s.al _ n0 b i).2.2]
  rfl

theorem leaf_inv {o : Out} {e : Env} {h : Heap} {ds : List DVM} {L : List Res} (hk : leaf o e h ds = some L) : L = [.mk o e h ds] := (Option.some.inj hk).symm
theorem leaf_from {h : Heap} {L : List Res} (hf : FromK h leaf L) : ∀ o e h' ds, Res.mk o e h' ds ∈ L → Grows h h' := by
  intro o e h' ds hr
  obtain ⟨o', e', h1, ds', L', h2, h3, h4⟩ := hf _ hr
  have : L' = [.mk o' e' h1 ds'] := leaf_inv h2
  subst this
  rw [List.mem_singleton] at h3
  cases h3
  exact h4
theorem leaf_SX {P : Program} {n : Nat} {φ : List Emb} {w0 : World} {L : List Res} {o : Out} {K : Act → World → Prop} (h : ∀ e h' ds, Res.mk o e h' ds ∈ L → ∀ φ' w a, Up φ φ' → R P φ' h' w0 w → Vs φ' (envL n e) a.tmps.toList → DS φ' ds a.defers → K a w) : SX P φ w0 n L K (leaf o) := by
  intro e h' ds L' hk hs φ' w a hu hR he hd
  have : L' = [.mk o e h' ds] := leaf_inv hk
  subst this
  exact h e h' ds (hs _ (List.mem_singleton.2 rfl)) φ' w a hu hR he hd

theorem DS.trans {φ φ1 φ2 : List Emb} (h : ∀ i, i < φ.length → ∀ e, φ2[i]? = some e → φ1[i]? = some e) : ∀ {ds : List DVM} {l0 l : List Deferred}, DS φ ds l0 → DS φ2 ds l → DS φ1 ds l
  | [], _, _, _, hd => hd
  | .call f args :: ds, _, _, h0, hd => by
    obtain ⟨as0, cap0, xs0, _, g2, g3⟩ := h0
    obtain ⟨as, cap, xs, h1, h2, h3⟩ := hd
    exact ⟨as, cap, xs, h1, Vs.trans h _ _ _ g2 h2, DS.trans h g3 h3⟩
  | .mark k :: ds, _, _, h0, hd => by
    obtain ⟨e0, xs0, g1, _, g3⟩ := h0
    obtain ⟨e, xs, h1, h2, h3⟩ := hd
    exact ⟨e, xs, h _ (List.getElem?_eq_some_iff.1 g1).1 e h1, h2, DS.trans h g3 h3⟩
theorem eqDV_eq {a b : DVM} (h : eqDV a b = true) : a = b := by
  cases a with
  | call f xs =>
    cases b with
    | call g ys =>
      have h1 : (Bool.rec (motive := fun _ => Bool) false (beqVs xs ys) (Nat.beq f g)) = true := h
      cases hb : Nat.beq f g with
      | false => rw [hb] at h1; cases h1
      | true =>
        rw [hb] at h1
        rw [Nat.eq_of_beq_eq_true hb, beqVs_eq _ _ h1]
    | mark m => cases h
  | mark k =>
    cases b with
    | call g ys => cases h
    | mark m => rw [Nat.eq_of_beq_eq_true (show Nat.beq k m = true from h)]
theorem eqDs_eq : ∀ {a b : List DVM}, eqDs a b = true → a = b
  | [], [], _ => rfl
  | [], _ :: _, h => by cases h
  | _ :: _, [], h => by cases h
  | x :: a, y :: b, h => by
    have h1 : (Bool.rec (motive := fun _ => Bool) false (eqDs a b) (eqDV x y)) = true := h
    cases hb : eqDV x y with
    | false => rw [hb] at h1; cases h1
    | true => rw [hb] at h1; rw [eqDV_eq hb, eqDs_eq h1]
theorem allDs_mem {ds0 : List DVM} : ∀ {S : List LS}, allDs ds0 S = true → ∀ s ∈ S, s.dvs = ds0
  | [], _, s, hs => by cases hs
  | x :: S, h, s, hs => by
    have h1 : (Bool.rec (motive := fun _ => Bool) false (allDs ds0 S) (eqDs x.dvs ds0)) = true := h
    cases hb : eqDs x.dvs ds0 with
    | false => rw [hb] at h1; cases h1
    | true =>
      rw [hb] at h1
      rcases List.mem_cons.1 hs with rfl | hs
      · exact eqDs_eq hb
      · exact allDs_mem h1 s hs

section
variable {P : Program} {n : Nat}

/-! ### Less is known of a state -/

theorem killE_V (hn : n ≤ 256) {φ : List Emb} {T : List Value} : ∀ {kill : List Tmp} {e : Env}, Vs φ (envL n e) T → Vs φ (envL n (killE n kill e)) T
  | [], _, h => h
  | t :: kill, e, h => by
    show Vs φ (envL n ((tmpD n t).put .unk (killE n kill e))) T
    rw [tmpD_put hn]
    have ih := killE_V hn (kill := kill) h
    refine Vs.of_get (by simp [ih.length]) fun i a v ha hv => ?_
    rw [List.getElem?_set] at ha
    split at ha
    · split at ha
      · cases ha; simp [V]
      · cases ha
    · obtain ⟨u, hu, hV⟩ := ih.get i a ha
      rw [hu] at hv; cases hv; exact hV
theorem noCur1_run (i : Nat) (h : Heap) : (noCur1 i h).next = h.next ∧ (noCur1 i h).log = h.log ∧ ∀ j, (noCur1 i h).get j = h.get j ∨ (j = i ∧ ∃ m s seen k l, h.get j = some (.iter m s seen (some k) l) ∧ (noCur1 i h).get j = some (.iter m s seen none l)) := by
  unfold noCur1
  split
  · rename_i m s seen k l hg
    refine ⟨rfl, rfl, fun j => ?_⟩
    by_cases hij : i = j
    · subst hij
      exact .inr ⟨rfl, m, s, seen, k, l, hg, T16.get_put _ _ _⟩
    · exact .inl (T16.get_put_ne _ hij _)
  · exact ⟨rfl, rfl, fun j => .inl rfl⟩
theorem R.noCur1 {φ : List Emb} {h : Heap} {w0 w : World} (hR : R P φ h w0 w) (i : Nat) : R P φ (noCur1 i h) w0 w := by
  obtain ⟨h1, _, h3⟩ := noCur1_run i h
  have key : ∀ j o, (Go.Am.noCur1 i h).get j = some o → ∃ o', h.get j = some o' ∧ o.isOwn = o'.isOwn ∧ ∀ e, O φ e w o' → O φ e w o := by
    intro j o ho
    rcases h3 j with h4 | ⟨_, m, s, seen, k, l, h4, h5⟩
    · rw [h4] at ho; exact ⟨o, ho, rfl, fun _ h => h⟩
    · rw [h5] at ho; cases ho
      refine ⟨_, h4, rfl, fun e hO => ?_⟩
      obtain ⟨m', S, g1, g2, g3, _, g5⟩ := hO
      exact ⟨m', S, g1, g2, g3, (fun _ hh => by cases hh), g5⟩
  exact {
    below := hR.below
    len := by rw [hR.len, h1]
    objs := fun j o ho => by
      obtain ⟨o', h4, h5, h6⟩ := key j o ho
      obtain ⟨e, he, hO, hw⟩ := hR.objs j o' h4
      exact ⟨e, he, h6 e hO, fun hh => hw (by rw [← h5]; exact hh)⟩
    sep := fun a b oa ob ea eb hab ha hb hea heb hown => by
      obtain ⟨oa', h4, h5, _⟩ := key a oa ha
      obtain ⟨ob', h6, _, _⟩ := key b ob hb
      exact hR.sep a b oa' ob' ea eb hab h4 h6 hea heb (by rw [← h5]; exact hown)
    glob := hR.glob }
theorem R.noCur {φ : List Emb} {w0 w : World} : ∀ {l : List Nat} {h : Heap}, R P φ h w0 w → R P φ (noCur l h) w0 w
  | [], _, hR => hR
  | i :: l, h, hR => R.noCur (l := l) (hR.noCur1 i)
theorem noCur1_grows {h0 h : Heap} {i : Nat} (hi : i ∈ logNew h0 h) (hg : Grows h0 h) : Grows h0 (noCur1 i h) ∧ logNew h0 (noCur1 i h) = logNew h0 h := by
  obtain ⟨h1, h2, h3⟩ := noCur1_run i h
  obtain ⟨g1, ⟨l, g2, g3⟩, g4, g5⟩ := hg
  have hl : logNew h0 h = l := logNew_of g2
  refine ⟨⟨by rw [h1]; exact g1, ⟨l, by rw [h2]; exact g2, fun j hj hn => ?_⟩, fun hw j hj => ?_, fun j hj => ?_⟩, ?_⟩
  · rcases h3 j with h4 | ⟨rfl, _⟩
    · rw [h4]; exact g3 j hj hn
    · rw [hl] at hi; exact absurd hi hn
  · have hw' := g4 hw j (by rw [h1] at hj; exact hj)
    rcases h3 j with h4 | ⟨_, m, s, seen, k, l, h4, _⟩
    · rw [h4]; exact hw'
    · rw [hw'] at h4; cases h4
  · refine (g5 j hj).trans ?_
    rcases h3 j with h4 | ⟨_, m, s, seen, k, l, h4, h5⟩
    · rw [h4]; exact Stay.refl _
    · rw [h4, h5]; intro o ho; cases ho; exact ⟨_, rfl, rfl⟩
  · rw [hl]; exact logNew_of (by rw [h2]; exact g2)
theorem noCur_grows {h0 : Heap} : ∀ {l : List Nat} {h : Heap}, (∀ i ∈ l, i ∈ logNew h0 h) → Grows h0 h → Grows h0 (noCur l h)
  | [], _, _, hg => hg
  | i :: l, h, hl, hg => by
    obtain ⟨h1, h2⟩ := noCur1_grows (hl i List.mem_cons_self) hg
    exact noCur_grows (l := l) (fun j hj => by rw [h2]; exact hl j (List.mem_cons_of_mem _ hj)) h1

theorem noCur_log : ∀ {l : List Nat} {h : Heap}, (noCur l h).log = h.log
  | [], _ => rfl
  | i :: l, h => (noCur_log (l := l) (h := noCur1 i h)).trans (noCur1_run i h).2.1
theorem bag1_grows {h0 h : Heap} {i : Nat} (hi : i ∈ logNew h0 h) (hg : Grows h0 h) : Grows h0 (bag1 i h) ∧ logNew h0 (bag1 i h) = logNew h0 h := by
  obtain ⟨h1, h2, h3⟩ := bag1_run i h
  obtain ⟨g1, ⟨l, g2, g3⟩, g4, g5⟩ := hg
  have hl : logNew h0 h = l := logNew_of g2
  refine ⟨⟨by rw [h1]; exact g1, ⟨l, by rw [h2]; exact g2, fun j hj hn => ?_⟩, fun hw j hj => ?_, fun j hj => ?_⟩, ?_⟩
  · rcases h3 j with h4 | ⟨rfl, _⟩
    · rw [h4]; exact g3 j hj hn
    · rw [hl] at hi; exact absurd hi hn
  · have hw' := g4 hw j (by rw [h1] at hj; exact hj)
    rcases h3 j with h4 | ⟨_, es, c, _, h4, _⟩
    · rw [h4]; exact hw'
    · rw [hw'] at h4; cases h4
  · refine (g5 j hj).trans ?_
    rcases h3 j with h4 | ⟨_, es, c, _, h4, h5⟩
    · rw [h4]; exact Stay.refl _
    · rw [h4, h5]; intro o ho; cases ho; exact ⟨_, rfl, rfl⟩
  · rw [hl]; exact logNew_of (by rw [h2]; exact g2)
theorem bagL_grows {h0 : Heap} : ∀ {l : List Nat} {h : Heap}, (∀ i ∈ l, i ∈ logNew h0 h) → Grows h0 h → Grows h0 (bagL l h)
  | [], _, _, hg => hg
  | i :: l, h, hl, hg => by
    obtain ⟨h1, h2⟩ := bag1_grows (hl i List.mem_cons_self) hg
    exact bagL_grows (l := l) (fun j hj => by rw [h2]; exact hl j (List.mem_cons_of_mem _ hj)) h1
theorem R.bagL {φ : List Emb} {w0 w : World} : ∀ {l : List Nat} {h : Heap}, R P φ h w0 w → R P φ (bagL l h) w0 w
  | [], _, hR => hR
  | i :: l, h, hR => R.bagL (l := l) (hR.bag1 i)
theorem wk_grows {h0 h : Heap} (hg : Grows h0 h) : Grows h0 (bagL (logNew h0 h) (noCur (logNew h0 h) h)) :=
  bagL_grows (fun i hi => by unfold logNew at hi ⊢; rw [noCur_log]; exact hi) (noCur_grows (fun _ hi => hi) hg)

/-! ### What is covered by other states -/

/-- Whatever the one state shows, one of the others shows too. -/
def Cov (P : Program) (n : Nat) (h0 : Heap) (ds0 : List DVM) (s : LS) (reps : List LS) : Prop :=
  ∀ φ0 w0 wE dl0, R P φ0 h0 w0 wE → DS φ0 ds0 dl0 → ∀ φ w T dl, Up φ0 φ → R P φ s.heap w0 w → Vs φ (envL n s.env) T → DS φ s.dvs dl →
    ∃ s' ∈ reps, ∃ φ1, Up φ0 φ1 ∧ R P φ1 s'.heap w0 w ∧ Vs φ1 (envL n s'.env) T ∧ DS φ1 s'.dvs dl
/-- The same states, some telling less. -/
def LessS (n0 : Nat) (r r' : LS) : Prop := r'.env = r.env ∧ r'.dvs = r.dvs ∧ Like n0 r.heap r'.heap
theorem Cov.mono {h0 : Heap} {ds0 : List DVM} {s : LS} {reps reps' : List LS} (h : Cov P n h0 ds0 s reps) (hr : ∀ r ∈ reps, ∃ r' ∈ reps', LessS h0.next r r') : Cov P n h0 ds0 s reps' := by
  intro φ0 w0 wE dl0 hR0 hd0 φ w T dl hu hR he hd
  obtain ⟨r, hr1, φ1, h1, h2, h3, h4⟩ := h φ0 w0 wE dl0 hR0 hd0 φ w T dl hu hR he hd
  obtain ⟨r', hr2, h5, h6, h7⟩ := hr r hr1
  exact ⟨r', hr2, φ1, h1, h2.less h7.1, by rw [h5]; exact h3, by rw [h6]; exact h4⟩
theorem Cov.self {h0 : Heap} {ds0 : List DVM} {s : LS} {reps : List LS} (h : s ∈ reps) : Cov P n h0 ds0 s reps :=
  fun φ0 w0 wE dl0 hR0 hd0 φ w T dl hu hR he hd => ⟨s, h, φ, hu, hR, he, hd⟩
theorem insS_run {h0 : Heap} {ds0 : List DVM} {s : LS} (hs : s.dvs = ds0) (hgs : Grows h0 s.heap) : ∀ {reps : List LS}, (∀ r ∈ reps, r.dvs = ds0 ∧ Grows h0 r.heap) →
    Cov P n h0 ds0 s (insS n h0 s reps) ∧ (∀ r ∈ reps, ∃ r' ∈ insS n h0 s reps, LessS h0.next r r') ∧ ∀ r ∈ insS n h0 s reps, r.dvs = ds0 ∧ Grows h0 r.heap
  | [], _ => ⟨Cov.self (List.mem_singleton.2 rfl), by simp, fun r hr => by
      have : r ∈ [s] := hr
      rw [List.mem_singleton] at this
      subst this
      exact ⟨hs, hgs⟩⟩
  | r :: rs, hreps => by
    have hdef : insS n h0 s (r :: rs) = Option.rec (motive := fun _ => List LS) (r :: insS n h0 s rs) (fun sg => .mk r.env (tidy h0.next sg r.heap) r.dvs :: rs) (mrg h0.next (envL n r.env) (relog h0 r.heap) (envL n s.env) (relog h0 s.heap)) := rfl
    obtain ⟨hrd, hrg⟩ := hreps r List.mem_cons_self
    cases hm : mrg h0.next (envL n r.env) (relog h0 r.heap) (envL n s.env) (relog h0 s.heap) with
    | none =>
      rw [hdef, hm]
      obtain ⟨i1, i2, i3⟩ := insS_run hs hgs (reps := rs) (fun q hq => hreps q (List.mem_cons_of_mem _ hq))
      refine ⟨i1.mono fun q hq => ⟨q, List.mem_cons_of_mem _ hq, rfl, rfl, Like.refl _ _⟩, fun q hq => ?_, fun q hq => ?_⟩
      · rcases List.mem_cons.1 hq with rfl | hq
        · exact ⟨q, List.mem_cons_self, rfl, rfl, Like.refl _ _⟩
        · obtain ⟨q', h1, h2⟩ := i2 q hq
          exact ⟨q', List.mem_cons_of_mem _ h1, h2⟩
      · rcases List.mem_cons.1 hq with rfl | hq
        · exact ⟨hrd, hrg⟩
        · exact i3 q hq
    | some sg =>
      rw [hdef, hm]
      have hlk : Like h0.next r.heap (tidy h0.next sg r.heap) := Like.tidy _ _ _
      refine ⟨?_, fun q hq => ?_, fun q hq => ?_⟩
      · intro φ0 w0 wE dl0 hR0 hd0 φ w T dl hu hR he hd
        have hR' : R P φ (relog h0 s.heap) w0 w := hR.relog rfl (fun _ => rfl)
        obtain ⟨φ1, hu1, hR1, hv1⟩ := merge_run hm hR0 hu hR' (relog_logged hrg) (relog_logged hgs) (show Wfh (relog h0 r.heap) from hrg.2.2.1 hR0.wfh)
        refine ⟨_, List.mem_cons_self, φ1, hu1, hR1.relog (by show (tidy h0.next sg r.heap).next = _; rw [tidy_next, tidy_next]; rfl) (fun i => (tidy_relog i).symm), hv1 _ he, ?_⟩
        show DS φ1 r.dvs dl
        rw [hrd]
        rw [hs] at hd
        exact DS.trans (φ := φ0) (fun i hi e he => by
          have h1 : φ0[i]? = some φ0[i] := List.getElem?_eq_getElem hi
          have h2 := hu.get h1
          rw [he] at h2
          cases h2
          exact hu1.get h1) hd0 hd
      · rcases List.mem_cons.1 hq with rfl | hq
        · exact ⟨_, List.mem_cons_self, rfl, rfl, hlk⟩
        · exact ⟨q, List.mem_cons_of_mem _ hq, rfl, rfl, Like.refl _ _⟩
      · rcases List.mem_cons.1 hq with rfl | hq
        · exact ⟨hrd, hlk.grows hrg⟩
        · exact hreps q (List.mem_cons_of_mem _ hq)
theorem wkS_run (hn : n ≤ 256) {h0 : Heap} {kill : List Tmp} {s : LS} (hg : Grows h0 s.heap) : (wkS n h0 kill s).dvs = s.dvs ∧ Grows h0 (wkS n h0 kill s).heap ∧ ∀ φ w0 w T, R P φ s.heap w0 w → Vs φ (envL n s.env) T → R P φ (wkS n h0 kill s).heap w0 w ∧ Vs φ (envL n (wkS n h0 kill s).env) T := by
  obtain ⟨e, h, ds⟩ := s
  exact ⟨rfl, wk_grows hg, fun φ w0 w T hR he => ⟨hR.noCur.bagL, killE_V hn he⟩⟩
theorem foldS_run (hn : n ≤ 256) {h0 : Heap} {kill : List Tmp} {ds0 : List DVM} : ∀ {S : List LS}, (∀ s ∈ S, s.dvs = ds0 ∧ Grows h0 s.heap) → (∀ s ∈ S, Cov P n h0 ds0 s (foldS n h0 kill S)) ∧ ∀ r ∈ foldS n h0 kill S, r.dvs = ds0 ∧ Grows h0 r.heap
  | [], _ => ⟨by simp, fun r hr => by cases hr⟩
  | s :: S, hS => by
    obtain ⟨hsd, hsg⟩ := hS s List.mem_cons_self
    obtain ⟨i1, i2⟩ := foldS_run hn (kill := kill) (S := S) (fun q hq => hS q (List.mem_cons_of_mem _ hq))
    obtain ⟨k1, k2, k3⟩ := wkS_run (P := P) hn (kill := kill) hsg
    obtain ⟨j1, j2, j3⟩ := insS_run (P := P) (n := n) (k1.trans hsd) k2 i2
    refine ⟨fun q hq => ?_, j3⟩
    rcases List.mem_cons.1 hq with rfl | hq
    · intro φ0 w0 wE dl0 hR0 hd0 φ w T dl hu hR he hd
      obtain ⟨hR', he'⟩ := k3 φ w0 w T hR he
      exact j1 φ0 w0 wE dl0 hR0 hd0 φ w T dl hu hR' he' (by rw [k1]; exact hd)
    · exact (i1 q hq).mono j2
theorem mergeF_run (hn : n ≤ 256) {h0 : Heap} {kill : List Tmp} {ds0 : List DVM} {S : List LS} (hS : ∀ s ∈ S, Grows h0 s.heap) : (∀ s ∈ S, Cov P n h0 ds0 s (mergeF n h0 kill ds0 S)) ∧ ∀ r ∈ mergeF n h0 kill ds0 S, Grows h0 r.heap := by
  match S, hS with
  | [], _ => exact ⟨by simp, fun r hr => by cases hr⟩
  | [s], hS => exact ⟨fun q hq => Cov.self hq, hS⟩
  | s :: t :: S, hS =>
    have hdef : mergeF n h0 kill ds0 (s :: t :: S) = Bool.rec (motive := fun _ => List LS) (s :: t :: S) (foldS n h0 kill (s :: t :: S)) (allDs ds0 (s :: t :: S)) := rfl
    rw [hdef]
    cases ha : allDs ds0 (s :: t :: S) with
    | false => exact ⟨fun q hq => Cov.self hq, hS⟩
    | true =>
      obtain ⟨h1, h2⟩ := foldS_run (P := P) hn (h0 := h0) (kill := kill) (ds0 := ds0) (S := s :: t :: S) (fun q hq => ⟨allDs_mem ha q hq, hS q hq⟩)
      exact ⟨h1, fun r hr => (h2 r hr).2⟩

/-! ### The loop -/

theorem normalsR_mem : ∀ {l : List Res} {s : LS}, s ∈ normalsR l ↔ Res.mk .normal s.env s.heap s.dvs ∈ l
  | [], s => by simp [normalsR]
  | r :: l, s => by
    obtain ⟨o, e, h, ds⟩ := r
    have hs : LS.mk s.env s.heap s.dvs = s := by cases s; rfl
    have ih := normalsR_mem (l := l) (s := s)
    cases o with
    | normal =>
      show s ∈ LS.mk e h ds :: normalsR l ↔ _
      rw [List.mem_cons, List.mem_cons, ih]
      refine or_congr ⟨fun hh => by subst hh; rfl, fun hh => ?_⟩ Iff.rfl
      cases hh; exact hs.symm
    | exit i => show s ∈ normalsR l ↔ _; rw [ih, List.mem_cons]; exact ⟨.inr, fun hh => hh.resolve_left (fun h => by cases h)⟩
    | ret => show s ∈ normalsR l ↔ _; rw [ih, List.mem_cons]; exact ⟨.inr, fun hh => hh.resolve_left (fun h => by cases h)⟩
    | pan v => show s ∈ normalsR l ↔ _; rw [ih, List.mem_cons]; exact ⟨.inr, fun hh => hh.resolve_left (fun h => by cases h)⟩
theorem othersR_mem {κ : KO} : ∀ {l : List Res} {L : List Res}, othersR κ l = some L → (∀ o e h ds, Res.mk o e h ds ∈ l → o ≠ .normal → ∃ L', κ o e h ds = some L' ∧ ∀ r ∈ L', r ∈ L) ∧ ∀ r ∈ L, ∃ o e h ds L', Res.mk o e h ds ∈ l ∧ κ o e h ds = some L' ∧ r ∈ L'
  | [], L, h => by cases h; exact ⟨by simp, by simp⟩
  | r :: l, L, h => by
    obtain ⟨o, e, hh, ds⟩ := r
    have go : ∀ {o' : Out}, joinR (κ o' e hh ds) (othersR κ l) = some L → o = o' → (∀ o e2 h ds', Res.mk o e2 h ds' ∈ Res.mk o' e hh ds :: l → o ≠ .normal → ∃ L', κ o e2 h ds' = some L' ∧ ∀ r ∈ L', r ∈ L) ∧ ∀ r ∈ L, ∃ o e2 h ds' L', Res.mk o e2 h ds' ∈ Res.mk o' e hh ds :: l ∧ κ o e2 h ds' = some L' ∧ r ∈ L' := by
      intro o' hj _
      obtain ⟨x, y, hx, hy, rfl⟩ := joinR_some hj
      obtain ⟨g1, g2⟩ := othersR_mem hy
      refine ⟨fun o1 e1 h1 ds1 hm hne => ?_, fun r hr => ?_⟩
      · rcases List.mem_cons.1 hm with hm | hm
        · cases hm; exact ⟨x, hx, fun r hr => List.mem_append.2 (.inl hr)⟩
        · obtain ⟨L', h2, h3⟩ := g1 o1 e1 h1 ds1 hm hne
          exact ⟨L', h2, fun r hr => List.mem_append.2 (.inr (h3 r hr))⟩
      · rcases List.mem_append.1 hr with hr | hr
        · exact ⟨_, _, _, _, x, List.mem_cons_self, hx, hr⟩
        · obtain ⟨o1, e1, h1, ds1, L', h2, h3, h4⟩ := g2 r hr
          exact ⟨o1, e1, h1, ds1, L', List.mem_cons_of_mem _ h2, h3, h4⟩
    cases o with
    | normal =>
      obtain ⟨g1, g2⟩ := othersR_mem (show othersR κ l = some L from h)
      refine ⟨fun o1 e1 h1 ds1 hm hne => ?_, fun r hr => ?_⟩
      · rcases List.mem_cons.1 hm with hm | hm
        · cases hm; exact absurd rfl hne
        · exact g1 o1 e1 h1 ds1 hm hne
      · obtain ⟨o1, e1, h1, ds1, L', h2, h3, h4⟩ := g2 r hr
        exact ⟨o1, e1, h1, ds1, L', List.mem_cons_of_mem _ h2, h3, h4⟩
    | exit i => exact go (o' := .exit i) h rfl
    | ret => exact go (o' := .ret) h rfl
    | pan v => cases h
theorem runAll_mem {b : KO → KX} : ∀ {S : List LS} {l : List Res}, runAll b S = some l → (∀ s ∈ S, ∃ l', b leaf s.env s.heap s.dvs = some l' ∧ ∀ r ∈ l', r ∈ l) ∧ ∀ r ∈ l, ∃ s ∈ S, ∃ l', b leaf s.env s.heap s.dvs = some l' ∧ r ∈ l'
  | [], l, h => by cases h; exact ⟨by simp, by simp⟩
  | s :: S, l, h => by
    obtain ⟨e, hh, ds⟩ := s
    obtain ⟨x, y, hx, hy, rfl⟩ := joinR_some (show joinR (b leaf e hh ds) (runAll b S) = some l from h)
    obtain ⟨g1, g2⟩ := runAll_mem hy
    refine ⟨fun s hs => ?_, fun r hr => ?_⟩
    · rcases List.mem_cons.1 hs with rfl | hs
      · exact ⟨x, hx, fun r hr => List.mem_append.2 (.inl hr)⟩
      · obtain ⟨l', h1, h2⟩ := g1 s hs
        exact ⟨l', h1, fun r hr => List.mem_append.2 (.inr (h2 r hr))⟩
    · rcases List.mem_append.1 hr with hr | hr
      · exact ⟨_, List.mem_cons_self, x, hx, hr⟩
      · obtain ⟨s, hs, l', h1, h2⟩ := g2 r hr
        exact ⟨s, List.mem_cons_of_mem _ hs, l', h1, h2⟩
theorem goL_inv {kill : List Tmp} {b : KO → KX} {κ : KO} {h0 : Heap} {ds0 : List DVM} {m : Nat} {S : List LS} {L : List Res} (hr : goL n kill b κ h0 ds0 (m + 1) S = some L) :
    ∃ l x y, runAll b S = some l ∧ othersR κ l = some x ∧ contL (goL n kill b κ h0 ds0 m) (mergeF n h0 kill ds0 (normalsR l)) = some y ∧ L = x ++ y := by
  have h1 : (Option.rec (motive := fun _ => RX) none (fun l => joinR (othersR κ l) (contL (goL n kill b κ h0 ds0 m) (mergeF n h0 kill ds0 (normalsR l)))) (runAll b S)) = some L := hr
  cases hl : runAll b S with
  | none => rw [hl] at h1; cases h1
  | some l =>
    rw [hl] at h1
    obtain ⟨x, y, hx, hy, h2⟩ := joinR_some h1
    exact ⟨l, x, y, rfl, hx, hy, h2⟩
theorem contL_inv {k : List LS → RX} {S : List LS} {y : List Res} (h : contL k S = some y) : (S = [] ∧ y = []) ∨ k S = some y := by
  cases S with
  | nil => exact .inl ⟨rfl, (Option.some.inj h).symm⟩
  | cons s S => exact .inr h
theorem loopG_from (P : Program) (hn : n ≤ 256) {kill : List Tmp} {b : KO → KX} {κ : KO} {N : Nat} (hb : ∀ e h ds L, b leaf e h ds = some L → FromK h leaf L) {e : Env} {h : Heap} {ds : List DVM} {L : List Res} (hr : loopG n kill b κ N e h ds = some L) : FromK h κ L := by
  have key : ∀ (m : Nat) (S : List LS) (L : List Res), (∀ s ∈ S, Grows h s.heap) → goL n kill b κ h ds m S = some L → FromK h κ L := by
    intro m
    induction m with
    | zero => intro S L _ hr; cases hr
    | succ m ih =>
      intro S L hS hr
      obtain ⟨l, x, y, hl, hx, hy, rfl⟩ := goL_inv hr
      obtain ⟨_, r2⟩ := runAll_mem hl
      obtain ⟨_, o2⟩ := othersR_mem hx
      have hlg : ∀ o e' h' ds', Res.mk o e' h' ds' ∈ l → Grows h h' := by
        intro o e' h' ds' hm
        obtain ⟨s, hs, l', h1, h2⟩ := r2 _ hm
        exact (hS s hs).trans (leaf_from (hb _ _ _ _ h1) _ _ _ _ h2)
      intro r hrm
      rcases List.mem_append.1 hrm with hrm | hrm
      · obtain ⟨o, e', h', ds', L', h1, h2, h3⟩ := o2 r hrm
        exact ⟨o, e', h', ds', L', h2, h3, hlg _ _ _ _ h1⟩
      · rcases contL_inv hy with ⟨_, rfl⟩ | hy
        · cases hrm
        · refine ih _ y (mergeF_run (P := P) hn fun s hs => ?_).2 hy r hrm
          exact hlg _ _ _ _ (normalsR_mem.1 hs)
  refine key N _ L (fun s hs => ?_) hr
  rw [List.mem_singleton] at hs
  subst hs
  exact Grows.refl _
end
end Go.Am

noncomputable section
namespace Go.Am
open Go.RowKit

/-- An own object is forgotten; its block is as it may. -/
theorem R.forget {P : Program} {φ : List Emb} {h : Heap} {w0 w w' : World} (hR : R P φ h w0 w) {i : Nat} {o : Obj} {e : Emb} (hi : h.get i = some o) (hown : o.isOwn = true) (he : φ[i]? = some e)
    (hb : ∀ k, k ≠ e.blk → w'.heap[k]? = w.heap[k]?) (hsz : w'.heap.size = w.heap.size) (hos : w'.os = w.os) (ht : w'.tape = w.tape) (hout : w'.output = w.output) : R P φ (h.del i) w0 w' where
  below := hR.below.trans ⟨hos, ht, hout, by omega, fun k hk => by
    refine hb k ?_
    obtain ⟨e', he', _, hw⟩ := hR.objs i o hi
    rw [he] at he'
    cases he'
    have := hw hown
    omega⟩
  len := by simp [hR.len, Heap.next_del]
  objs := fun j oj hj => by
    by_cases hij : i = j
    · subst hij; rw [Heap.get_del] at hj; cases hj
    · rw [Heap.get_del_ne _ hij] at hj
      obtain ⟨ej, hej, hoj, hwj⟩ := hR.objs j oj hj
      exact ⟨ej, hej, O.same (hb _ (Ne.symm (hR.sep i j o oj e ej hij hi hj he hej hown))) hoj, hwj⟩
  sep := fun a b oa ob ea eb hab ha hb' hea heb hoa => by
    have key : ∀ k ok, (h.del i).get k = some ok → h.get k = some ok := by
      intro k ok hk
      by_cases hki : i = k
      · subst hki; rw [Heap.get_del] at hk; cases hk
      · rwa [Heap.get_del_ne _ hki] at hk
    exact hR.sep a b oa ob ea eb hab (key _ _ ha) (key _ _ hb') hea heb hoa
  glob := hR.glob
theorem putObj_other {w : World} {r k : Nat} {o : Go.Obj} (h : k ≠ r) : (w.putObj r o).heap[k]? = w.heap[k]? := World.putObj_heap_other h

theorem VE_of_Vs {φ : List Emb} {n : Nat} (hn : n ≤ 256) {e : Env} {T : Array Value} (h : Vs φ (envL n e) T.toList) : VE φ e T := by
  have hl : T.size = n := by rw [← Array.length_toList, h.length, envL_length]
  refine ⟨by omega, fun t ht => ?_⟩
  have := nth_V h t
  rw [nth_envL, if_pos (by omega)] at this
  simpa [Array.getD_eq_getD_getElem?, List.getD_eq_getElem?_getD] using this
theorem Vs_of_VE {φ : List Emb} {e : Env} {T : Array Value} (h : VE φ e T) : Vs φ (envL T.size e) T.toList := by
  refine Vs.of_get (by rw [envL_length, Array.length_toList]) fun t a v ha hv => ?_
  rw [envL_get] at ha
  split at ha
  · rename_i hlt
    cases ha
    have := h.2 t hlt
    rw [Array.getElem?_toList] at hv
    simpa [Array.getD_eq_getD_getElem?, hv] using this
  · cases ha

section
variable {P : Program} {call : CallM} {plan : FuncId → Nat → Option Plan} {n N fid : Nat}

theorem rangeEnd_inv {k k0 : Nat} {e : Env} {ds : List DVM} {κ : KO} {h : Heap} {L : List Res} (hr : rangeEnd k k0 e ds κ h = some L) :
    ∃ st pend m e' ps a b d o, h.get k = some (.loop st pend m e' ps a b d) ∧ st ≠ .busy ∧ ((pend = none ∧ o = Out.normal) ∨ (pend = some .ret ∧ o = .ret) ∨ ∃ i, pend = some (.exit i) ∧ o = .exit i) ∧ κ o e (h.del k) (.mark k0 :: ds) = some L := by
  unfold rangeEnd at hr
  split at hr
  · rename_i hg; exact ⟨_, _, _, _, _, _, _, _, .normal, hg, by simp, .inl ⟨rfl, rfl⟩, hr⟩
  · rename_i hg; exact ⟨_, _, _, _, _, _, _, _, .ret, hg, by simp, .inr (.inl ⟨rfl, rfl⟩), hr⟩
  · rename_i hg; exact ⟨_, _, _, _, _, _, _, _, _, hg, by simp, .inr (.inr ⟨_, rfl, rfl⟩), hr⟩
  · cases hr
theorem rangeM_inv {f : Operand} {ps : Array Tmp} {a b : Code} {κ : KO} {e : Env} {h : Heap} {ds : List DVM} {L : List Res} (hr : rangeM P call n (srcOf P n f) ps a b κ e h ds = some L) :
    ∃ g first cap l0, evalA P (envL n e) f = .func (.func g) first cap ∧ hasBody P g = true ∧ call g ((first ++ [.yield (h.next + 1)]) ++ cap) ((h.alloc .defs).alloc (.loop .ready none n e ps a b h.next)) = some l0 ∧ OutsL l0 (fun p => rangeEnd (h.next + 1) h.next e ds κ p.2) L := by
  unfold rangeM at hr
  cases hf : asFn ((srcOf P n f).ev e) with
  | no => rw [hf] at hr; cases hr
  | yield y => rw [hf] at hr; cases hr
  | fn g first cap =>
    rw [hf] at hr
    have hr1 : (Bool.rec (motive := fun _ => RX) none (fan (call g (appF (appF first [.yield (Nat.succ h.next)]) cap) ((h.alloc .defs).alloc (.loop .ready none n e ps a b h.next))) fun _ h' => rangeEnd (Nat.succ h.next) h.next e ds κ h') (hasBody P g)) = some L := hr
    cases hb : hasBody P g with
    | false => rw [hb] at hr1; cases hr1
    | true =>
      rw [hb] at hr1
      have hr2 : fan (call g (appF (appF first [.yield (Nat.succ h.next)]) cap) ((h.alloc .defs).alloc (.loop .ready none n e ps a b h.next))) (fun _ h' => rangeEnd (Nat.succ h.next) h.next e ds κ h') = some L := hr1
      rw [appF_eq, appF_eq] at hr2
      obtain ⟨l0, h1, h2⟩ := fan_some hr2
      have hev := asFn_fn hf
      rw [srcOf_ev] at hev
      exact ⟨g, first, cap, l0, hev, hb, h1, h2⟩

theorem condM_inv {c : Operand} {x y : KX} {e : Env} {h : Heap} {ds : List DVM} {L : List Res} (hr : (Src.rec (fun g => condM g x y) (srcOf P n c) : KX) e h ds = some L) : ∃ t, evalA P (envL n e) c = .bool t ∧ (if t then x else y) e h ds = some L := by
  have hev := srcOf_ev P n c e
  cases hs : srcOf P n c with
  | mk g =>
    rw [hs] at hr hev
    have hev : g e = evalA P (envL n e) c := hev
    have hr1 : (Option.rec (motive := fun _ => RX) none (fun t => Bool.rec (motive := fun _ => RX) (y e h ds) (x e h ds) t) (asB (g e))) = some L := hr
    cases hb : asB (g e) with
    | none => rw [hb] at hr1; cases hr1
    | some t =>
      rw [hb] at hr1
      refine ⟨t, by rw [← hev]; exact asB_some hb, ?_⟩
      cases t with
      | true => exact hr1
      | false => exact hr1

/-! ### Memory goes on -/

theorem exM_from (hcall : CallMOk P call) (hn : n ≤ 256) {inR : Bool} : ∀ (c : Code) (κ : KO) (e : Env) (h : Heap) (ds : List DVM) (L : List Res), exM P (drawX P plan) call inR fid n N c κ e h ds = some L → FromK h κ L
  | .skip, κ, e, h, ds, L, hr => FromK.self (o := .normal) hr
  | .label _, κ, e, h, ds, L, hr => FromK.self (o := .normal) hr
  | .exit i, κ, e, h, ds, L, hr => FromK.self (o := .exit i) hr
  | .ret, κ, e, h, ds, L, hr => FromK.self (o := .ret) hr
  | .region id ops dr, κ, e, h, ds, L, hr => by
    refine FromK.of_from (k := κ .normal) ?_ (fun e h ds L' hk => FromK.self hk)
    cases dr with
    | true => exact drawX_from hcall hn hr
    | false =>
      have hr1 : opsM call (compOps P inR n ops) (κ .normal) e h ds = some L := hr
      rw [compOps, mapF_eq] at hr1
      exact opsM_from hcall _ _ _ _ _ hr1
  | .seq a b, κ, e, h, ds, L, hr => by
    refine (exM_from hcall hn a _ e h ds L hr).trans fun o e' h' ds' L' hk => ?_
    cases o with
    | normal => exact exM_from hcall hn b κ e' h' ds' L' hk
    | exit i => exact FromK.self (o := .exit i) hk
    | ret => exact FromK.self (o := .ret) hk
    | pan v => exact FromK.self (o := .pan v) hk
  | .cond c a b, κ, e, h, ds, L, hr => by
    obtain ⟨t, _, hr1⟩ := condM_inv (x := exM P (drawX P plan) call inR fid n N a κ) (y := exM P (drawX P plan) call inR fid n N b κ) hr
    cases t with
    | true => exact exM_from hcall hn a κ e h ds L hr1
    | false => exact exM_from hcall hn b κ e h ds L hr1
  | .block id b, κ, e, h, ds, L, hr => by
    refine (exM_from hcall hn b _ e h ds L hr).trans fun o e' h' ds' L' hk => ?_
    cases o with
    | normal => exact FromK.self (o := .normal) hk
    | exit i =>
      have hk1 : (Bool.rec (motive := fun _ => KX) (κ (.exit i)) (κ .normal) (Nat.beq i id)) e' h' ds' = some L' := hk
      cases hb : Nat.beq i id with
      | true => rw [hb] at hk1; exact FromK.self (o := .normal) hk1
      | false => rw [hb] at hk1; exact FromK.self (o := .exit i) hk1
    | ret => exact FromK.self (o := .ret) hk
    | pan v => exact FromK.self (o := .pan v) hk
  | .loop b, κ, e, h, ds, L, hr => by
    exact loopG_from P hn (fun e h ds L hb => exM_from hcall hn b leaf e h ds L hb) hr
  | .rangeFunc f ps a b, κ, e, h, ds, L, hr => by
    cases inR with
    | true => cases hr
    | false =>
      obtain ⟨g, first, cap, l0, h1, h2, h3, h4⟩ := rangeM_inv (κ := κ) hr
      intro r hrL
      obtain ⟨p, hp, L', h5, h6⟩ := h4.2 r hrL
      obtain ⟨st, pend, m, e', ps', a', b', d, o, _, _, _, h7⟩ := rangeEnd_inv h5
      exact ⟨o, _, _, _, L', h7, h6, (((Grows.alloc _ _).trans (Grows.alloc _ _)).trans (hcall.grow _ _ _ _ h3 p hp)).trans (Grows.del _ _)⟩
  | .scope .., κ, e, h, ds, L, hr => by cases hr
  | .goto _, κ, e, h, ds, L, hr => by cases hr
  | .refuse _, κ, e, h, ds, L, hr => by cases hr
end
end Go.Am
