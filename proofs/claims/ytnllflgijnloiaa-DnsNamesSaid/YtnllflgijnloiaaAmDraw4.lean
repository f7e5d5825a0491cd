/- Regions that draw their order, where the order of what makes memory is free too: every order is looked at. -/
import Derived.Test.YtnllflgijnloiaaAmDyn
namespace Go.Am
open Go.RowKit

/-- A way to look at every order: what is quiet is done as soon as it may be; of what is loud each may be the next. -/
inductive Plan where
  | done
  | quiet (i : Nat) (p : Plan)
  | alt (i : Nat) (cs : List Nat) (p q : Plan)
  | stop

def strictOk (ops : Array Oper) (bs : List Nat) : Bool :=
  allFrom (fun j y => (y.after.toList.all fun e => !bindsA e || Nat.blt e.on j) &&
    allFrom (fun i x => (Nat.beq i j || dstOk x y) && (match x.dst with | some d => !(usesA ops y).contains d || Nat.testBit (bs.getD j 0) i | none => true)) ops.toList 0) ops.toList 0
def subOk (ops : Array Oper) (bs : List Nat) (i : Nat) (L : List Nat) : Bool := allFrom (fun j _ => !Nat.testBit (bs.getD i 0) j || L.contains j) ops.toList 0
def planOk (P : Program) (ops : Array Oper) (bs : List Nat) : Plan → List Nat → List Nat → Bool
  | .done, L, _ => allFrom (fun i _ => L.contains i) ops.toList 0
  | .quiet i p, L, _ => (match ops[i]? with | some o => !loudA P o.op | none => false) && !L.contains i && subOk ops bs i L && planOk P ops bs p (i :: L) []
  | .alt i cs p q, L, as => Nat.blt i ops.size && !L.contains i && subOk ops bs i L && allFrom (fun s x => !L.contains s || Nat.testBit (bs.getD i 0) s || loudA P x.op || !readsA P x.op || cs.contains s) ops.toList 0 &&
      planOk P ops bs p (i :: L) [] && planOk P ops bs q L (i :: as)
  | .stop, L, as => !as.isEmpty && allFrom (fun i _ => L.contains i || !subOk ops bs i L || as.contains i) ops.toList 0

def chk1 (P : Program) (ops : Array Oper) (o : Oper) (e : List AV) (h : Heap) : Prop :=
  match wantedA ops e o with
  | some true => (match o.dst with | some d => sameV P e h o.op (nth e d) = true | none => False)
  | some false => True
  | none => False
def chkO (P : Program) (ops : Array Oper) (e : List AV) (h : Heap) : Option Oper → Prop
  | some o => chk1 P ops o e h
  | none => True
def chkAll (P : Program) (ops : Array Oper) : List Nat → List AV → Heap → Prop
  | [], _, _ => True
  | s :: cs, e, h => chkO P ops e h ops[s]? ∧ chkAll P ops cs e h
/-- One operation. -/
def stepO (call : CallF) (P : Program) (ops : Array Oper) (K : List AV → Heap → Prop) (e : List AV) (h : Heap) : Option Oper → Prop
  | some o => W (fun x e' h' => x = .normal ∧ K e' h') (opsA call P ops [o] e h)
  | none => False
def TP (call : CallF) (P : Program) (ops : Array Oper) : Plan → List AV → Heap → (List AV → Heap → Prop) → Prop
  | .done, e, h, K => K e h
  | .quiet i p, e, h, K => stepO call P ops (fun e' h' => TP call P ops p e' h' K) e h ops[i]?
  | .alt i cs p q, e, h, K => stepO call P ops (fun e' h' => chkAll P ops cs e' h' ∧ TP call P ops p e' h' K) e h ops[i]? ∧ TP call P ops q e h K
  | .stop, _, _, _ => True

structure Strict (ops : Array Oper) (bs : List Nat) : Prop where
  edge : ∀ (j : Nat) (y : Oper), ops[j]? = some y → ∀ e ∈ y.after.toList, bindsA e = true → e.on < j
  dst : ∀ (i j : Nat) (x y : Oper) (d : Tmp), i ≠ j → ops[i]? = some x → ops[j]? = some y → x.dst = some d → y.dst ≠ some d
  use : ∀ (i j : Nat) (x y : Oper) (d : Tmp), ops[i]? = some x → ops[j]? = some y → x.dst = some d → d ∈ usesA ops y → Nat.testBit (bs.getD j 0) i = true
theorem strict_of {ops : Array Oper} {bs : List Nat} (h : strictOk ops bs = true) : Strict ops bs := by
  have h1 := allFrom_at h
  have h2 : ∀ (i j : Nat) (x y : Oper), ops[i]? = some x → ops[j]? = some y → ((Nat.beq i j || dstOk x y) && (match x.dst with | some d => !(usesA ops y).contains d || Nat.testBit (bs.getD j 0) i | none => true)) = true := by
    intro i j x y hi hj
    have h3 := h1 j y (by rw [Array.getElem?_toList]; exact hj)
    rw [Bool.and_eq_true] at h3
    have h4 := allFrom_at h3.2 i x (by rw [Array.getElem?_toList]; exact hi)
    simpa only [Nat.zero_add] using h4
  refine ⟨fun j y hj e he hb => ?_, fun i j x y d hij hi hj hx hy => ?_, fun i j x y d hi hj hx hd => ?_⟩
  · have h3 := h1 j y (by rw [Array.getElem?_toList]; exact hj)
    rw [Bool.and_eq_true, List.all_eq_true] at h3
    have h4 := h3.1 e he
    rw [hb, Nat.zero_add] at h4
    simpa using (blt_iff _ _).1 (by simpa using h4)
  · have h3 := h2 i j x y hi hj
    rw [Bool.and_eq_true, Bool.or_eq_true] at h3
    rcases h3.1 with h4 | h4
    · exact hij (Nat.eq_of_beq_eq_true h4)
    · simp only [dstOk, hx, hy] at h4
      simp at h4
  · have h3 := h2 i j x y hi hj
    rw [Bool.and_eq_true] at h3
    have h4 := h3.2
    simp only [hx] at h4
    have : (usesA ops y).contains d = true := by simpa using hd
    rw [this] at h4
    simpa using h4
theorem sub_of {ops : Array Oper} {bs : List Nat} {i : Nat} {L : List Nat} (h : subOk ops bs i L = true) {j : Nat} (hj : j < ops.size) (hb : Nat.testBit (bs.getD i 0) j = true) : j ∈ L := by
  have h1 := allFrom_at h j ops[j] (by rw [Array.getElem?_toList]; exact Array.getElem?_eq_getElem hj)
  rw [Nat.zero_add, hb] at h1
  simpa using h1
theorem allFrom_of {p : Nat → Oper → Bool} : ∀ {l : List Oper} {k : Nat}, (∀ (i : Nat) (o : Oper), l[i]? = some o → p (k + i) o = true) → allFrom p l k = true
  | [], _, _ => rfl
  | o :: os, k, h => by
    simp only [allFrom, Bool.and_eq_true]
    refine ⟨by simpa using h 0 o rfl, allFrom_of fun i x hi => ?_⟩
    have := h (i + 1) x (by simpa using hi)
    rw [show k + 1 + i = k + (i + 1) by omega]; exact this
theorem sub_mk {ops : Array Oper} {bs : List Nat} {i : Nat} {L : List Nat} (h : ∀ j, Nat.testBit (bs.getD i 0) j = true → j ∈ L) : subOk ops bs i L = true := by
  refine allFrom_of fun j o _ => ?_
  rw [Nat.zero_add]
  cases hb : Nat.testBit (bs.getD i 0) j with
  | false => rfl
  | true => simpa using h j hb

/-! ### One operation -/
section
variable {P : Program} {call : CallF} {ops : Array Oper}
def Exec1 (call : CallF) (P : Program) (ops : Array Oper) (o : Oper) (e : List AV) (h : Heap) (v : AV) (h' : Heap) : Prop :=
  (wantedA ops e o = some true ∧ opA call P e h o.op = some (.ret v h')) ∨ (wantedA ops e o = some false ∧ v = .tuple [] ∧ h' = h)
theorem stepO_some {K : List AV → Heap → Prop} {e : List AV} {h : Heap} {o : Oper} (hs : stepO call P ops K e h (some o)) : ∃ v h', Exec1 call P ops o e h v h' ∧ K (putA e o.dst v) h' := by
  unfold stepO at hs
  simp only [opsA] at hs
  split at hs
  · rename_i hw
    split at hs
    · rename_i v h' ho
      rw [W_some] at hs
      exact ⟨v, h', .inl ⟨hw, ho⟩, hs.2⟩
    · rw [W_some] at hs
      exact absurd hs.1 (by simp)
    · rw [W_none] at hs
      exact absurd hs id
  · rename_i hw
    rw [W_some] at hs
    exact ⟨_, h, .inr ⟨hw, rfl, rfl⟩, hs.2⟩
  · rw [W_none] at hs
    exact absurd hs id
theorem uses_guard {o : Oper} {j : Nat} {b : Bool} {d : Tmp} (hg : o.guard = some (j, b)) (hd : (ops[j]?).bind (·.dst) = some d) : d ∈ usesA ops o := by
  unfold usesA
  refine List.mem_append.2 (.inr ?_)
  rw [hg]
  simp only [hd]
  simp
theorem uses_tmp {o : Oper} {t : Tmp} (h : .tmp t ∈ o.op.operands.toList) : t ∈ usesA ops o := by
  unfold usesA
  refine List.mem_append.2 (.inl ?_)
  rw [List.mem_filterMap]
  exact ⟨.tmp t, h, rfl⟩
theorem wanted_congr {o : Oper} {e e' : List AV} (h : ∀ t ∈ usesA ops o, nth e t = nth e' t) : wantedA ops e o = wantedA ops e' o := by
  unfold wantedA
  split
  · rfl
  · rename_i j b hg
    split
    · rfl
    · rename_i d hd
      rw [h d (uses_guard hg hd)]
theorem opA_uses {o : Oper} {e e' : List AV} (h : ∀ t ∈ usesA ops o, nth e t = nth e' t) (hh : Heap) : opA call P e hh o.op = opA call P e' hh o.op := by
  refine opA_congr fun x hx => ?_
  cases x with
  | tmp t => exact h t (uses_tmp hx)
  | _ => rfl
theorem Exec1.congr {o : Oper} {e e' : List AV} {h h' : Heap} {v : AV} (hx : Exec1 call P ops o e h v h') (hu : ∀ t ∈ usesA ops o, nth e t = nth e' t) : Exec1 call P ops o e' h v h' := by
  unfold Exec1
  rw [← wanted_congr hu, ← opA_uses hu]
  exact hx
/-- What is quiet is the pure machine's. -/
theorem opA_quiet {e : List AV} {h : Heap} {op : Op} (hl : loudA P op = false) : opA call P e h op = toRet (aop P e h op) := by
  cases op with
  | call c =>
    obtain ⟨callee, args, ats⟩ := c
    cases callee with
    | value f => simp [loudA] at hl
    | invoke r n => simp [loudA] at hl
    | builtin b =>
      simp only [opA]
      have hb : b ≠ .panic := by rintro rfl; simp [loudA] at hl
      unfold biA
      split
      · exact absurd rfl hb
      · rfl
  | panic x => simp [loudA] at hl
  | _ => rfl
theorem Exec1.heap {o : Oper} (hl : loudA P o.op = false) {e : List AV} {h h' : Heap} {v : AV} (hx : Exec1 call P ops o e h v h') : h' = h := by
  rcases hx with ⟨_, h2⟩ | ⟨_, _, rfl⟩
  · obtain ⟨u, h3, _⟩ := quiet_same hl h2
    cases h3; rfl
  · rfl
theorem Exec1.free {o : Oper} (hl : loudA P o.op = false) (hr : readsA P o.op = false) {e : List AV} {h : Heap} {v : AV} (hx : Exec1 call P ops o e h v h) (h2 : Heap) : Exec1 call P ops o e h2 v h2 := by
  rcases hx with ⟨h1, h3⟩ | ⟨h1, h3, _⟩
  · obtain ⟨u, h4, h5⟩ := quiet_same hl h3
    cases h4
    refine .inl ⟨h1, ?_⟩
    rw [opA_quiet hl, quiet_free hl hr h5 h2]; rfl
  · exact .inr ⟨h1, h3, rfl⟩
theorem Exec1.check {o : Oper} (hl : loudA P o.op = false) {e : List AV} {h h2 : Heap} {v : AV} (hx : Exec1 call P ops o e h v h) (hc : chk1 P ops o e h2) (hd : ∀ d, o.dst = some d → nth e d = v) : Exec1 call P ops o e h2 v h2 := by
  rcases hx with ⟨h1, h3⟩ | ⟨h1, h3, _⟩
  · refine .inl ⟨h1, ?_⟩
    unfold chk1 at hc
    rw [h1] at hc
    simp only at hc
    split at hc
    · rename_i d hdd
      rw [hd d hdd] at hc
      unfold sameV at hc
      split at hc
      · rename_i u k ha
        have hb := beqV_eq _ _ hc
        subst hb
        have h4 : opA call P e h2 o.op = some (.ret u k) := by rw [opA_quiet hl, ha]; rfl
        obtain ⟨u', h5, _⟩ := quiet_same hl h4
        cases h5
        exact h4
      · cases hc
    · exact absurd hc id
  · exact .inr ⟨h1, h3, rfl⟩

theorem wp_exec1 (hF : Fns P) (hcall : CallsOk P call) {w0 : World} {Q : Exit → Act → World → Prop} {φ : List Emb} {h h' : Heap} {w : World} (hR : R P φ h w0 w) {e : List AV} {a : Act} {i : Nat} {o : Oper} (ho : ops[i]? = some o) {v : AV} (hx : Exec1 call P ops o e h v h')
    (hV : ∀ t ∈ usesA ops o, V φ (nth e t) (a.tmps.getD t undef)) {K : Act → World → Prop} (hK : ∀ (φ' : List Emb) (w' : World) (v' : Value), Up φ φ' → R P φ' h' w0 w' → V φ' v v' → K (a.put o.dst v') w') : wpOp P ops Q i K a w := by
  let env : List AV := (List.range e.length).map fun t => if t ∈ usesA ops o then nth e t else .unk
  have henv : ∀ t, nth env t = if t ∈ usesA ops o then nth e t else .unk := by
    intro t
    by_cases htl : t < e.length
    · have : env[t]? = some (if t ∈ usesA ops o then nth e t else .unk) := by simp [env, htl]
      rw [nth_list _ _ _ this]
    · rw [nth_big env t (by simp [env]; omega), nth_big e t (by omega)]
      simp
  have hVenv : ∀ t, V φ (nth env t) (a.tmps.getD t undef) := by
    intro t
    rw [henv]
    split
    · rename_i hh; exact hV t hh
    · simp [V]
  have hρ : ∀ x, V φ (evalA P env x) (a.eval x) := by
    intro x
    cases x with
    | tmp t => exact hVenv t
    | const v =>
      simp only [evalA, Act.eval]
      split
      · rename_i b hb; exact ofValue_V hb
      · simp [V]
    | global g =>
      simp only [evalA, Act.eval]
      cases hb : Nat.blt g P.globals.size with
      | true =>
        obtain ⟨n, hn⟩ := hR.glob g ((blt_iff _ _).1 hb)
        simp only [cond_true, V]
        exact ⟨_, hn, by simp⟩
      | false => simp [V]
    | func f => simp [evalA, Act.eval, V, Vs]
  have hag : ∀ t ∈ usesA ops o, nth e t = nth env t := fun t ht => by rw [henv, if_pos ht]
  have hwant : ∀ b, wantedA ops e o = some b → Region.wanted o (yielded ops a.tmps) = b := fun b hb =>
    wantedA_eq (φ := φ) hb fun j c d hg hd => hV d (uses_guard hg hd)
  unfold wpOp
  rw [ho]
  simp only
  rcases hx with ⟨h1, h2⟩ | ⟨h1, rfl, rfl⟩
  · rw [hwant true h1]
    simp only [if_true]
    left
    rw [opA_uses hag] at h2
    refine opA_wp hF hcall hR hρ h2 ?_
    intro φ' w' v' hu hR' hv
    exact hK φ' w' v' hu hR' hv
  · rw [hwant false h1]
    simp only [Bool.false_eq_true, if_false]
    exact hK φ w undef (Up.refl _) hR (undef_V φ)

theorem mask_lt (S : Strict ops (masks ops.toList [])) : ∀ (i : Nat) (o : Oper), ops[i]? = some o → ∀ j, Nat.testBit ((masks ops.toList []).getD i 0) j = true → j < i := by
  intro i
  induction i using Nat.strongRecOn with
  | _ i ih =>
    intro o ho j hj
    obtain ⟨pre, h1, h2, h3⟩ := masks_at ops.toList [] i o (by rw [Array.getElem?_toList]; exact ho)
    simp only [List.length_nil, Nat.zero_add] at h1 h2
    rw [h2] at hj
    obtain ⟨ed, hed, hb, hh⟩ := maskOf_bit hj
    have hlt := S.edge i o ho ed hed hb
    rcases hh with rfl | hh
    · exact hlt
    · rw [h3 _ (by omega)] at hh
      have hil : i < ops.size := (Array.getElem?_eq_some_iff.1 ho).1
      have ho2 : ops[ed.on]? = some ops[ed.on] := Array.getElem?_eq_getElem (by omega)
      have := ih ed.on hlt ops[ed.on] ho2 j hh
      omega

/-! ### Every order -/

/-- What is done for the abstract machine (L), against what is done indeed (listed). -/
structure St (call : CallF) (P : Program) (ops : Array Oper) (φ : List Emb) (listed : Array Bool) (a : Act) (L : List Nat) (e : List AV) (h : Heap) : Prop where
  lt : ∀ i ∈ L, i < ops.size
  sub : ∀ i, listed.getD i false = true → i ∈ L
  cl : ∀ i ∈ L, ∀ j, Nat.testBit ((masks ops.toList []).getD i 0) j = true → j ∈ L
  pend : ∀ i ∈ L, listed.getD i false = false → ∀ o, ops[i]? = some o → loudA P o.op = false ∧ ∃ v, Exec1 call P ops o e h v h ∧ ∀ d, o.dst = some d → d < e.length → nth e d = v
  val : ∀ t, (∀ j ∈ L, listed.getD j false = false → ∀ y, ops[j]? = some y → y.dst ≠ some t) → V φ (nth e t) (a.tmps.getD t undef)
  len : a.tmps.size = e.length

/-- What is quiet is done ahead. -/
theorem St.ahead (S : Strict ops (masks ops.toList [])) {φ : List Emb} {listed : Array Bool} {a : Act} {L : List Nat} {e : List AV} {h h' : Heap} (I : St call P ops φ listed a L e h) {q : Nat} {o : Oper} (ho : ops[q]? = some o) (hl : loudA P o.op = false) (hq : q ∉ L)
    (hsub : ∀ j, Nat.testBit ((masks ops.toList []).getD q 0) j = true → j ∈ L) {v : AV} (hx : Exec1 call P ops o e h v h') : h' = h ∧ St call P ops φ listed a (q :: L) (putA e o.dst v) h := by
  have hh := hx.heap hl
  subst hh
  have hql := (Array.getElem?_eq_some_iff.1 ho).1
  have huses : ∀ i ∈ q :: L, ∀ y, ops[i]? = some y → ∀ t ∈ usesA ops y, nth e t = nth (putA e o.dst v) t := by
    intro i hi y hy t ht
    rw [nth_putA, if_neg]
    rintro ⟨hd, _⟩
    have hb := S.use q i o y t ho hy hd ht
    rcases List.mem_cons.1 hi with rfl | hi
    · exact hq (hsub _ hb)
    · exact hq (I.cl i hi q hb)
  refine ⟨rfl, ?_⟩
  exact {
    lt := fun i hi => by
      rcases List.mem_cons.1 hi with rfl | hi
      · exact hql
      · exact I.lt i hi
    sub := fun i hi => List.mem_cons_of_mem _ (I.sub i hi)
    cl := fun i hi j hj => by
      rcases List.mem_cons.1 hi with rfl | hi
      · exact List.mem_cons_of_mem _ (hsub j hj)
      · exact List.mem_cons_of_mem _ (I.cl i hi j hj)
    pend := fun i hi hil y hy => by
      have hu := huses i hi y hy
      rcases List.mem_cons.1 hi with rfl | hi
      · rw [ho] at hy
        cases hy
        exact ⟨hl, v, hx.congr hu, fun d hd hdl => by rw [nth_putA, if_pos ⟨hd, by rwa [putA_length] at hdl⟩]⟩
      · obtain ⟨h1, u, h2, h3⟩ := I.pend i hi hil y hy
        refine ⟨h1, u, h2.congr hu, fun d hd hdl => ?_⟩
        rw [putA_length] at hdl
        rw [nth_putA, if_neg, h3 d hd hdl]
        rintro ⟨hd2, _⟩
        exact S.dst q i o y d (by rintro rfl; exact hq hi) ho hy hd2 hd
    val := fun t ht => by
      have hqn : listed.getD q false = false := by
        cases hc : listed.getD q false with
        | false => rfl
        | true => exact absurd (I.sub q hc) hq
      rw [nth_putA, if_neg]
      · exact I.val t fun j hj hjl y hy => ht j (List.mem_cons_of_mem _ hj) hjl y hy
      · rintro ⟨hd, _⟩
        exact ht q List.mem_cons_self hqn o ho hd
    len := by rw [putA_length]; exact I.len }

/-- The next one, wherever the plan has it. -/
theorem plan_next (S : Strict ops (masks ops.toList [])) {φ : List Emb} {listed : Array Bool} {a : Act} {h : Heap} {K : List AV → Heap → Prop} {x : Nat} {o : Oper} (ho : ops[x]? = some o) (hxd : ∀ j, Nat.testBit ((masks ops.toList []).getD x 0) j = true → listed.getD j false = true) :
    ∀ (pl : Plan) (L as : List Nat) (e : List AV), planOk P ops (masks ops.toList []) pl L as = true → TP call P ops pl e h K → x ∉ L → x ∉ as → St call P ops φ listed a L e h →
      (∃ L' e' p, x ∈ L' ∧ planOk P ops (masks ops.toList []) p L' [] = true ∧ TP call P ops p e' h K ∧ St call P ops φ listed a L' e' h) ∨
      (∃ L' e' cs p, x ∉ L' ∧ planOk P ops (masks ops.toList []) p (x :: L') [] = true ∧ (∀ s ∈ L', ∀ y, ops[s]? = some y → Nat.testBit ((masks ops.toList []).getD x 0) s = false → loudA P y.op = false → readsA P y.op = true → s ∈ cs) ∧
        stepO call P ops (fun e2 h2 => chkAll P ops cs e2 h2 ∧ TP call P ops p e2 h2 K) e' h (some o) ∧ St call P ops φ listed a L' e' h)
  | .done, L, as, e, hp, ht, hxL, hxa, I => by
    have := allFrom_at hp x o (by rw [Array.getElem?_toList]; exact ho)
    rw [Nat.zero_add] at this
    exact absurd (by simpa using this) hxL
  | .stop, L, as, e, hp, ht, hxL, hxa, I => by
    simp only [planOk, Bool.and_eq_true] at hp
    have := allFrom_at hp.2 x o (by rw [Array.getElem?_toList]; exact ho)
    rw [Nat.zero_add, sub_mk (fun j hj => I.sub j (hxd j hj))] at this
    simp only [Bool.not_true, Bool.or_false, Bool.or_eq_true, List.contains_eq_mem, decide_eq_true_eq] at this
    rcases this with h1 | h1
    · exact absurd h1 hxL
    · exact absurd h1 hxa
  | .quiet i p, L, as, e, hp, ht, hxL, hxa, I => by
    simp only [planOk, Bool.and_eq_true] at hp
    obtain ⟨⟨⟨h1, h2⟩, h3⟩, h4⟩ := hp
    simp only [TP] at ht
    cases hoi : ops[i]? with
    | none => rw [hoi] at h1; cases h1
    | some oi =>
      rw [hoi] at h1 ht
      simp only [Bool.not_eq_true'] at h1
      obtain ⟨v, h', hx, hT⟩ := stepO_some ht
      have hiL : i ∉ L := by simpa using h2
      have hsub : ∀ j, Nat.testBit ((masks ops.toList []).getD i 0) j = true → j ∈ L := fun j hj => by
        have hjl : j < ops.size := by
          have hil := (Array.getElem?_eq_some_iff.1 hoi).1
          have := mask_lt S i oi hoi j hj
          omega
        exact sub_of h3 hjl hj
      obtain ⟨rfl, I'⟩ := I.ahead S hoi h1 hiL hsub hx
      by_cases hxi : x = i
      · subst hxi
        exact .inl ⟨_, _, p, List.mem_cons_self, h4, hT, I'⟩
      · exact plan_next S ho hxd p (i :: L) [] _ h4 hT (by simp [hxi, hxL]) (by simp) I'
  | .alt i cs p q, L, as, e, hp, ht, hxL, hxa, I => by
    simp only [planOk, Bool.and_eq_true] at hp
    obtain ⟨⟨⟨⟨⟨h1, h2⟩, h3⟩, h4⟩, h5⟩, h6⟩ := hp
    simp only [TP] at ht
    by_cases hxi : x = i
    · subst hxi
      refine .inr ⟨L, e, cs, p, hxL, h5, fun s hs y hy hb hly hry => ?_, by rw [← ho]; exact ht.1, I⟩
      have := allFrom_at h4 s y (by rw [Array.getElem?_toList]; exact hy)
      rw [Nat.zero_add, hb, hly, hry] at this
      simpa [hs] using this
    · exact plan_next S ho hxd q L (i :: as) e h6 ht.2 hxL (by simp [hxi, hxa]) I

theorem closed_bit' (S : Strict ops (masks ops.toList [])) {listed : Array Bool} (hc : Closed ops listed) : ∀ (i : Nat) (o : Oper), ops[i]? = some o → (∀ e ∈ o.after.toList, bindsA e = true → listed.getD e.on false = true) → ∀ j, Nat.testBit ((masks ops.toList []).getD i 0) j = true → listed.getD j false = true := by
  intro i
  induction i using Nat.strongRecOn with
  | _ i ih =>
    intro o ho he j hj
    obtain ⟨pre, h1, h2, h3⟩ := masks_at ops.toList [] i o (by rw [Array.getElem?_toList]; exact ho)
    simp only [List.length_nil, Nat.zero_add] at h1 h2
    rw [h2] at hj
    obtain ⟨ed, hed, hb, hh⟩ := maskOf_bit hj
    have hlt := S.edge i o ho ed hed hb
    have hl := he ed hed hb
    rcases hh with rfl | hh
    · exact hl
    · rw [h3 _ (by omega)] at hh
      have hil : i < ops.size := (Array.getElem?_eq_some_iff.1 ho).1
      have ho2 : ops[ed.on]? = some ops[ed.on] := Array.getElem?_eq_getElem (by omega)
      exact ih ed.on hlt ops[ed.on] ho2 (hc ed.on _ ho2 hl) j hh
theorem put_get {e : List AV} {a : Act} (hsz : a.tmps.size = e.length) (o : Oper) (v' : Value) (t : Tmp) : (a.put o.dst v').tmps.getD t undef = if o.dst = some t ∧ t < e.length then v' else a.tmps.getD t undef := by
  cases hd : o.dst with
  | none => simp [Act.put]
  | some d =>
    simp only [Act.put, Option.some.injEq]
    by_cases hdt : d = t
    · subst hdt
      by_cases htl : d < e.length
      · simp [Array.getD_eq_getD_getElem?, hsz, htl]
      · simp [Array.getD_eq_getD_getElem?, hsz, htl]
    · simp [Array.getD_eq_getD_getElem?, Array.getElem?_setIfInBounds_ne hdt, hdt]
theorem chkAll_mem : ∀ {cs : List Nat} {e : List AV} {h : Heap}, chkAll P ops cs e h → ∀ s ∈ cs, ∀ y, ops[s]? = some y → chk1 P ops y e h
  | [], _, _, _, s, hs, _, _ => by cases hs
  | c :: cs, e, h, hc, s, hs, y, hy => by
    simp only [chkAll] at hc
    rcases List.mem_cons.1 hs with rfl | hs
    · have := hc.1
      rw [hy] at this
      exact this
    · exact chkAll_mem hc.2 s hs y hy

theorem tree_wp (hF : Fns P) (hcall : CallsOk P call) (S : Strict ops (masks ops.toList [])) {n : Nat} (hdst : ∀ (i : Nat) (o : Oper) (d : Tmp), ops[i]? = some o → o.dst = some d → d < n) {w0 : World} {Q : Exit → Act → World → Prop} {ds : List Deferred} {K : List AV → Heap → Prop} : ∀ (fuel : Nat) (listed : Array Bool) (φ : List Emb) (a : Act) (w : World) (pl : Plan) (L : List Nat) (e : List AV) (h : Heap),
    e.length = n → listed.size = ops.size → Closed ops listed → todo ops.size listed ≤ fuel → planOk P ops (masks ops.toList []) pl L [] = true → TP call P ops pl e h K → St call P ops φ listed a L e h → R P φ h w0 w → a.defers = ds →
    (∀ e' h', e'.length = n → K e' h' → Final P φ w0 ds Q (.normal, e', h')) → wpAny P .any ops Q fuel listed a w := by
  have getDs : ∀ (listed : Array Bool) (i : Nat), listed.size = ops.size → i < ops.size → listed.getD i true = listed.getD i false := by
    intro listed i hs hi
    simp [Array.getD_eq_getD_getElem?, Array.getElem?_eq_getElem (show i < listed.size by omega)]
  have allDone : ∀ (listed : Array Bool), listed.size = ops.size → Region.ready .any ops listed = [] → ∀ i, i < ops.size → listed.getD i false = true := by
    intro listed hs hr i
    induction i using Nat.strongRecOn with
    | _ i ih =>
      intro hi
      cases hl : listed.getD i false with
      | true => rfl
      | false =>
        have ho : ops[i]? = some ops[i] := Array.getElem?_eq_getElem hi
        have : i ∈ Region.ready .any ops listed := by
          rw [ready_iff]
          refine ⟨_, ho, by rw [getDs listed i hs hi]; exact hl, fun ed hed hb => ?_⟩
          have := S.edge i _ ho ed hed hb
          exact ih ed.on this (by omega)
        rw [hr] at this
        cases this
  have finish : ∀ (listed : Array Bool) (φ : List Emb) (a : Act) (w : World) (pl : Plan) (L : List Nat) (e : List AV) (h : Heap), e.length = n → (∀ i, i < ops.size → listed.getD i false = true) → planOk P ops (masks ops.toList []) pl L [] = true → TP call P ops pl e h K → St call P ops φ listed a L e h → R P φ h w0 w → a.defers = ds →
      (∀ e' h', e'.length = n → K e' h' → Final P φ w0 ds Q (.normal, e', h')) → Q .normal a w := by
    intro listed φ a w pl L e h hen hall hp ht I hR hds hK
    have hL : ∀ i, i < ops.size → i ∈ L := fun i hi => I.sub i (hall i hi)
    cases pl with
    | done =>
      simp only [TP] at ht
      refine hK e h hen ht φ w a (Up.refl _) hR ?_ hds
      refine Vs.of_get (by rw [Array.length_toList, I.len]) fun t b v hb hv => ?_
      have hgd : a.tmps.getD t undef = v := by
        rw [Array.getElem?_toList] at hv
        simp [Array.getD_eq_getD_getElem?, hv]
      have hnb := nth_list e t b hb
      rw [← hgd, ← hnb]
      refine I.val t fun j hj hjl _ _ => ?_
      rw [hall j (I.lt j hj)] at hjl
      cases hjl
    | quiet i p =>
      simp only [planOk, Bool.and_eq_true] at hp
      obtain ⟨⟨⟨h1, h2⟩, h3⟩, h4⟩ := hp
      cases hoi : ops[i]? with
      | none => rw [hoi] at h1; cases h1
      | some oi =>
        have := hL i (Array.getElem?_eq_some_iff.1 hoi).1
        simp [this] at h2
    | alt i cs p q =>
      simp only [planOk, Bool.and_eq_true] at hp
      obtain ⟨⟨⟨⟨⟨h1, h2⟩, h3⟩, h4⟩, h5⟩, h6⟩ := hp
      have := hL i ((blt_iff _ _).1 h1)
      simp [this] at h2
    | stop =>
      simp [planOk] at hp
  intro fuel
  induction fuel with
  | zero =>
    intro listed φ a w pl L e h hen hs hc htodo hp ht I hR hds hK
    have hall : ∀ i, i < ops.size → listed.getD i false = true := fun i hi => by
      rw [← getDs listed i hs hi]; exact todo_zero (Nat.le_zero.1 htodo) i hi
    refine ⟨?_, finish listed φ a w pl L e h hen hall hp ht I hR hds hK⟩
    rw [List.eq_nil_iff_forall_not_mem]
    intro i hi
    rw [ready_iff] at hi
    obtain ⟨o, ho, h1, _⟩ := hi
    have hil := (Array.getElem?_eq_some_iff.1 ho).1
    rw [getDs listed i hs hil, hall i hil] at h1
    cases h1
  | succ fuel ih =>
    intro listed φ a w pl L e h hen hs hc htodo hp ht I hR hds hK
    refine ⟨fun hr => finish listed φ a w pl L e h hen (allDone listed hs hr) hp ht I hR hds hK, ?_⟩
    intro x hx
    rw [ready_iff] at hx
    obtain ⟨o, ho, hxl, hedges⟩ := hx
    have hin := (Array.getElem?_eq_some_iff.1 ho).1
    have hxl' : listed.getD x false = false := by rw [← getDs listed x hs hin]; exact hxl
    have hbit := closed_bit' S hc x o ho hedges
    -- behind the operation
    let listed' := listed.setIfInBounds x true
    have hs' : listed'.size = ops.size := by simp [listed', hs]
    have hget : ∀ j, listed'.getD j false = if j = x then true else listed.getD j false := by
      intro j
      by_cases hj : j = x
      · subst hj; simp [listed', Array.getD_eq_getD_getElem?, hs, hin]
      · simp [listed', Array.getD_eq_getD_getElem?, Array.getElem?_setIfInBounds_ne (Ne.symm hj), hj]
    have hc' : Closed ops listed' := by
      intro j y hy hlj ed hed hb
      rw [hget] at hlj ⊢
      by_cases hj : j = x
      · subst hj
        rw [ho] at hy; cases hy
        have := hedges ed hed hb
        rw [this]; simp
      · rw [if_neg hj] at hlj
        have := hc j y hy hlj ed hed hb
        rw [this]; simp
    have htodo' : todo ops.size listed' ≤ fuel := by
      have := todo_set hin hs hxl
      show todo ops.size (listed.setIfInBounds x true) ≤ fuel
      omega
    -- what is looked at is there
    have look : ∀ (L : List Nat) (e : List AV), St call P ops φ listed a L e h → ∀ t ∈ usesA ops o, V φ (nth e t) (a.tmps.getD t undef) := by
      intro L e I t ht
      refine I.val t fun j hj hjl y hy hd => ?_
      have := hbit j (S.use j x y o t hy ho hd ht)
      rw [this] at hjl
      cases hjl
    -- what was done ahead is done
    have late : ∀ (L : List Nat) (e : List AV) (p : Plan), e.length = n → x ∈ L → planOk P ops (masks ops.toList []) p L [] = true → TP call P ops p e h K → St call P ops φ listed a L e h → wpOp P ops Q x (wpAny P .any ops Q fuel listed') a w := by
      intro L e p hen hxL hp ht I
      obtain ⟨hl, v, hx1, hd1⟩ := I.pend x hxL hxl' o ho
      refine wp_exec1 hF hcall hR ho hx1 (look L e I) ?_
      intro φ' w' v' hu hR' hv
      refine ih listed' φ' _ w' p L e h hen hs' hc' htodo' hp ht ?_ hR' (by rw [put_defers']; exact hds) (fun e' h' h1 h2 => (hK e' h' h1 h2).up hu)
      exact {
        lt := I.lt
        sub := fun i hi => by
          rw [hget] at hi
          by_cases hix : i = x
          · subst hix; exact hxL
          · rw [if_neg hix] at hi; exact I.sub i hi
        cl := I.cl
        pend := fun i hi hil y hy => by
          rw [hget] at hil
          by_cases hix : i = x
          · rw [if_pos hix] at hil; cases hil
          · rw [if_neg hix] at hil; exact I.pend i hi hil y hy
        val := fun t ht => by
          rw [put_get I.len]
          by_cases hd : o.dst = some t ∧ t < e.length
          · rw [if_pos hd, hd1 t hd.1 hd.2]; exact hv
          · rw [if_neg hd]
            refine V.up hu _ _ ?_
            by_cases htl : t < e.length
            · refine I.val t fun j hj hjl y hy hyd => ?_
              by_cases hjx : j = x
              · subst hjx
                rw [ho] at hy; cases hy
                exact hd ⟨hyd, htl⟩
              · exact ht j hj (by rw [hget, if_neg hjx]; exact hjl) y hy hyd
            · rw [nth_big e t (Nat.le_of_not_lt htl)]; simp [V]
        len := by cases hd : o.dst <;> simp [Act.put, I.len] }
    by_cases hxL : x ∈ L
    · exact late L e pl hen hxL hp ht I
    · have hlen : ∀ {L' : List Nat} {e' : List AV}, St call P ops φ listed a L' e' h → e'.length = n := fun I' => by rw [← I'.len, I.len, hen]
      rcases plan_next S ho hbit pl L [] e hp ht hxL (by simp) I with ⟨L', e', p, hxL', hp', ht', I'⟩ | ⟨L', e', cs, p, hxL', hp', hcs, hst, I'⟩
      · exact late L' e' p (hlen I') hxL' hp' ht' I'
      · obtain ⟨v, h2, hx1, hchk, hT⟩ := stepO_some hst
        refine wp_exec1 hF hcall hR ho hx1 (look L' e' I') ?_
        intro φ' w' v' hu hR' hv
        refine ih listed' φ' _ w' p (x :: L') (putA e' o.dst v) h2 (by rw [putA_length]; exact hlen I') hs' hc' htodo' hp' hT ?_ hR' (by rw [put_defers']; exact hds) (fun e' h' h1 h2 => (hK e' h' h1 h2).up hu)
        have huses : ∀ i ∈ L', ∀ y, ops[i]? = some y → ∀ t ∈ usesA ops y, nth e' t = nth (putA e' o.dst v) t := by
          intro i hi y hy t ht
          rw [nth_putA, if_neg]
          rintro ⟨hd, _⟩
          exact hxL' (I'.cl i hi x (S.use x i o y t ho hy hd ht))
        exact {
          lt := fun i hi => by
            rcases List.mem_cons.1 hi with rfl | hi
            · exact hin
            · exact I'.lt i hi
          sub := fun i hi => by
            rw [hget] at hi
            by_cases hix : i = x
            · subst hix; exact List.mem_cons_self
            · rw [if_neg hix] at hi; exact List.mem_cons_of_mem _ (I'.sub i hi)
          cl := fun i hi j hj => by
            rcases List.mem_cons.1 hi with rfl | hi
            · exact List.mem_cons_of_mem _ (I'.sub j (hbit j hj))
            · exact List.mem_cons_of_mem _ (I'.cl i hi j hj)
          pend := fun i hi hil y hy => by
            rw [hget] at hil
            by_cases hix : i = x
            · rw [if_pos hix] at hil; cases hil
            · rw [if_neg hix] at hil
              have hi : i ∈ L' := by
                rcases List.mem_cons.1 hi with h1 | h1
                · exact absurd h1 hix
                · exact h1
              obtain ⟨h1, u, h3, h4⟩ := I'.pend i hi hil y hy
              have hnd : ∀ d, y.dst = some d → d < (putA e' o.dst v).length → nth (putA e' o.dst v) d = u := fun d hd hdl => by
                rw [putA_length] at hdl
                rw [nth_putA, if_neg, h4 d hd hdl]
                rintro ⟨hd2, _⟩
                exact S.dst x i o y d (fun hh => hix hh.symm) ho hy hd2 hd
              have h5 := h3.congr (huses i hi y hy)
              have hb : Nat.testBit ((masks ops.toList []).getD x 0) i = false := by
                cases hb : Nat.testBit ((masks ops.toList []).getD x 0) i with
                | false => rfl
                | true => rw [hbit i hb] at hil; cases hil
              refine ⟨h1, u, ?_, hnd⟩
              cases hr : readsA P y.op with
              | false => exact h5.free h1 hr h2
              | true => exact h5.check h1 (chkAll_mem hchk i (hcs i hi y hy hb h1 hr) y hy) (fun d hd => hnd d hd (by rw [putA_length, hlen I']; exact hdst i y d hy hd))
          val := fun t ht => by
            rw [put_get I'.len, nth_putA]
            by_cases hd : o.dst = some t ∧ t < e'.length
            · rw [if_pos hd, if_pos hd]; exact hv
            · rw [if_neg hd, if_neg hd]
              refine V.up hu _ _ (I'.val t fun j hj hjl y hy hyd => ?_)
              have hjx : j ≠ x := by rintro rfl; exact hxL' hj
              exact ht j (List.mem_cons_of_mem _ hj) (by rw [hget, if_neg hjx]; exact hjl) y hy hyd
          len := by rw [putA_length]; cases hd : o.dst <;> simp [Act.put, I'.len] }

def dstsOk (ops : Array Oper) (n : Nat) : Bool := allFrom (fun _ o => match o.dst with | some d => Nat.blt d n | none => true) ops.toList 0
/-- A region whose orders are all looked at. -/
theorem tree_region (hF : Fns P) (hm : P.follows .mixedOrders = true) (hcall : CallsOk P call) {n : Nat} (hst : strictOk ops (masks ops.toList []) = true) (hds : dstsOk ops n = true) {pl : Plan} (hp : planOk P ops (masks ops.toList []) pl [] [] = true) {id : Nat} {w0 : World} {Q : Exit → Act → World → Prop} {φ : List Emb} {e : List AV} {h : Heap} {w : World} {a : Act} {K : List AV → Heap → Prop}
    (hR : R P φ h w0 w) (he : Vs φ e a.tmps.toList) (hen : e.length = n) (ht : TP call P ops pl e h K) (hK : ∀ e' h', e'.length = n → K e' h' → Final P φ w0 a.defers Q (.normal, e', h')) : (Code.region id ops true).wp P Q a w := by
  have S := strict_of hst
  refine wp_region_any hm ?_
  have hfalse : ∀ i, (Array.replicate ops.size false).getD i false = false := by
    intro i
    simp [Array.getD_eq_getD_getElem?, Array.getElem?_replicate]
    split <;> rfl
  refine tree_wp hF hcall S (n := n) (fun i o d ho hd => ?_) ops.size _ φ a _ pl [] e h hen (by simp) ?_ ?_ hp ht ?_ (hR.drew rfl rfl rfl rfl) rfl hK
  · have := allFrom_at hds i o (by rw [Array.getElem?_toList]; exact ho)
    rw [hd] at this
    exact (blt_iff _ _).1 this
  · intro i o ho hl; rw [hfalse] at hl; cases hl
  · unfold todo
    refine Nat.le_trans (List.countP_le_length) (by simp)
  · exact {
      lt := by simp
      sub := fun i hi => by rw [hfalse] at hi; cases hi
      cl := by simp
      pend := by simp
      val := fun t _ => by
        have := nth_V he t
        simpa [Array.getD_eq_getD_getElem?, List.getD_eq_getElem?_getD] using this
      len := by rw [← Array.length_toList, he.length] }
end
end Go.Am
