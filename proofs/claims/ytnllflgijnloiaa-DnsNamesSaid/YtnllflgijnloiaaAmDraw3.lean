/- Regions that draw their order: whatever order is drawn. -/
import Derived.Test.YtnllflgijnloiaaAmDraw2
namespace Go.Am
open Go.RowKit

theorem nth_set (env : List AV) (d t : Nat) (v : AV) : nth (env.set d v) t = if d = t ∧ t < env.length then v else nth env t := by
  induction env generalizing d t with
  | nil => simp [nth]
  | cons x xs ih =>
    cases d with
    | zero => cases t <;> simp [nth]
    | succ d =>
      cases t with
      | zero => simp [nth]
      | succ t => simp [nth, ih]
theorem nth_big (env : List AV) (t : Nat) (h : env.length ≤ t) : nth env t = .unk := by
  induction env generalizing t with
  | nil => rfl
  | cons x xs ih =>
    cases t with
    | zero => simp at h
    | succ t => simp at h; exact ih t h
theorem putA_length (env : List AV) (d : Option Tmp) (v : AV) : (putA env d v).length = env.length := by cases d <;> simp [putA]
theorem nth_putA (env : List AV) (d : Option Tmp) (v : AV) (t : Nat) : nth (putA env d v) t = if d = some t ∧ t < env.length then v else nth env t := by
  cases d with
  | none => simp [putA]
  | some d => simp [putA, nth_set]

theorem nth_list : ∀ (env : List AV) (i : Nat) (a : AV), env[i]? = some a → nth env i = a
  | [], i, a, h => by simp at h
  | x :: xs, 0, a, h => by simp at h; simp [nth, h]
  | x :: xs, i + 1, a, h => by simp at h; simp [nth]; exact nth_list xs i a h

section
variable {call : CallF} {P : Program} {ops : Array Oper} {bs : List Nat} {e : List AV} {h : Heap} {e' : List AV} {h' : Heap} {X : Nat → TR}

theorem TextRun.env_step (T : TextRun call P ops bs e h e' h' X) {i : Nat} {o : Oper} (ho : ops[i]? = some o) : (X (i + 1)).env = putA (X i).env o.dst (X i).val := by
  rcases T.step i o ho with ⟨_, _, _, h4⟩ | ⟨_, _, h3, _, h5⟩
  · exact h4
  · rw [h3]; exact h5
theorem TextRun.env_length (T : TextRun call P ops bs e h e' h' X) : ∀ i, i ≤ ops.size → (X i).env.length = e.length
  | 0, _ => by rw [T.first.1]
  | i + 1, hi => by
    have ho : ops[i]? = some ops[i] := Array.getElem?_eq_getElem (by omega)
    rw [T.env_step ho, putA_length, T.env_length i (by omega)]
/-- What a slot holds: what its one writer has put, or what it held. -/
theorem TextRun.env_written (T : TextRun call P ops bs e h e' h' X) (S : Static P ops bs) {j : Nat} {y : Oper} {t : Tmp} (hy : ops[j]? = some y) (ht : y.dst = some t) (hlt : t < e.length) : ∀ i, j < i → i ≤ ops.size → nth (X i).env t = (X j).val
  | 0, h1, _ => by omega
  | i + 1, h1, h2 => by
    have ho : ops[i]? = some ops[i] := Array.getElem?_eq_getElem (by omega)
    rw [T.env_step ho, nth_putA]
    by_cases hij : i = j
    · subst hij
      rw [ho] at hy
      cases hy
      rw [if_pos ⟨ht, by rw [T.env_length i (by omega)]; exact hlt⟩]
    · rw [if_neg (fun hh => S.dst j i y ops[i] t (by omega) hy ho ht hh.1)]
      exact T.env_written S hy ht hlt i (by omega) (by omega)
theorem TextRun.env_kept (T : TextRun call P ops bs e h e' h' X) {t : Tmp} : ∀ i, i ≤ ops.size → (∀ j y, j < i → ops[j]? = some y → y.dst ≠ some t) → nth (X i).env t = nth e t
  | 0, _, _ => by rw [T.first.1]
  | i + 1, h1, h2 => by
    have ho : ops[i]? = some ops[i] := Array.getElem?_eq_getElem (by omega)
    rw [T.env_step ho, nth_putA, if_neg (fun hh => h2 i _ (by omega) ho hh.1)]
    exact T.env_kept i (by omega) (fun j y hj => h2 j y (by omega))
end

/-- How many are still to be done. -/
def todo (n : Nat) (listed : Array Bool) : Nat := (List.range n).countP fun i => !listed.getD i true
theorem todo_zero {n : Nat} {listed : Array Bool} (h : todo n listed = 0) : ∀ i, i < n → listed.getD i true = true := by
  intro i hi
  unfold todo at h
  rw [List.countP_eq_zero] at h
  have := h i (List.mem_range.2 hi)
  simpa using this
theorem todo_set {n i : Nat} {listed : Array Bool} (hi : i < n) (hs : listed.size = n) (hl : listed.getD i true = false) : todo n (listed.setIfInBounds i true) + 1 = todo n listed := by
  unfold todo
  have key : ∀ (l : List Nat), l.Nodup → (∀ x ∈ l, x < n) → (l.countP fun k => !(listed.setIfInBounds i true).getD k true) + (if i ∈ l then 1 else 0) = l.countP fun k => !listed.getD k true := by
    intro l
    induction l with
    | nil => simp
    | cons x xs ih =>
      intro hn hb
      rw [List.nodup_cons] at hn
      have ih' := ih hn.2 (fun y hy => hb y (List.mem_cons_of_mem _ hy))
      rw [List.countP_cons, List.countP_cons]
      by_cases hx : x = i
      · subst hx
        have h1 : (listed.setIfInBounds x true).getD x true = true := by
          simp [Array.getD_eq_getD_getElem?, hs, hi]
        rw [if_neg hn.1] at ih'
        simp only [h1, hl, Bool.not_true, Bool.false_eq_true, if_false, Bool.not_false, if_true, List.mem_cons, true_or]
        omega
      · have h1 : (listed.setIfInBounds i true).getD x true = listed.getD x true := by
          simp [Array.getD_eq_getD_getElem?, Array.getElem?_setIfInBounds_ne (Ne.symm hx)]
        rw [h1]
        have h2 : (i ∈ x :: xs) ↔ i ∈ xs := by simp [Ne.symm hx]
        by_cases hm : i ∈ xs
        · rw [if_pos (h2.2 hm)]; rw [if_pos hm] at ih'; omega
        · rw [if_neg (fun hh => hm (h2.1 hh))]; rw [if_neg hm] at ih'; omega
  have := key (List.range n) List.nodup_range (fun x hx => List.mem_range.1 hx)
  rw [if_pos (List.mem_range.2 hi)] at this
  exact this

theorem ready_iff {ops : Array Oper} {listed : Array Bool} {i : Nat} : i ∈ Region.ready .any ops listed ↔ ∃ o, ops[i]? = some o ∧ listed.getD i true = false ∧ ∀ e ∈ o.after.toList, bindsA e = true → listed.getD e.on false = true := by
  unfold Region.ready
  rw [List.mem_filter, List.mem_range]
  constructor
  · rintro ⟨hi, hh⟩
    rw [Bool.and_eq_true] at hh
    obtain ⟨h1, h2⟩ := hh
    rw [Array.getElem?_eq_getElem hi] at h2
    simp only [Option.map_some, Option.getD_some] at h2
    refine ⟨_, Array.getElem?_eq_getElem hi, by simpa using h1, fun e he hb => ?_⟩
    rw [Array.all_eq_true_iff_forall_mem] at h2
    have := h2 e (by simpa using he)
    rw [show Region.binds .any e = bindsA e from rfl, hb] at this
    simpa using this
  · rintro ⟨o, ho, h1, h2⟩
    obtain ⟨hi, rfl⟩ := Array.getElem?_eq_some_iff.1 ho
    refine ⟨hi, ?_⟩
    rw [Bool.and_eq_true]
    refine ⟨by simpa using h1, ?_⟩
    rw [Array.getElem?_eq_getElem hi]
    simp only [Option.map_some, Option.getD_some]
    rw [Array.all_eq_true_iff_forall_mem]
    intro e he
    rw [show Region.binds .any e = bindsA e from rfl]
    cases hb : bindsA e with
    | false => rfl
    | true => simpa using h2 e (by simpa using he) hb

/-- Whatever is done, all that stands before it is done. -/
def Closed (ops : Array Oper) (listed : Array Bool) : Prop := ∀ (i : Nat) (o : Oper), ops[i]? = some o → listed.getD i false = true → ∀ e ∈ o.after.toList, bindsA e = true → listed.getD e.on false = true

theorem closed_bit {P : Program} {ops : Array Oper} (S : Static P ops (masks ops.toList [])) {listed : Array Bool} (hc : Closed ops listed) : ∀ (i : Nat) (o : Oper), ops[i]? = some o → (∀ e ∈ o.after.toList, bindsA e = true → listed.getD e.on false = true) → ∀ j, Nat.testBit ((masks ops.toList []).getD i 0) j = true → listed.getD j false = true ∧ j < i := by
  intro i
  induction i using Nat.strongRecOn with
  | _ i ih =>
    intro o ho he j hj
    obtain ⟨pre, h1, h2, h3⟩ := masks_at ops.toList [] i o (by rw [Array.getElem?_toList]; exact ho)
    simp only [List.length_nil, Nat.zero_add] at h1 h2
    rw [h2] at hj
    obtain ⟨ed, hed, hb, hh⟩ := maskOf_bit hj
    have hlt := S.edge i o ho ed hed hb
    have hl := he ed hed hb
    rcases hh with rfl | hh
    · exact ⟨hl, hlt⟩
    · rw [h3 _ (by omega)] at hh
      have hil : i < ops.size := (Array.getElem?_eq_some_iff.1 ho).1
      have ho2 : ops[ed.on]? = some ops[ed.on] := Array.getElem?_eq_getElem (by omega)
      have := ih ed.on hlt ops[ed.on] ho2 (hc ed.on _ ho2 hl) j hh
      exact ⟨this.1, by omega⟩

theorem least_above (l : List Nat) (i : Nat) : ∀ m, (∃ q ∈ l, i < q ∧ q ≤ m) → ∃ p ∈ l, i < p ∧ ∀ q ∈ l, i < q → p ≤ q := by
  intro m
  induction m using Nat.strongRecOn with
  | _ m ih =>
    rintro ⟨q, hq, h1, h2⟩
    by_cases hx : ∃ r ∈ l, i < r ∧ r < q
    · obtain ⟨r, hr, h3, h4⟩ := hx
      exact ih (q - 1) (by omega) ⟨r, hr, h3, by omega⟩
    · refine ⟨q, hq, h1, fun r hr h3 => ?_⟩
      rcases Nat.lt_or_ge r q with h4 | h4
      · exact absurd ⟨r, hr, h3, h4⟩ hx
      · exact h4

theorem draw_wp {P : Program} (hF : Fns P) {call : CallF} (hcall : CallsOk P call) {ops : Array Oper} (S : Static P ops (masks ops.toList [])) {w0 : World} {Q : Exit → Act → World → Prop} {e : List AV} {h : Heap} {e' : List AV} {h' : Heap} {X : Nat → TR}
    (T : TextRun call P ops (masks ops.toList []) e h e' h' X) {ds : List Deferred} : ∀ (fuel : Nat) (listed : Array Bool) (φ : List Emb) (a : Act) (w : World) (p : Nat),
    listed.size = ops.size → Closed ops listed → todo ops.size listed ≤ fuel →
    p ∈ louds P ops.toList 0 → (∀ q ∈ louds P ops.toList 0, q < p → listed.getD q false = true) → (p < ops.size → listed.getD p false = false) → R P φ (X p).heap w0 w →
    (∀ (j : Nat) (y : Oper) (t : Tmp), ops[j]? = some y → listed.getD j false = true → y.dst = some t → t < e.length → V φ (X j).val (a.tmps.getD t undef)) →
    (∀ t : Tmp, (∀ (j : Nat) (y : Oper), ops[j]? = some y → listed.getD j false = true → y.dst ≠ some t) → V φ (nth e t) (a.tmps.getD t undef)) →
    a.tmps.size = e.length → a.defers = ds → Final P φ w0 ds Q (.normal, e', h') → wpAny P .any ops Q fuel listed a w := by
  have finish : ∀ (listed : Array Bool) (φ : List Emb) (a : Act) (w : World) (p : Nat), (∀ i, i < ops.size → listed.getD i false = true) → p ∈ louds P ops.toList 0 → (p < ops.size → listed.getD p false = false) → R P φ (X p).heap w0 w →
      (∀ (j : Nat) (y : Oper) (t : Tmp), ops[j]? = some y → listed.getD j false = true → y.dst = some t → t < e.length → V φ (X j).val (a.tmps.getD t undef)) →
      (∀ t : Tmp, (∀ (j : Nat) (y : Oper), ops[j]? = some y → listed.getD j false = true → y.dst ≠ some t) → V φ (nth e t) (a.tmps.getD t undef)) →
      a.tmps.size = e.length → a.defers = ds → Final P φ w0 ds Q (.normal, e', h') → Q .normal a w := by
    intro listed φ a w p hall hp hpf hR hT1 hT2 hsz hds hfin
    have hpn : p = ops.size := by
      rcases Nat.lt_or_ge p ops.size with hlt | hge
      · rw [hall p hlt] at hpf; exact absurd (hpf hlt) (by simp)
      · rw [mem_louds] at hp
        rcases hp with hp | ⟨o', _, ho', _⟩
        · simp at hp; exact hp
        · have := (List.getElem?_eq_some_iff.1 ho').1
          simp at this; omega
    subst hpn
    rw [T.last.2] at hR
    refine hfin φ w a (Up.refl _) hR ?_ hds
    refine Vs.of_get (by rw [Array.length_toList, hsz, ← T.last.1, T.env_length _ (Nat.le_refl _)]) fun t b v hb hv => ?_
    have hgd : a.tmps.getD t undef = v := by
      rw [Array.getElem?_toList] at hv
      simp [Array.getD_eq_getD_getElem?, hv]
    have hnb := nth_list e' t b hb
    have htl : t < e.length := by
      have := (List.getElem?_eq_some_iff.1 hb).1
      rw [← T.last.1, T.env_length _ (Nat.le_refl _)] at this
      exact this
    rw [← hgd, ← hnb, ← T.last.1]
    by_cases hw : ∃ (j : Nat) (y : Oper), ops[j]? = some y ∧ y.dst = some t
    · obtain ⟨j, y, hy, hyt⟩ := hw
      have hjl := (Array.getElem?_eq_some_iff.1 hy).1
      rw [T.env_written S hy hyt htl ops.size hjl (Nat.le_refl _)]
      exact hT1 j y t hy (hall j hjl) hyt htl
    · rw [T.env_kept ops.size (Nat.le_refl _) (fun j y _ hy hyt => hw ⟨j, y, hy, hyt⟩)]
      exact hT2 t (fun j y hy _ hyt => hw ⟨j, y, hy, hyt⟩)
  have getDs : ∀ (listed : Array Bool) (i : Nat), listed.size = ops.size → i < ops.size → listed.getD i true = listed.getD i false := by
    intro listed i hs hi
    simp [Array.getD_eq_getD_getElem?, Array.getElem?_eq_getElem (show i < listed.size by omega)]
  have allDone : ∀ (listed : Array Bool), listed.size = ops.size → Region.ready .any ops listed = [] → ∀ i, i < ops.size → listed.getD i false = true := by
    intro listed hs hr i
    induction i using Nat.strongRecOn with
    | _ i ih =>
      intro hi
      cases hl : listed.getD i false with
      | true => rfl
      | false =>
        have ho : ops[i]? = some ops[i] := Array.getElem?_eq_getElem hi
        have : i ∈ Region.ready .any ops listed := by
          rw [ready_iff]
          refine ⟨_, ho, by rw [getDs listed i hs hi]; exact hl, fun ed hed hb => ?_⟩
          have := S.edge i _ ho ed hed hb
          exact ih ed.on this (by omega)
        rw [hr] at this
        cases this
  intro fuel
  induction fuel with
  | zero =>
    intro listed φ a w p hs hc htodo hp hpl hpf hR hT1 hT2 hsz hds hfin
    have hall : ∀ i, i < ops.size → listed.getD i false = true := fun i hi => by
      rw [← getDs listed i hs hi]; exact todo_zero (Nat.le_zero.1 htodo) i hi
    refine ⟨?_, finish listed φ a w p hall hp hpf hR hT1 hT2 hsz hds hfin⟩
    rw [List.eq_nil_iff_forall_not_mem]
    intro i hi
    rw [ready_iff] at hi
    obtain ⟨o, ho, h1, _⟩ := hi
    have hil := (Array.getElem?_eq_some_iff.1 ho).1
    rw [getDs listed i hs hil, hall i hil] at h1
    cases h1
  | succ fuel ih =>
    intro listed φ a w p hs hc htodo hp hpl hpf hR hT1 hT2 hsz hds hfin
    refine ⟨fun hr => finish listed φ a w p (allDone listed hs hr) hp hpf hR hT1 hT2 hsz hds hfin, ?_⟩
    intro i hi
    rw [ready_iff] at hi
    obtain ⟨o, ho, hil, hedges⟩ := hi
    have hin := (Array.getElem?_eq_some_iff.1 ho).1
    have hil' : listed.getD i false = false := by rw [← getDs listed i hs hin]; exact hil
    -- what the operation looks at
    have hbit := closed_bit S hc i o ho hedges
    have look : ∀ t, t ∈ usesA ops o → V φ (nth (X i).env t) (a.tmps.getD t undef) := by
      intro t ht
      by_cases htl : t < e.length
      · by_cases hw : ∃ (j : Nat) (y : Oper), j < i ∧ ops[j]? = some y ∧ y.dst = some t
        · obtain ⟨j, y, hji, hy, hyt⟩ := hw
          have hlj : listed.getD j false = true := by
            rcases S.pair j i y o hji hy ho with hb | ⟨_, h2, _⟩
            · exact (hbit j hb).1
            · exact absurd ht (h2 t hyt)
          rw [T.env_written S hy hyt htl i hji (by omega)]
          exact hT1 j y t hy hlj hyt htl
        · rw [T.env_kept i (by omega) (fun j y hj hy hyt => hw ⟨j, y, hj, hy, hyt⟩)]
          refine hT2 t fun j y hy hlj hyt => ?_
          have hjl := (Array.getElem?_eq_some_iff.1 hy).1
          rcases Nat.lt_trichotomy j i with h1 | h1 | h1
          · exact hw ⟨j, y, h1, hy, hyt⟩
          · subst h1; rw [hil'] at hlj; cases hlj
          · rcases S.pair i j o y h1 ho hy with hb | ⟨_, _, h3⟩
            · have := (closed_bit S hc j y hy (hc j y hy hlj) i hb).1
              rw [hil'] at this; cases this
            · exact h3 t hyt ht
      · rw [nth_big (X i).env t (by rw [T.env_length i (by omega)]; exact Nat.le_of_not_lt htl)]
        simp [V]
    -- the frame that holds no more than that
    let env : List AV := (List.range e.length).map fun t => if t ∈ usesA ops o then nth (X i).env t else .unk
    have henv : ∀ t, nth env t = if t ∈ usesA ops o ∧ t < e.length then nth (X i).env t else .unk := by
      intro t
      by_cases htl : t < e.length
      · have : env[t]? = some (if t ∈ usesA ops o then nth (X i).env t else .unk) := by simp [env, htl]
        rw [nth_list _ _ _ this]
        by_cases hu : t ∈ usesA ops o <;> simp [hu, htl]
      · rw [nth_big env t (by simp [env]; omega)]
        rw [if_neg (fun hh => htl hh.2)]
    have hVenv : ∀ t, V φ (nth env t) (a.tmps.getD t undef) := by
      intro t
      rw [henv]
      split
      · rename_i hh; exact look t hh.1
      · simp [V]
    have hρ : ∀ x, V φ (evalA P env x) (a.eval x) := by
      intro x
      cases x with
      | tmp t => exact hVenv t
      | const v =>
        simp only [evalA, Act.eval]
        split
        · rename_i b hb; exact ofValue_V hb
        · simp [V]
      | global g =>
        simp only [evalA, Act.eval]
        cases hb : Nat.blt g P.globals.size with
        | true =>
          obtain ⟨n, hn⟩ := hR.glob g ((blt_iff _ _).1 hb)
          simp only [cond_true, V]
          exact ⟨_, hn, by simp⟩
        | false => simp [V]
      | func f => simp [evalA, Act.eval, V, Vs]
    have hcongr : ∀ hh, opA call P env hh o.op = opA call P (X i).env hh o.op := by
      intro hh
      refine opA_congr fun x hx => ?_
      cases x with
      | tmp t =>
        have hmem : t ∈ usesA ops o := by
          unfold usesA
          refine List.mem_append.2 (.inl ?_)
          rw [List.mem_filterMap]
          exact ⟨.tmp t, hx, rfl⟩
        simp only [evalA]
        rw [henv]
        by_cases htl : t < e.length
        · rw [if_pos ⟨hmem, htl⟩]
        · rw [if_neg (fun hh => htl hh.2), nth_big (X i).env t (by rw [T.env_length i (by omega)]; exact Nat.le_of_not_lt htl)]
      | _ => rfl
    have hwant : ∀ b, wantedA ops (X i).env o = some b → Region.wanted o (yielded ops a.tmps) = b := by
      intro b hb
      refine wantedA_eq (φ := φ) hb fun j c d hg hd => look d ?_
      unfold usesA
      refine List.mem_append.2 (.inr ?_)
      rw [hg]
      simp only [hd]
      simp
    -- behind the operation
    let listed' := listed.setIfInBounds i true
    have hs' : listed'.size = ops.size := by simp [listed', hs]
    have hget : ∀ j, listed'.getD j false = if j = i then true else listed.getD j false := by
      intro j
      by_cases hj : j = i
      · subst hj; simp [listed', Array.getD_eq_getD_getElem?, hs, hin]
      · simp [listed', Array.getD_eq_getD_getElem?, Array.getElem?_setIfInBounds_ne (Ne.symm hj), hj]
    have hc' : Closed ops listed' := by
      intro j y hy hlj ed hed hb
      rw [hget] at hlj ⊢
      by_cases hj : j = i
      · subst hj
        rw [ho] at hy; cases hy
        have := hedges ed hed hb
        rw [this]; simp
      · rw [if_neg hj] at hlj
        have := hc j y hy hlj ed hed hb
        rw [this]; simp
    have htodo' : todo ops.size listed' ≤ fuel := by
      have := todo_set hin hs hil
      show todo ops.size (listed.setIfInBounds i true) ≤ fuel
      omega
    have next : ∀ (φ' : List Emb) (w' : World) (v' : Value) (p' : Nat), Up φ φ' → V φ' (X i).val v' → p' ∈ louds P ops.toList 0 → (∀ q ∈ louds P ops.toList 0, q < p' → listed'.getD q false = true) → (p' < ops.size → listed'.getD p' false = false) → R P φ' (X p').heap w0 w' →
        wpAny P .any ops Q fuel listed' (a.put o.dst v') w' := by
      intro φ' w' v' p' hu hv hp' hpl' hpf' hR'
      have hput : ∀ t, (a.put o.dst v').tmps.getD t undef = if o.dst = some t ∧ t < e.length then v' else a.tmps.getD t undef := by
        intro t
        cases hd : o.dst with
        | none => simp [Act.put]
        | some d =>
          simp only [Act.put, Option.some.injEq]
          by_cases hdt : d = t
          · subst hdt
            by_cases htl : d < e.length
            · simp [Array.getD_eq_getD_getElem?, hsz, htl]
            · simp [Array.getD_eq_getD_getElem?, hsz, htl]
          · simp [Array.getD_eq_getD_getElem?, Array.getElem?_setIfInBounds_ne hdt, hdt]
      refine ih listed' φ' _ w' p' hs' hc' htodo' hp' hpl' hpf' hR' ?_ ?_ ?_ (by rw [put_defers']; exact hds) (hfin.up hu)
      · intro j y t hy hlj hyt htl
        rw [hput]
        rw [hget] at hlj
        by_cases hj : j = i
        · subst hj
          rw [ho] at hy; cases hy
          rw [if_pos ⟨hyt, htl⟩]
          exact hv
        · rw [if_neg hj] at hlj
          rw [if_neg (fun hh => ?_)]
          · exact V.up hu _ _ (hT1 j y t hy hlj hyt htl)
          · rcases Nat.lt_or_gt_of_ne hj with h1 | h1
            · exact S.dst j i y o t h1 hy ho hyt hh.1
            · exact S.dst i j o y t h1 ho hy hh.1 hyt
      · intro t hno
        have hne : o.dst ≠ some t := hno i o ho (by rw [hget]; simp)
        rw [hput, if_neg (fun hh => hne hh.1)]
        refine V.up hu _ _ (hT2 t fun j y hy hlj => hno j y hy ?_)
        rw [hget]
        by_cases hj : j = i
        · simp [hj]
        · rw [if_neg hj]; exact hlj
      · cases hd : o.dst <;> simp [Act.put, hsz]
    -- the frontier
    have loudMem : ∀ q, q < ops.size → (q ∈ louds P ops.toList 0 ↔ ∃ y, ops[q]? = some y ∧ loudA P y.op = true) := by
      intro q hq
      rw [mem_louds]
      constructor
      · rintro (h1 | ⟨y, _, h2, h3⟩)
        · simp at h1; omega
        · exact ⟨y, by rw [Nat.sub_zero, Array.getElem?_toList] at h2; exact h2, h3⟩
      · rintro ⟨y, h2, h3⟩
        exact .inr ⟨y, Nat.zero_le _, by rw [Nat.sub_zero, Array.getElem?_toList]; exact h2, h3⟩
    have endMem : ops.size ∈ louds P ops.toList 0 := by rw [mem_louds]; exact .inl (by simp)
    cases hloud : loudA P o.op with
    | true =>
      have hiF : i ∈ louds P ops.toList 0 := (loudMem i hin).2 ⟨o, ho, hloud⟩
      have hpi : p = i := by
        have h1 : p ≤ i := by
          rcases Nat.lt_or_ge i p with h | h
          · have := hpl i hiF h; rw [hil'] at this; cases this
          · exact h
        rcases Nat.lt_or_ge p i with h | h
        · exfalso
          obtain ⟨y, hy, hly⟩ := (loudMem p (by omega)).1 hp
          rcases S.pair p i y o h hy ho with hb | ⟨hh, _⟩
          · have := (hbit p hb).1
            rw [hpf (by omega)] at this; cases this
          · rw [hly, hloud] at hh; simp at hh
        · omega
      subst hpi
      obtain ⟨p', hp', hlt', hmin⟩ := least_above (louds P ops.toList 0) p ops.size ⟨ops.size, endMem, hin, Nat.le_refl _⟩
      have hp'n : p' ≤ ops.size := hmin ops.size endMem hin
      have hpl' : ∀ q ∈ louds P ops.toList 0, q < p' → listed'.getD q false = true := by
        intro q hq hqp
        rw [hget]
        by_cases hqi : q = p
        · rw [if_pos hqi]
        · rw [if_neg hqi]
          refine hpl q hq ?_
          rcases Nat.lt_or_ge p q with h1 | h1
          · have := hmin q hq h1; omega
          · omega
      have hpf' : p' < ops.size → listed'.getD p' false = false := by
        intro hlt
        rw [hget, if_neg (by omega)]
        obtain ⟨y, hy, hly⟩ := (loudMem p' hlt).1 hp'
        cases hl : listed.getD p' false with
        | false => rfl
        | true =>
          rcases S.pair p p' o y hlt' ho hy with hb | ⟨hh, _⟩
          · have := (closed_bit S hc p' y hy (hc p' y hy hl) p hb).1
            rw [hil'] at this; cases this
          · rw [hly, hloud] at hh; simp at hh
      have hheap : (X p').heap = (X (p + 1)).heap := by
        refine quiet_between T.step p' (by omega) hp'n (fun q hq hh => ?_)
        have := hmin q hq (by omega)
        omega
      unfold wpOp
      rw [ho]
      simp only
      rcases T.step p o ho with ⟨_, h2, h3, _⟩ | ⟨_, h2, h3, h4, _⟩
      · rw [hwant true h2]
        simp only [if_true]
        left
        rw [← hcongr] at h3
        refine opA_wp hF hcall hR hρ h3 ?_
        intro φ' w' v' hu hR' hv
        exact next φ' w' v' p' hu hv hp' hpl' hpf' (by rw [hheap]; exact hR')
      · rw [hwant false h2]
        simp only [Bool.false_eq_true, if_false]
        refine next φ w undef p' (Up.refl _) (by rw [h3]; exact undef_V φ) hp' hpl' hpf' ?_
        rw [hheap, h4]
        exact hR
    | false =>
      have hpi : p ≠ i := by
        intro hpi
        subst hpi
        obtain ⟨y, hy, hly⟩ := (loudMem p hin).1 hp
        rw [ho] at hy; cases hy
        rw [hloud] at hly; cases hly
      have hpl' : ∀ q ∈ louds P ops.toList 0, q < p → listed'.getD q false = true := by
        intro q hq hqp
        rw [hget, hpl q hq hqp]; simp
      have hpf' : p < ops.size → listed'.getD p false = false := by
        intro hlt
        rw [hget, if_neg hpi]; exact hpf hlt
      unfold wpOp
      rw [ho]
      simp only
      rcases T.step i o ho with ⟨h1, h2, h3, _⟩ | ⟨_, h2, h3, h4, _⟩
      · rw [hwant true h2]
        simp only [if_true]
        left
        obtain ⟨v, hv, ha⟩ := quiet_same hloud h3
        simp only [CRes.ret.injEq] at hv
        obtain ⟨hv1, _⟩ := hv
        rw [← hv1] at ha
        have haop : aop P (X i).env (X p).heap o.op = some ((X i).val, (X p).heap) := by
          cases hrd : readsA P o.op with
          | false => exact quiet_free hloud hrd ha _
          | true =>
            refine T.same i o ho h1 hrd hloud p hp ?_
            rw [mayAt_iff]
            refine ⟨?_, fun q hq hqp => ?_⟩
            · cases hb : Nat.testBit ((masks ops.toList []).getD i 0) p with
              | false => rfl
              | true =>
                obtain ⟨h5, h6⟩ := hbit p hb
                rw [hpf (by omega)] at h5; cases h5
            · cases hb : Nat.testBit ((masks ops.toList []).getD q 0) i with
              | false => rfl
              | true =>
                have hpn : p ≤ ops.size := by
                  rw [mem_louds] at hp
                  rcases hp with hp | ⟨o', _, ho', _⟩
                  · simp at hp; omega
                  · have := (List.getElem?_eq_some_iff.1 ho').1
                    simp at this; omega
                have hyq : ops[q]? = some ops[q] := Array.getElem?_eq_getElem (by omega)
                have := (closed_bit S hc q _ hyq (hc q _ hyq (hpl q hq hqp)) i hb).1
                rw [hil'] at this; cases this
        have hop : opA call P env (X p).heap o.op = some (.ret (X i).val (X p).heap) := by
          rw [hcongr]
          have : toRet (aop P (X i).env (X p).heap o.op) = some (.ret (X i).val (X p).heap) := by rw [haop]; rfl
          cases hop : o.op with
          | call c =>
            rw [hop] at this hloud
            obtain ⟨callee, args, ats⟩ := c
            cases callee with
            | value f => simp [loudA] at hloud
            | invoke r n => simp [loudA] at hloud
            | builtin b =>
              simp only [opA]
              have hb : b ≠ .panic := by rintro rfl; simp [loudA] at hloud
              unfold biA
              split
              · exact absurd rfl hb
              · exact this
          | panic x => rw [hop] at hloud; simp [loudA] at hloud
          | _ => rw [hop] at this; exact this
        refine opA_wp hF hcall hR hρ hop ?_
        intro φ' w' v' hu hR' hv
        exact next φ' w' v' p hu hv hp hpl' hpf' hR'
      · rw [hwant false h2]
        simp only [Bool.false_eq_true, if_false]
        exact next φ w undef p (Up.refl _) (by rw [h3]; exact undef_V φ) hp hpl' hpf' hR

theorem drawA_ok {P : Program} (hF : Fns P) (hm : P.follows .mixedOrders = true) : DrawOk P (drawA P) := by
  intro call hcall id ops w0 Q φ e h w a r hR he hr hf
  unfold drawA at hr
  cases hst : drawStatic P ops (masks ops.toList []) with
  | false => simp [hst] at hr
  | true =>
    simp only [hst, cond_true] at hr
    split at hr
    · rename_i e' h' hops
      cases hd : needNot P (masks ops.toList []) (louds P ops.toList 0) ops.toList 0 || dynOk call P ops e h with
      | false => simp [hd] at hr
      | true =>
        simp only [hd, cond_true, Option.some.injEq] at hr
        subst hr
        have S := static_of hst
        obtain ⟨X, T⟩ := textRun_of hops hd
        refine wp_region_any hm ?_
        have endMem : ops.size ∈ louds P ops.toList 0 := by rw [mem_louds]; exact .inl (by simp)
        have hfalse : ∀ i, (Array.replicate ops.size false).getD i false = false := by
          intro i
          simp [Array.getD_eq_getD_getElem?, Array.getElem?_replicate]
          split <;> rfl
        -- the first loud one
        obtain ⟨p, hp, hmin⟩ : ∃ p ∈ louds P ops.toList 0, ∀ q ∈ louds P ops.toList 0, p ≤ q := by
          by_cases h0 : 0 ∈ louds P ops.toList 0
          · exact ⟨0, h0, fun q _ => Nat.zero_le _⟩
          · have hpos : 0 < ops.size := by
              rcases Nat.eq_zero_or_pos ops.size with h1 | h1
              · rw [h1] at endMem; exact absurd endMem h0
              · exact h1
            obtain ⟨p, hp, _, hmin⟩ := least_above (louds P ops.toList 0) 0 ops.size ⟨ops.size, endMem, hpos, Nat.le_refl _⟩
            refine ⟨p, hp, fun q hq => hmin q hq ?_⟩
            rcases Nat.eq_zero_or_pos q with h1 | h1
            · rw [h1] at hq; exact absurd hq h0
            · exact h1
        have hpn := hmin ops.size endMem
        have hheap : (X p).heap = h := by
          rw [quiet_between T.step p (Nat.zero_le _) hpn (fun q hq hh => by have := hmin q hq; omega), T.first.2]
        refine draw_wp hF hcall S T ops.size _ φ a _ p (by simp) ?_ ?_ hp ?_ (fun _ => hfalse p) ?_ ?_ ?_ ?_ rfl hf
        · intro i o ho hl; rw [hfalse] at hl; cases hl
        · unfold todo
          refine Nat.le_trans (List.countP_le_length) (by simp)
        · intro q hq hqp; have := hmin q hq; omega
        · rw [hheap]; exact hR.drew rfl rfl rfl rfl
        · intro j y t hy hl; rw [hfalse] at hl; cases hl
        · intro t _
          have := nth_V he t
          simpa [Array.getD_eq_getD_getElem?, List.getD_eq_getElem?_getD] using this
        · rw [← Array.length_toList, he.length]
    · cases hr
end Go.Am
