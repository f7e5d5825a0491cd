/- Parts of the proof by the abstract machine: Draw3, Ev, Mrg, PlanD, Lim. -/
import Derived.Test.YteoekjfgihnhaaaGreatDoorHmGRB13
import Derived.Test.YteoekjfgihnhaaaGreatDoorHmGRB2
set_option linter.all false
noncomputable section
namespace Go.Am
open Go.RowKit

theorem nth_set (env : List AV) (d t : Nat) (v : AV) : nth (env.set d v) t = if d = t ∧ t < env.length then v else nth env t := by
  induction env generalizing d t with
  | nil => simp [nth]
  | cons x xs ih =>
    cases d with
    | zero => cases t <;> simp [nth]
    | succ d =>
      cases t with
      | zero => simp [nth]
      | succ t => simp [nth, ih]
theorem nth_big (env : List AV) (t : Nat) (h : env.length ≤ t) : nth env t = .unk := by
  induction env generalizing t with
  | nil => rfl
  | cons x xs ih =>
    cases t with
    | zero => simp at h
    | succ t => simp at h; exact ih t h
theorem putA_length (env : List AV) (d : Option Tmp) (v : AV) : (putA env d v).length = env.length := by cases d <;> simp [putA]
theorem nth_putA (env : List AV) (d : Option Tmp) (v : AV) (t : Nat) : nth (putA env d v) t = if d = some t ∧ t < env.length then v else nth env t := by
  cases d with
  | none => simp [putA]
  | some d => simp [putA, nth_set]

theorem nth_list : ∀ (env : List AV) (i : Nat) (a : AV), env[i]? = some a → nth env i = a
  | [], i, a, h => by simp at h
  | x :: xs, 0, a, h => by simp at h; simp [nth, h]
  | x :: xs, i + 1, a, h => by simp at h; simp [nth]; exact nth_list xs i a h

section
variable {call : CallF} {P : Program} {ops : Array Oper} {bs : List Nat} {e : List AV} {h : Heap} {e' : List AV} {h' : Heap} {X : Nat → TR}

theorem TextRun.env_step (T : TextRun call P ops bs e h e' h' X) {i : Nat} {o : Oper} (ho : ops[i]? = some o) : (X (i + 1)).env = putA (X i).env o.dst (X i).val := by
  rcases T.step i o ho with ⟨_, _, _, h4⟩ | ⟨_, _, h3, _, h5⟩
  · exact h4
  · rw [h3]; exact h5
theorem TextRun.env_length (T : TextRun call P ops bs e h e' h' X) : ∀ i, i ≤ ops.size → (X i).env.length = e.length
  | 0, _ => by rw [T.first.1]
  | i + 1, hi => by
    have ho : ops[i]? = some ops[i] := Array.getElem?_eq_getElem (by omega)
    rw [T.env_step ho, putA_length, T.env_length i (by omega)]
/-- What a slot holds: what its one writer has put, or what it held. -/
theorem TextRun.env_written (T : TextRun call P ops bs e h e' h' X) (S : Static P ops bs) {j : Nat} {y : Oper} {t : Tmp} (hy : ops[j]? = some y) (ht : y.dst = some t) (hlt : t < e.length) : ∀ i, j < i → i ≤ ops.size → nth (X i).env t = (X j).val
  | 0, h1, _ => by omega
  | i + 1, h1, h2 => by
    have ho : ops[i]? = some ops[i] := Array.getElem?_eq_getElem (by omega)
    rw [T.env_step ho, nth_putA]
    by_cases hij : i = j
    · subst hij
      rw [ho] at hy
      cases hy
      rw [if_pos ⟨ht, by rw [T.env_length i (by omega)]; exact hlt⟩]
    · rw [if_neg (fun hh => S.dst j i y ops[i] t (by omega) hy ho ht hh.1)]
      exact T.env_written S hy ht hlt i (by omega) (by omega)
theorem TextRun.env_kept (T : TextRun call P ops bs e h e' h' X) {t : Tmp} : ∀ i, i ≤ ops.size → (∀ j y, j < i → ops[j]? = some y → y.dst ≠ some t) → nth (X i).env t = nth e t
  | 0, _, _ => by rw [T.first.1]
  | i + 1, h1, h2 => by
    have ho : ops[i]? = some ops[i] := Array.getElem?_eq_getElem (by omega)
    rw [T.env_step ho, nth_putA, if_neg (fun hh => h2 i _ (by omega) ho hh.1)]
    exact T.env_kept i (by omega) (fun j y hj => h2 j y (by omega))
end

/-- How many are still to be done. -/
def todo (n : Nat) (listed : Array Bool) : Nat := (List.range n).countP fun i => !listed.getD i true
theorem todo_zero {n : Nat} {listed : Array Bool} (h : todo n listed = 0) : ∀ i, i < n → listed.getD i true = true := by
  intro i hi
  unfold todo at h
  rw [List.countP_eq_zero] at h
  have := h i (List.mem_range.2 hi)
  simpa using this
theorem todo_set {n i : Nat} {listed : Array Bool} (hi : i < n) (hs : listed.size = n) (hl : listed.getD i true = false) : todo n (listed.setIfInBounds i true) + 1 = todo n listed := by
  unfold todo
  have key : ∀ (l : List Nat), l.Nodup → (∀ x ∈ l, x < n) → (l.countP fun k => !(listed.setIfInBounds i true).getD k true) + (if i ∈ l then 1 else 0) = l.countP fun k => !listed.getD k true := by
    intro l
    induction l with
    | nil => simp
    | cons x xs ih =>
      intro hn hb
      rw [List.nodup_cons] at hn
      have ih' := ih hn.2 (fun y hy => hb y (List.mem_cons_of_mem _ hy))
      rw [List.countP_cons, List.countP_cons]
      by_cases hx : x = i
      · subst hx
        have h1 : (listed.setIfInBounds x true).getD x true = true := by
          simp [Array.getD_eq_getD_getElem?, hs, hi]
        rw [if_neg hn.1] at ih'
        simp only [h1, hl, Bool.not_true, Bool.false_eq_true, if_false, Bool.not_false, if_true, List.mem_cons, true_or]
        omega
      · have h1 : (listed.setIfInBounds i true).getD x true = listed.getD x true := by
          simp [Array.getD_eq_getD_getElem?, Array.getElem?_setIfInBounds_ne (Ne.symm hx)]
        rw [h1]
        have h2 : (i ∈ x :: xs) ↔ i ∈ xs := by simp [Ne.symm hx]
        by_cases hm : i ∈ xs
        · rw [if_pos (h2.2 hm)]; rw [if_pos hm] at ih'; omega
        · rw [if_neg (fun hh => hm (h2.1 hh))]; rw [if_neg hm] at ih'; omega
  have := key (List.range n) List.nodup_range (fun x hx => List.mem_range.1 hx)
  rw [if_pos (List.mem_range.2 hi)] at this
  exact this

theorem ready_iff {ops : Array Oper} {listed : Array Bool} {i : Nat} : i ∈ Region.ready .any ops listed ↔ ∃ o, ops[i]? = some o ∧ listed.getD i true = false ∧ ∀ e ∈ o.after.toList, bindsA e = true → listed.getD e.on false = true := by
  unfold Region.ready
  rw [List.mem_filter, List.mem_range]
  constructor
  · rintro ⟨hi, hh⟩
    rw [Bool.and_eq_true] at hh
    obtain ⟨h1, h2⟩ := hh
    rw [Array.getElem?_eq_getElem hi] at h2
    simp only [Option.map_some, Option.getD_some] at h2
    refine ⟨_, Array.getElem?_eq_getElem hi, by simpa using h1, fun e he hb => ?_⟩
    rw [Array.all_eq_true_iff_forall_mem] at h2
    have := h2 e (by simpa using he)
    rw [show Region.binds .any e = bindsA e from rfl, hb] at this
    simpa using this
  · rintro ⟨o, ho, h1, h2⟩
    obtain ⟨hi, rfl⟩ := Array.getElem?_eq_some_iff.1 ho
    refine ⟨hi, ?_⟩
    rw [Bool.and_eq_true]
    refine ⟨by simpa using h1, ?_⟩
    rw [Array.getElem?_eq_getElem hi]
    simp only [Option.map_some, Option.getD_some]
    rw [Array.all_eq_true_iff_forall_mem]
    intro e he
    rw [show Region.binds .any e = bindsA e from rfl]
    cases hb : bindsA e with
    | false => rfl
    | true => simpa using h2 e (by simpa using he) hb

/-- Whatever is done, all that stands before it is done. -/
def Closed (ops : Array Oper) (listed : Array Bool) : Prop := ∀ (i : Nat) (o : Oper), ops[i]? = some o → listed.getD i false = true → ∀ e ∈ o.after.toList, bindsA e = true → listed.getD e.on false = true

theorem closed_bit {P : Program} {ops : Array Oper} (S : Static P ops (masks ops.toList [])) {listed : Array Bool} (hc : Closed ops listed) : ∀ (i : Nat) (o : Oper), ops[i]? = some o → (∀ e ∈ o.after.toList, bindsA e = true → listed.getD e.on false = true) → ∀ j, Nat.testBit ((masks ops.toList []).getD i 0) j = true → listed.getD j false = true ∧ j < i := by
  intro i
  induction i using Nat.strongRecOn with
  | _ i ih =>
    intro o ho he j hj
    obtain ⟨pre, h1, h2, h3⟩ := masks_at ops.toList [] i o (by rw [Array.getElem?_toList]; exact ho)
    simp only [List.length_nil, Nat.zero_add] at h1 h2
    rw [h2] at hj
    obtain ⟨ed, hed, hb, hh⟩ := maskOf_bit hj
    have hlt := S.edge i o ho ed hed hb
    have hl := he ed hed hb
    rcases hh with rfl | hh
    · exact ⟨hl, hlt⟩
    · rw [h3 _ (by omega)] at hh
      have hil : i < ops.size := (Array.getElem?_eq_some_iff.1 ho).1
      have ho2 : ops[ed.on]? = some ops[ed.on] := Array.getElem?_eq_getElem (by omega)
      have := ih ed.on hlt ops[ed.on] ho2 (hc ed.on _ ho2 hl) j hh
      exact ⟨this.1, by omega⟩

theorem least_above (l : List Nat) (i : Nat) : ∀ m, (∃ q ∈ l, i < q ∧ q ≤ m) → ∃ p ∈ l, i < p ∧ ∀ q ∈ l, i < q → p ≤ q := by
  intro m
  induction m using Nat.strongRecOn with
  | _ m ih =>
    rintro ⟨q, hq, h1, h2⟩
    by_cases hx : ∃ r ∈ l, i < r ∧ r < q
    · obtain ⟨r, hr, h3, h4⟩ := hx
      exact ih (q - 1) (by omega) ⟨r, hr, h3, by omega⟩
    · refine ⟨q, hq, h1, fun r hr h3 => ?_⟩
      rcases Nat.lt_or_ge r q with h4 | h4
      · exact absurd ⟨r, hr, h3, h4⟩ hx
      · exact h4

theorem draw_wp {ρ : Option Nat} {P : Program} (hF : Fns P) {call : CallF} (hcall : CallsOk P call) {ops : Array Oper} (S : Static P ops (masks ops.toList [])) {w0 : World} {Q : Exit → Act → World → Prop} {e : List AV} {h : Heap} {e' : List AV} {h' : Heap} {X : Nat → TR}
    (T : TextRun call P ops (masks ops.toList []) e h e' h' X) {ds : List Deferred} : ∀ (fuel : Nat) (listed : Array Bool) (φ : List Emb) (a : Act) (w : World) (p : Nat),
    listed.size = ops.size → Closed ops listed → todo ops.size listed ≤ fuel →
    p ∈ louds P ops.toList 0 → (∀ q ∈ louds P ops.toList 0, q < p → listed.getD q false = true) → (p < ops.size → listed.getD p false = false) → R P φ (X p).heap w0 w →
    (∀ (j : Nat) (y : Oper) (t : Tmp), ops[j]? = some y → listed.getD j false = true → y.dst = some t → t < e.length → V φ (X j).val (a.tmps.getD t undef)) →
    (∀ t : Tmp, (∀ (j : Nat) (y : Oper), ops[j]? = some y → listed.getD j false = true → y.dst ≠ some t) → V φ (nth e t) (a.tmps.getD t undef)) →
    a.tmps.size = e.length → a.defers = ds → Final P φ w0 ds Q (.normal, e', h') → wpAnyIn (wideR ρ) 0 P .any ops Q fuel listed a w := by
  have finish : ∀ (listed : Array Bool) (φ : List Emb) (a : Act) (w : World) (p : Nat), (∀ i, i < ops.size → listed.getD i false = true) → p ∈ louds P ops.toList 0 → (p < ops.size → listed.getD p false = false) → R P φ (X p).heap w0 w →
      (∀ (j : Nat) (y : Oper) (t : Tmp), ops[j]? = some y → listed.getD j false = true → y.dst = some t → t < e.length → V φ (X j).val (a.tmps.getD t undef)) →
      (∀ t : Tmp, (∀ (j : Nat) (y : Oper), ops[j]? = some y → listed.getD j false = true → y.dst ≠ some t) → V φ (nth e t) (a.tmps.getD t undef)) →
      a.tmps.size = e.length → a.defers = ds → Final P φ w0 ds Q (.normal, e', h') → Q .normal a w := by
    intro listed φ a w p hall hp hpf hR hT1 hT2 hsz hds hfin
    have hpn : p = ops.size := by
      rcases Nat.lt_or_ge p ops.size with hlt | hge
      · rw [hall p hlt] at hpf; exact absurd (hpf hlt) (by simp)
      · rw [mem_louds] at hp
        rcases hp with hp | ⟨o', _, ho', _⟩
        · simp at hp; exact hp
        · have := (List.getElem?_eq_some_iff.1 ho').1
          simp at this; omega
    subst hpn
    rw [T.last.2] at hR
    refine hfin φ w a (Up.refl _) hR ?_ hds
    refine Vs.of_get (by rw [Array.length_toList, hsz, ← T.last.1, T.env_length _ (Nat.le_refl _)]) fun t b v hb hv => ?_
    have hgd : a.tmps.getD t undef = v := by
      rw [Array.getElem?_toList] at hv
      simp [Array.getD_eq_getD_getElem?, hv]
    have hnb := nth_list e' t b hb
    have htl : t < e.length := by
      have := (List.getElem?_eq_some_iff.1 hb).1
      rw [← T.last.1, T.env_length _ (Nat.le_refl _)] at this
      exact this
    rw [← hgd, ← hnb, ← T.last.1]
    by_cases hw : ∃ (j : Nat) (y : Oper), ops[j]? = some y ∧ y.dst = some t
    · obtain ⟨j, y, hy, hyt⟩ := hw
      have hjl := (Array.getElem?_eq_some_iff.1 hy).1
      rw [T.env_written S hy hyt htl ops.size hjl (Nat.le_refl _)]
      exact hT1 j y t hy (hall j hjl) hyt htl
    · rw [T.env_kept ops.size (Nat.le_refl _) (fun j y _ hy hyt => hw ⟨j, y, hy, hyt⟩)]
      exact hT2 t (fun j y hy _ hyt => hw ⟨j, y, hy, hyt⟩)
  have getDs : ∀ (listed : Array Bool) (i : Nat), listed.size = ops.size → i < ops.size → listed.getD i true = listed.getD i false := by
    intro listed i hs hi
    simp [Array.getD_eq_getD_getElem?, Array.getElem?_eq_getElem (show i < listed.size by omega)]
  have allDone : ∀ (listed : Array Bool), listed.size = ops.size → Region.ready .any ops listed = [] → ∀ i, i < ops.size → listed.getD i false = true := by
    intro listed hs hr i
    induction i using Nat.strongRecOn with
    | _ i ih =>
      intro hi
      cases hl : listed.getD i false with
      | true => rfl
      | false =>
        have ho : ops[i]? = some ops[i] := Array.getElem?_eq_getElem hi
        have : i ∈ Region.ready .any ops listed := by
          rw [ready_iff]
          refine ⟨_, ho, by rw [getDs listed i hs hi]; exact hl, fun ed hed hb => ?_⟩
          have := S.edge i _ ho ed hed hb
          exact ih ed.on this (by omega)
        rw [hr] at this
        cases this
  intro fuel
  induction fuel with
  | zero =>
    intro listed φ a w p hs hc htodo hp hpl hpf hR hT1 hT2 hsz hds hfin
    have hall : ∀ i, i < ops.size → listed.getD i false = true := fun i hi => by
      rw [← getDs listed i hs hi]; exact todo_zero (Nat.le_zero.1 htodo) i hi
    refine ⟨?_, finish listed φ a w p hall hp hpf hR hT1 hT2 hsz hds hfin⟩
    rw [List.eq_nil_iff_forall_not_mem]
    intro i hi
    rw [ready_iff] at hi
    obtain ⟨o, ho, h1, _⟩ := hi
    have hil := (Array.getElem?_eq_some_iff.1 ho).1
    rw [getDs listed i hs hil, hall i hil] at h1
    cases h1
  | succ fuel ih =>
    intro listed φ a w p hs hc htodo hp hpl hpf hR hT1 hT2 hsz hds hfin
    refine ⟨fun hr => finish listed φ a w p (allDone listed hs hr) hp hpf hR hT1 hT2 hsz hds hfin, ?_⟩
    intro i hi
    rw [ready_iff] at hi
    obtain ⟨o, ho, hil, hedges⟩ := hi
    have hin := (Array.getElem?_eq_some_iff.1 ho).1
    have hil' : listed.getD i false = false := by rw [← getDs listed i hs hin]; exact hil
    -- what the operation looks at
    have hbit := closed_bit S hc i o ho hedges
    have look : ∀ t, t ∈ usesA ops o → V φ (nth (X i).env t) (a.tmps.getD t undef) := by
      intro t ht
      by_cases htl : t < e.length
      · by_cases hw : ∃ (j : Nat) (y : Oper), j < i ∧ ops[j]? = some y ∧ y.dst = some t
        · obtain ⟨j, y, hji, hy, hyt⟩ := hw
          have hlj : listed.getD j false = true := by
            rcases S.pair j i y o hji hy ho with hb | ⟨_, h2, _⟩
            · exact (hbit j hb).1
            · exact absurd ht (h2 t hyt)
          rw [T.env_written S hy hyt htl i hji (by omega)]
          exact hT1 j y t hy hlj hyt htl
        · rw [T.env_kept i (by omega) (fun j y hj hy hyt => hw ⟨j, y, hj, hy, hyt⟩)]
          refine hT2 t fun j y hy hlj hyt => ?_
          have hjl := (Array.getElem?_eq_some_iff.1 hy).1
          rcases Nat.lt_trichotomy j i with h1 | h1 | h1
          · exact hw ⟨j, y, h1, hy, hyt⟩
          · subst h1; rw [hil'] at hlj; cases hlj
          · rcases S.pair i j o y h1 ho hy with hb | ⟨_, _, h3⟩
            · have := (closed_bit S hc j y hy (hc j y hy hlj) i hb).1
              rw [hil'] at this; cases this
            · exact h3 t hyt ht
      · rw [nth_big (X i).env t (by rw [T.env_length i (by omega)]; exact Nat.le_of_not_lt htl)]
        simp [V]
    -- the frame that holds no more than that
    let env : List AV := (List.range e.length).map fun t => if t ∈ usesA ops o then nth (X i).env t else .unk
    have henv : ∀ t, nth env t = if t ∈ usesA ops o ∧ t < e.length then nth (X i).env t else .unk := by
      intro t
      by_cases htl : t < e.length
      · have : env[t]? = some (if t ∈ usesA ops o then nth (X i).env t else .unk) := by simp [env, htl]
        rw [nth_list _ _ _ this]
        by_cases hu : t ∈ usesA ops o <;> simp [hu, htl]
      · rw [nth_big env t (by simp [env]; omega)]
        rw [if_neg (fun hh => htl hh.2)]
    have hVenv : ∀ t, V φ (nth env t) (a.tmps.getD t undef) := by
      intro t
      rw [henv]
      split
      · rename_i hh; exact look t hh.1
      · simp [V]
    have hρ : ∀ x, V φ (evalA P env x) (a.eval x) := by
      intro x
      cases x with
      | tmp t => exact hVenv t
      | const v =>
        simp only [evalA, Act.eval]
        split
        · rename_i b hb; exact ofValue_V hb
        · simp [V]
      | global g =>
        simp only [evalA, Act.eval]
        cases hb : Nat.blt g P.globals.size with
        | true =>
          obtain ⟨n, hn⟩ := hR.glob g ((blt_iff _ _).1 hb)
          simp only [cond_true, V]
          exact ⟨_, hn, by simp⟩
        | false => simp [V]
      | func f => simp [evalA, Act.eval, V, Vs]
    have hcongr : ∀ hh, opA call P env hh o.op = opA call P (X i).env hh o.op := by
      intro hh
      refine opA_congr fun x hx => ?_
      cases x with
      | tmp t =>
        have hmem : t ∈ usesA ops o := by
          unfold usesA
          refine List.mem_append.2 (.inl ?_)
          rw [List.mem_filterMap]
          exact ⟨.tmp t, hx, rfl⟩
        simp only [evalA]
        rw [henv]
        by_cases htl : t < e.length
        · rw [if_pos ⟨hmem, htl⟩]
        · rw [if_neg (fun hh => htl hh.2), nth_big (X i).env t (by rw [T.env_length i (by omega)]; exact Nat.le_of_not_lt htl)]
      | _ => rfl
    have hwant : ∀ b, wantedA ops (X i).env o = some b → Region.wanted o (yielded ops a.tmps) = b := by
      intro b hb
      refine wantedA_eq (φ := φ) hb fun j c d hg hd => look d ?_
      unfold usesA
      refine List.mem_append.2 (.inr ?_)
      rw [hg]
      simp only [hd]
      simp
    -- behind the operation
    let listed' := listed.setIfInBounds i true
    have hs' : listed'.size = ops.size := by simp [listed', hs]
    have hget : ∀ j, listed'.getD j false = if j = i then true else listed.getD j false := by
      intro j
      by_cases hj : j = i
      · subst hj; simp [listed', Array.getD_eq_getD_getElem?, hs, hin]
      · simp [listed', Array.getD_eq_getD_getElem?, Array.getElem?_setIfInBounds_ne (Ne.symm hj), hj]
    have hc' : Closed ops listed' := by
      intro j y hy hlj ed hed hb
      rw [hget] at hlj ⊢
      by_cases hj : j = i
      · subst hj
        rw [ho] at hy; cases hy
        have := hedges ed hed hb
        rw [this]; simp
      · rw [if_neg hj] at hlj
        have := hc j y hy hlj ed hed hb
        rw [this]; simp
    have htodo' : todo ops.size listed' ≤ fuel := by
      have := todo_set hin hs hil
      show todo ops.size (listed.setIfInBounds i true) ≤ fuel
      omega
    have next : ∀ (φ' : List Emb) (w' : World) (v' : Value) (p' : Nat), Up φ φ' → V φ' (X i).val v' → p' ∈ louds P ops.toList 0 → (∀ q ∈ louds P ops.toList 0, q < p' → listed'.getD q false = true) → (p' < ops.size → listed'.getD p' false = false) → R P φ' (X p').heap w0 w' →
        wpAnyIn (wideR ρ) 0 P .any ops Q fuel listed' (a.put o.dst v') w' := by
      intro φ' w' v' p' hu hv hp' hpl' hpf' hR'
      have hput : ∀ t, (a.put o.dst v').tmps.getD t undef = if o.dst = some t ∧ t < e.length then v' else a.tmps.getD t undef := by
        intro t
        cases hd : o.dst with
        | none => simp [Act.put]
        | some d =>
          simp only [Act.put, Option.some.injEq]
          by_cases hdt : d = t
          · subst hdt
            by_cases htl : d < e.length
            · simp [Array.getD_eq_getD_getElem?, hsz, htl]
            · simp [Array.getD_eq_getD_getElem?, hsz, htl]
          · simp [Array.getD_eq_getD_getElem?, Array.getElem?_setIfInBounds_ne hdt, hdt]
      refine ih listed' φ' _ w' p' hs' hc' htodo' hp' hpl' hpf' hR' ?_ ?_ ?_ (by rw [put_defers']; exact hds) (hfin.up hu)
      · intro j y t hy hlj hyt htl
        rw [hput]
        rw [hget] at hlj
        by_cases hj : j = i
        · subst hj
          rw [ho] at hy; cases hy
          rw [if_pos ⟨hyt, htl⟩]
          exact hv
        · rw [if_neg hj] at hlj
          rw [if_neg (fun hh => ?_)]
          · exact V.up hu _ _ (hT1 j y t hy hlj hyt htl)
          · rcases Nat.lt_or_gt_of_ne hj with h1 | h1
            · exact S.dst j i y o t h1 hy ho hyt hh.1
            · exact S.dst i j o y t h1 ho hy hh.1 hyt
      · intro t hno
        have hne : o.dst ≠ some t := hno i o ho (by rw [hget]; simp)
        rw [hput, if_neg (fun hh => hne hh.1)]
        refine V.up hu _ _ (hT2 t fun j y hy hlj => hno j y hy ?_)
        rw [hget]
        by_cases hj : j = i
        · simp [hj]
        · rw [if_neg hj]; exact hlj
      · cases hd : o.dst <;> simp [Act.put, hsz]
    -- the frontier
    have loudMem : ∀ q, q < ops.size → (q ∈ louds P ops.toList 0 ↔ ∃ y, ops[q]? = some y ∧ loudA P y.op = true) := by
      intro q hq
      rw [mem_louds]
      constructor
      · rintro (h1 | ⟨y, _, h2, h3⟩)
        · simp at h1; omega
        · exact ⟨y, by rw [Nat.sub_zero, Array.getElem?_toList] at h2; exact h2, h3⟩
      · rintro ⟨y, h2, h3⟩
        exact .inr ⟨y, Nat.zero_le _, by rw [Nat.sub_zero, Array.getElem?_toList]; exact h2, h3⟩
    have endMem : ops.size ∈ louds P ops.toList 0 := by rw [mem_louds]; exact .inl (by simp)
    cases hloud : loudA P o.op with
    | true =>
      have hiF : i ∈ louds P ops.toList 0 := (loudMem i hin).2 ⟨o, ho, hloud⟩
      have hpi : p = i := by
        have h1 : p ≤ i := by
          rcases Nat.lt_or_ge i p with h | h
          · have := hpl i hiF h; rw [hil'] at this; cases this
          · exact h
        rcases Nat.lt_or_ge p i with h | h
        · exfalso
          obtain ⟨y, hy, hly⟩ := (loudMem p (by omega)).1 hp
          rcases S.pair p i y o h hy ho with hb | ⟨hh, _⟩
          · have := (hbit p hb).1
            rw [hpf (by omega)] at this; cases this
          · rw [hly, hloud] at hh; simp at hh
        · omega
      subst hpi
      obtain ⟨p', hp', hlt', hmin⟩ := least_above (louds P ops.toList 0) p ops.size ⟨ops.size, endMem, hin, Nat.le_refl _⟩
      have hp'n : p' ≤ ops.size := hmin ops.size endMem hin
      have hpl' : ∀ q ∈ louds P ops.toList 0, q < p' → listed'.getD q false = true := by
        intro q hq hqp
        rw [hget]
        by_cases hqi : q = p
        · rw [if_pos hqi]
        · rw [if_neg hqi]
          refine hpl q hq ?_
          rcases Nat.lt_or_ge p q with h1 | h1
          · have := hmin q hq h1; omega
          · omega
      have hpf' : p' < ops.size → listed'.getD p' false = false := by
        intro hlt
        rw [hget, if_neg (by omega)]
        obtain ⟨y, hy, hly⟩ := (loudMem p' hlt).1 hp'
        cases hl : listed.getD p' false with
        | false => rfl
        | true =>
          rcases S.pair p p' o y hlt' ho hy with hb | ⟨hh, _⟩
          · have := (closed_bit S hc p' y hy (hc p' y hy hl) p hb).1
            rw [hil'] at this; cases this
          · rw [hly, hloud] at hh; simp at hh
      have hheap : (X p').heap = (X (p + 1)).heap := by
        refine quiet_between T.step p' (by omega) hp'n (fun q hq hh => ?_)
        have := hmin q hq (by omega)
        omega
      unfold wpOpIn
      rw [ho]
      simp only
      rcases T.step p o ho with ⟨_, h2, h3, _⟩ | ⟨_, h2, h3, h4, _⟩
      · rw [hwant true h2]
        simp only [if_true]
        rw [← hcongr] at h3
        refine opA_wp hF hcall hR hρ h3 ?_
        intro φ' w' v' hu hR' hv
        exact next φ' w' v' p' hu hv hp' hpl' hpf' (by rw [hheap]; exact hR')
      · rw [hwant false h2]
        simp only [Bool.false_eq_true, if_false]
        refine ⟨fun _ _ => trivial, next φ w undef p' (Up.refl _) (by rw [h3]; exact undef_V φ) hp' hpl' hpf' ?_⟩
        rw [hheap, h4]
        exact hR
    | false =>
      have hpi : p ≠ i := by
        intro hpi
        subst hpi
        obtain ⟨y, hy, hly⟩ := (loudMem p hin).1 hp
        rw [ho] at hy; cases hy
        rw [hloud] at hly; cases hly
      have hpl' : ∀ q ∈ louds P ops.toList 0, q < p → listed'.getD q false = true := by
        intro q hq hqp
        rw [hget, hpl q hq hqp]; simp
      have hpf' : p < ops.size → listed'.getD p false = false := by
        intro hlt
        rw [hget, if_neg hpi]; exact hpf hlt
      unfold wpOpIn
      rw [ho]
      simp only
      rcases T.step i o ho with ⟨h1, h2, h3, _⟩ | ⟨_, h2, h3, h4, _⟩
      · rw [hwant true h2]
        simp only [if_true]
        obtain ⟨v, hv, ha⟩ := quiet_same hloud h3
        simp only [CRes.ret.injEq] at hv
        obtain ⟨hv1, _⟩ := hv
        rw [← hv1] at ha
        have haop : aop P (X i).env (X p).heap o.op = some ((X i).val, (X p).heap) := by
          cases hrd : readsA P o.op with
          | false => exact quiet_free hloud hrd ha _
          | true =>
            refine T.same i o ho h1 hrd hloud p hp ?_
            rw [mayAt_iff]
            refine ⟨?_, fun q hq hqp => ?_⟩
            · cases hb : Nat.testBit ((masks ops.toList []).getD i 0) p with
              | false => rfl
              | true =>
                obtain ⟨h5, h6⟩ := hbit p hb
                rw [hpf (by omega)] at h5; cases h5
            · cases hb : Nat.testBit ((masks ops.toList []).getD q 0) i with
              | false => rfl
              | true =>
                have hpn : p ≤ ops.size := by
                  rw [mem_louds] at hp
                  rcases hp with hp | ⟨o', _, ho', _⟩
                  · simp at hp; omega
                  · have := (List.getElem?_eq_some_iff.1 ho').1
                    simp at this; omega
                have hyq : ops[q]? = some ops[q] := Array.getElem?_eq_getElem (by omega)
                have := (closed_bit S hc q _ hyq (hc q _ hyq (hpl q hq hqp)) i hb).1
                rw [hil'] at this; cases this
        have hop : opA call P env (X p).heap o.op = some (.ret (X i).val (X p).heap) := by
          rw [hcongr]
          have : toRet (aop P (X i).env (X p).heap o.op) = some (.ret (X i).val (X p).heap) := by rw [haop]; rfl
          cases hop : o.op with
          | call c =>
            rw [hop] at this hloud
            obtain ⟨callee, args, ats⟩ := c
            cases callee with
            | value f => simp [loudA] at hloud
            | invoke r n => simp [loudA] at hloud
            | builtin b =>
              simp only [opA]
              have hb : b ≠ .panic := by rintro rfl; simp [loudA] at hloud
              unfold biA
              split
              · exact absurd rfl hb
              · exact this
          | panic x => rw [hop] at hloud; simp [loudA] at hloud
          | _ => rw [hop] at this; exact this
        refine opA_wp hF hcall hR hρ hop ?_
        intro φ' w' v' hu hR' hv
        exact next φ' w' v' p hu hv hp hpl' hpf' hR'
      · rw [hwant false h2]
        simp only [Bool.false_eq_true, if_false]
        exact ⟨fun _ _ => trivial, next φ w undef p (Up.refl _) (by rw [h3]; exact undef_V φ) hp hpl' hpf' hR⟩

theorem drawA_ok {P : Program} (hF : Fns P) (hm : P.follows .mixedOrders = true) : DrawOk P (drawA P) := by
  intro ρ call hcall id ops w0 Q φ e h w a r hR he hr hf
  unfold drawA at hr
  cases hst : drawStatic P ops (masks ops.toList []) with
  | false => simp [hst] at hr
  | true =>
    simp only [hst, cond_true] at hr
    split at hr
    · rename_i e' h' hops
      cases hd : needNot P (masks ops.toList []) (louds P ops.toList 0) ops.toList 0 || dynOk call P ops e h with
      | false => simp [hd] at hr
      | true =>
        simp only [hd, cond_true, Option.some.injEq] at hr
        subst hr
        have S := static_of hst
        obtain ⟨X, T⟩ := textRun_of hops hd
        refine wpIn_region_any hm ?_
        have endMem : ops.size ∈ louds P ops.toList 0 := by rw [mem_louds]; exact .inl (by simp)
        have hfalse : ∀ i, (Array.replicate ops.size false).getD i false = false := by
          intro i
          simp [Array.getD_eq_getD_getElem?, Array.getElem?_replicate]
          split <;> rfl
        -- the first loud one
        obtain ⟨p, hp, hmin⟩ : ∃ p ∈ louds P ops.toList 0, ∀ q ∈ louds P ops.toList 0, p ≤ q := by
          by_cases h0 : 0 ∈ louds P ops.toList 0
          · exact ⟨0, h0, fun q _ => Nat.zero_le _⟩
          · have hpos : 0 < ops.size := by
              rcases Nat.eq_zero_or_pos ops.size with h1 | h1
              · rw [h1] at endMem; exact absurd endMem h0
              · exact h1
            obtain ⟨p, hp, _, hmin⟩ := least_above (louds P ops.toList 0) 0 ops.size ⟨ops.size, endMem, hpos, Nat.le_refl _⟩
            refine ⟨p, hp, fun q hq => hmin q hq ?_⟩
            rcases Nat.eq_zero_or_pos q with h1 | h1
            · rw [h1] at hq; exact absurd hq h0
            · exact h1
        have hpn := hmin ops.size endMem
        have hheap : (X p).heap = h := by
          rw [quiet_between T.step p (Nat.zero_le _) hpn (fun q hq hh => by have := hmin q hq; omega), T.first.2]
        refine draw_wp hF hcall S T ops.size _ φ a _ p (by simp) ?_ ?_ hp ?_ (fun _ => hfalse p) ?_ ?_ ?_ ?_ rfl hf
        · intro i o ho hl; rw [hfalse] at hl; cases hl
        · unfold todo
          refine Nat.le_trans (List.countP_le_length) (by simp)
        · intro q hq hqp; have := hmin q hq; omega
        · rw [hheap]; exact hR.drew rfl rfl rfl rfl
        · intro j y t hy hl; rw [hfalse] at hl; cases hl
        · intro t _
          have := nth_V he t
          simpa [Array.getD_eq_getD_getElem?, List.getD_eq_getElem?_getD] using this
        · rw [← Array.length_toList, he.length]
    · cases hr
end Go.Am

noncomputable section
namespace Go.Am
open Go.RowKit

/-! ### Lists, so that the kernel reckons them fast -/

def dropF {α : Type} (n : Nat) : List α → List α := Nat.rec (motive := fun _ => List α → List α) (fun l => l) (fun _ ih l => List.rec [] (fun _ t _ => ih t) l) n
def takeF {α : Type} (n : Nat) : List α → List α := Nat.rec (motive := fun _ => List α → List α) (fun _ => []) (fun _ ih l => List.rec [] (fun a t _ => a :: ih t) l) n
def appF {α : Type} (l m : List α) : List α := List.rec m (fun a _ ih => a :: ih) l
def mapF {α β : Type} (f : α → β) (l : List α) : List β := List.rec [] (fun a _ ih => f a :: ih) l
def forceN {α : Type} (n : Nat) (k : Nat → α) : α := Nat.rec (k 0) (fun m _ => k (Nat.succ m)) n
def lenAcc {α : Type} (l : List α) : Nat → Nat := List.rec (motive := fun _ => Nat → Nat) (fun n => n) (fun _ _ ih n => forceN n (fun n => ih (Nat.succ n))) l
def lenF {α : Type} (l : List α) : Nat := lenAcc l 0
/-- Are there n at least? -/
def hasF {α : Type} (n : Nat) : List α → Bool := Nat.rec (motive := fun _ => List α → Bool) (fun _ => true) (fun _ ih l => List.rec false (fun _ t _ => ih t) l) n
def nthF {α : Type} (n : Nat) : List α → Option α := Nat.rec (motive := fun _ => List α → Option α) (fun l => List.rec none (fun a _ _ => some a) l) (fun _ ih l => List.rec none (fun _ t _ => ih t) l) n
def overF {α : Type} (vs : List α) (o : Nat) : List α → List α := Nat.rec (motive := fun _ => List α → List α) (fun l => appF vs (dropF (lenF vs) l)) (fun _ ih l => List.rec [] (fun a t _ => a :: ih t) l) o
def eqS (a : List UInt8) : List UInt8 → Bool := List.rec (motive := fun _ => List UInt8 → Bool) (fun b => List.rec true (fun _ _ _ => false) b) (fun x _ ih b => List.rec false (fun y t _ => Bool.rec false (ih t) (Nat.beq x.toNat y.toNat)) b) a

/-! ### What a value is -/

structure IK where
  k : IntKind
  n : Int
structure SL where
  l : Option Loc
  n : Nat
  c : Cap
inductive FV where
  | no
  | fn (f : FuncId) (first cap : List AV)
  | yield (k : Nat)
structure IFV where
  t : TypeId
  v : AV
def fnOf (f : Fn) : Option FuncId := match f with | .func g => some g | _ => none
def asPtr (v : AV) : Option Loc := AV.rec (motive_1 := fun _ => Option Loc) (motive_2 := fun _ => Unit) none (fun _ => none) (fun _ _ => none) (fun _ => none) (fun l => l) (fun _ _ _ => none) (fun _ => none) (fun _ => none) (fun _ _ _ _ _ => none) none (fun _ _ _ => none) none (fun _ _ => none) (fun _ _ => none) (fun _ => none) () (fun _ _ _ _ => ()) v
def asI (v : AV) : Option IK := AV.rec (motive_1 := fun _ => Option IK) (motive_2 := fun _ => Unit) none (fun _ => none) (fun k n => some ⟨k, n⟩) (fun _ => none) (fun _ => none) (fun _ _ _ => none) (fun _ => none) (fun _ => none) (fun _ _ _ _ _ => none) none (fun _ _ _ => none) none (fun _ _ => none) (fun _ _ => none) (fun _ => none) () (fun _ _ _ _ => ()) v
def asB (v : AV) : Option Bool := AV.rec (motive_1 := fun _ => Option Bool) (motive_2 := fun _ => Unit) none (fun b => some b) (fun _ _ => none) (fun _ => none) (fun _ => none) (fun _ _ _ => none) (fun _ => none) (fun _ => none) (fun _ _ _ _ _ => none) none (fun _ _ _ => none) none (fun _ _ => none) (fun _ _ => none) (fun _ => none) () (fun _ _ _ _ => ()) v
def asSl (v : AV) : Option SL := AV.rec (motive_1 := fun _ => Option SL) (motive_2 := fun _ => Unit) none (fun _ => none) (fun _ _ => none) (fun _ => none) (fun _ => none) (fun l n c => some ⟨l, n, c⟩) (fun _ => none) (fun _ => none) (fun _ _ _ _ _ => none) none (fun _ _ _ => none) none (fun _ _ => none) (fun _ _ => none) (fun _ => none) () (fun _ _ _ _ => ()) v
def asStr (v : AV) : Option (List UInt8) := AV.rec (motive_1 := fun _ => Option (List UInt8)) (motive_2 := fun _ => Unit) none (fun _ => none) (fun _ _ => none) (fun s => some s) (fun _ => none) (fun _ _ _ => none) (fun _ => none) (fun _ => none) (fun _ _ _ _ _ => none) none (fun _ _ _ => none) none (fun _ _ => none) (fun _ _ => none) (fun _ => none) () (fun _ _ _ _ => ()) v
def asTup (v : AV) : Option (List AV) := AV.rec (motive_1 := fun _ => Option (List AV)) (motive_2 := fun _ => Unit) none (fun _ => none) (fun _ _ => none) (fun _ => none) (fun _ => none) (fun _ _ _ => none) (fun _ => none) (fun _ => none) (fun _ _ _ _ _ => none) none (fun _ _ _ => none) none (fun _ _ => none) (fun s _ => some s) (fun _ => none) () (fun _ _ _ _ => ()) v
def isTup (v : AV) : Option Bool := AV.rec (motive_1 := fun _ => Option Bool) (motive_2 := fun _ => Unit) none (fun _ => none) (fun _ _ => none) (fun _ => none) (fun _ => none) (fun _ _ _ => none) (fun _ => none) (fun _ => none) (fun _ _ _ _ _ => none) none (fun _ _ _ => none) none (fun _ _ => none) (fun _ _ => some false) (fun _ => none) () (fun _ _ _ _ => ()) v
def asFn (v : AV) : FV := AV.rec (motive_1 := fun _ => FV) (motive_2 := fun _ => Unit) .no (fun _ => .no) (fun _ _ => .no) (fun _ => .no) (fun _ => .no) (fun _ _ _ => .no) (fun _ => .no) (fun _ => .no) (fun f a b _ _ => Option.rec .no (fun g => .fn g a b) (fnOf f)) .no (fun _ _ _ => .no) .no (fun _ _ => .no) (fun _ _ => .no) (fun k => .yield k) () (fun _ _ _ _ => ()) v
def asIface (v : AV) : Option IFV := AV.rec (motive_1 := fun _ => Option IFV) (motive_2 := fun _ => Unit) none (fun _ => none) (fun _ _ => none) (fun _ => none) (fun _ => none) (fun _ _ _ => none) (fun _ => none) (fun _ => none) (fun _ _ _ _ _ => none) none (fun t x _ => some ⟨t, x⟩) none (fun _ _ => none) (fun _ _ => none) (fun _ => none) () (fun _ _ _ _ => ()) v
/-- The cells of a value. -/
def cellsM (v : AV) : Option (List AV) := AV.rec (motive_1 := fun _ => Option (List AV)) (motive_2 := fun _ => Unit) none (fun b => some [.bool b]) (fun k n => some [.int k n]) (fun s => some [.str s]) (fun l => some [.ptr l]) (fun l n c => some [.slice l n c]) (fun m => some [.map m]) (fun c => some [.chan c]) (fun f a b _ _ => some [.func f a b]) (some [.nilFunc]) (fun t x _ => some [.iface t x]) (some [.nilIface]) (fun cs _ => some cs) (fun _ _ => none) (fun k => some [.yield k]) () (fun _ _ _ _ => ()) v
def cellOkM (v : AV) : Bool := AV.rec (motive_1 := fun _ => Bool) (motive_2 := fun _ => Unit) false (fun _ => true) (fun _ _ => true) (fun _ => true) (fun _ => true) (fun _ _ _ => true) (fun _ => true) (fun _ => true) (fun _ _ _ _ _ => true) true (fun _ _ _ => true) true (fun _ _ => false) (fun _ _ => false) (fun _ => true) () (fun _ _ _ _ => ()) v
def cellsOkM (l : List AV) : Bool := List.rec true (fun a _ ih => Bool.rec false ih (cellOkM a)) l

/-! ### Operands -/

def constA (v : Value) : AV := Option.rec .unk (fun a => a) (ofValue v)
def globA (P : Program) (g : Nat) : AV := Bool.rec .unk (.ptr (some ⟨g, 0⟩)) (Nat.blt g P.globals.size)
def valS (v : AV) : Src := .mk fun _ => v
def tmpS (n t : Nat) : Src := Bool.rec (valS .unk) (srcTab (dig (Nat.div t 16)) (dig (Nat.mod t 16))) (Nat.blt t n)
def srcOf (P : Program) (n : Nat) (x : Operand) : Src := Operand.rec (fun t => tmpS n t) (fun v => valS (constA v)) (fun g => valS (globA P g)) (fun f => valS (.func (.func f) [] [])) x
def noD : Dst := .mk fun _ e => e
def tmpD (n t : Nat) : Dst := Bool.rec noD (dstTab (dig (Nat.div t 16)) (dig (Nat.mod t 16))) (Nat.blt t n)
def dstOf (n : Nat) (d : Option Tmp) : Dst := Option.rec noD (fun t => tmpD n t) d
abbrev G := Env → AV

/-! ### Operations -/

inductive R1 where
  | no
  | ok (v : AV) (h : Heap)
def okv (h : Heap) (x : Option AV) : R1 := Option.rec .no (fun v => .ok v h) x
def okp (x : Option (AV × Heap)) : R1 := Option.rec .no (fun p => Prod.rec (fun v h => .ok v h) p) x
abbrev OpK := Env → Heap → R1
inductive CI where
  | op (f : OpK)
def noOp : OpK := fun _ _ => .no
def s1 (a : Src) (k : G → OpK) : CI := Src.rec (fun g => .op (k g)) a
def s2 (a b : Src) (k : G → G → OpK) : CI := Src.rec (fun g => Src.rec (fun g' => .op (k g g')) b) a
def s3 (a b c : Src) (k : G → G → G → OpK) : CI := Src.rec (fun g => Src.rec (fun g' => Src.rec (fun g'' => .op (k g g' g'')) c) b) a

def objCells (o : Obj) : Option (List AV) := Obj.rec (motive := fun _ => Option (List AV)) (fun cs _ => some cs) (fun _ _ => none) (fun _ _ => none) (fun _ _ _ => none) (fun _ _ _ _ _ => none) (fun _ _ => none) (fun _ _ _ _ _ _ _ _ => none) none o
inductive OW where
  | no
  | mk (cs : List AV) (k : Kind)
def objOwn (o : Obj) : OW := Obj.rec (motive := fun _ => OW) (fun cs k => Kind.rec (fun t => .mk cs (.own t)) (fun t => .mk cs (.var t)) (.mk cs .str) .no k) (fun _ _ => .no) (fun _ _ => .no) (fun _ _ _ => .no) (fun _ _ _ _ _ => .no) (fun _ _ => .no) (fun _ _ _ _ _ _ _ _ => .no) .no o
def cellsAt (h : Heap) (l : Loc) : Option (List AV) := Option.rec none objCells (h.get l.id)
def ownAt (h : Heap) (l : Loc) : OW := Option.rec .no objOwn (h.get l.id)
def moveM (g : G) : OpK := fun e h => .ok (g e) h
def pickM (c a b : G) : OpK := fun e h => Option.rec .no (fun t => .ok (Bool.rec (b e) (a e) t) h) (asB (c e))
def load1 (h : Heap) (l : Loc) : R1 := Option.rec .no (fun cs => okv h (nthF l.off cs)) (cellsAt h l)
def loadN (n : Nat) (h : Heap) (l : Loc) : R1 := Option.rec .no (fun cs => Bool.rec .no (.ok (.agg (takeF n (dropF l.off cs))) h) (hasF (Nat.add l.off n) cs)) (cellsAt h l)
def load1M (g : G) : OpK := fun e h => Option.rec .no (fun l => load1 h l) (asPtr (g e))
def loadNM (n : Nat) (g : G) : OpK := fun e h => Option.rec .no (fun l => loadN n h l) (asPtr (g e))
def loadC (agg : Option Bool) (n : Option Nat) (s : Src) : CI := Option.rec (.op noOp) (fun b => Bool.rec (s1 s load1M) (Option.rec (.op noOp) (fun n => s1 s (loadNM n)) n) b) agg
def write1 (h : Heap) (l : Loc) (vs : List AV) : Option Heap := OW.rec none (fun cs k => Bool.rec none (some (h.set l.id (.cells (overF vs l.off cs) k))) (hasF (Nat.add l.off (lenF vs)) cs)) (ownAt h l)
def writeM (h : Heap) (l : Loc) (vs : List AV) : Option Heap := Bool.rec none (write1 h l vs) (cellsOkM vs)
def okh (x : Option Heap) : R1 := Option.rec .no (fun h => .ok (.tuple []) h) x
def storeM (n : Nat) (a x : G) : OpK := fun e h => Option.rec .no (fun l => Option.rec .no (fun cs => Bool.rec .no (okh (writeM h l cs)) (Nat.beq (lenF cs) n)) (cellsM (x e))) (asPtr (a e))
def newM (t : TypeId) (h : Heap) (cs : List AV) : R1 := .ok (.ptr (some ⟨h.next, 0⟩)) (h.alloc (.cells cs (.var t)))
def boxM (t : TypeId) (g : G) : OpK := fun e h => Option.rec .no (fun cs => newM t h cs) (cellsM (g e))
def allocM (t : TypeId) (cs : List AV) : OpK := fun _ h => newM t h cs
def allocC (t : TypeId) (z : Option AV) : CI := Option.rec (.op noOp) (fun z => Option.rec (.op noOp) (fun cs => .op (allocM t cs)) (cellsM z)) z
def nilCheckM (g : G) : OpK := fun e h => okv h (nilCheckA (g e))
/-- Where a field lies. -/
def fieldOff (P : Program) (s : TypeId) (f : Nat) : Option Nat :=
  match P.underlying s with
  | some (.struct fields) => (match fields[f]? with | some fl => (match sizeA P fl.type with | some (_ + 1) => some fl.offset | _ => none) | none => none)
  | _ => none
def fieldAddrM (off : Nat) (g : G) : OpK := fun e h => Option.rec .no (fun l => .ok (.ptr (some ⟨l.id, Nat.add l.off off⟩)) h) (asPtr (g e))
/-- An index's place: an array's (its length), a slice's; how much an element takes. -/
inductive IxK where
  | no
  | arr (len size : Nat)
  | sl (size : Nat)
def ixK (P : Program) (t : TypeId) : IxK :=
  match P.underlying t with
  | some (.array len e) => (match sizeA P e with | some s => .arr len s | none => .no)
  | some (.slice e) => (match sizeA P e with | some s => .sl s | none => .no)
  | _ => .no
def ixAt (h : Heap) (l : Loc) (len size : Nat) (i : IK) : R1 := Int.rec (fun j => Bool.rec .no (.ok (.ptr (some ⟨l.id, Nat.add l.off (Nat.mul j size)⟩)) h) (Nat.blt j len)) (fun _ => .no) i.n
def ixArrM (len size : Nat) (x i : G) : OpK := fun e h => Option.rec .no (fun i => Option.rec .no (fun l => ixAt h l len size i) (asPtr (x e))) (asI (i e))
def ixSlM (size : Nat) (x i : G) : OpK := fun e h => Option.rec .no (fun i => Option.rec .no (fun s => Option.rec .no (fun l => ixAt h l s.n size i) s.l) (asSl (x e))) (asI (i e))
def indexAddrC (k : IxK) (x i : Src) : CI := IxK.rec (.op noOp) (fun len size => s2 x i (ixArrM len size)) (fun size => s2 x i (ixSlM size)) k
def extractM (i : Nat) (g : G) : OpK := fun e h => Option.rec .no (fun vs => okv h (nthF i vs)) (asTup (g e))
def topN (k : IntKind) : Nat := IntKind.rec 127 32767 2147483647 9223372036854775807 255 65535 4294967295 18446744073709551615 k
def wrapM (k : IntKind) (n : Int) : Int := Int.rec (fun m => Bool.rec (k.wrap n) (Int.ofNat m) (Nat.ble m (topN k))) (fun _ => k.wrap n) n
def addI (a b : Int) : Int := Int.rec (fun x => Int.rec (fun y => Int.ofNat (Nat.add x y)) (fun _ => Int.add a b) b) (fun _ => Int.add a b) a
def subI (a b : Int) : Int := Int.rec (fun m => Int.rec (fun n => Bool.rec (Int.sub a b) (Int.ofNat (Nat.sub m n)) (Nat.ble n m)) (fun _ => Int.sub a b) b) (fun _ => Int.sub a b) a
def ltI (a b : Int) : Bool := Int.rec (fun a => Int.rec (fun b => Nat.blt a b) (fun _ => false) b) (fun a => Int.rec (fun _ => true) (fun b => Nat.blt b a) b) a
def eqI (a b : Int) : Bool := Int.rec (fun a => Int.rec (fun b => Nat.beq a b) (fun _ => false) b) (fun a => Int.rec (fun _ => false) (fun b => Nat.beq a b) b) a
def kNo (k : IntKind) : Nat := IntKind.rec 0 1 2 3 4 5 6 7 k
def sameK (a b : IntKind) : Bool := Nat.beq (kNo a) (kNo b)
abbrev BI := IK → IK → Option AV
def biAdd : BI := fun a b => some (.int a.k (wrapM a.k (addI a.n b.n)))
def biSub : BI := fun a b => some (.int a.k (wrapM a.k (subI a.n b.n)))
def biEql : BI := fun a b => some (.bool (eqI a.n b.n))
def biNeq : BI := fun a b => some (.bool (not (eqI a.n b.n)))
def biLss : BI := fun a b => some (.bool (ltI a.n b.n))
def biLeq : BI := fun a b => some (.bool (not (ltI b.n a.n)))
def biGtr : BI := fun a b => some (.bool (ltI b.n a.n))
def biGeq : BI := fun a b => some (.bool (not (ltI a.n b.n)))
def biRaw (op : BinOp) : BI := fun a b => intA op a.k a.n b.n
def biSh (op : BinOp) : BI := fun a b => shiftA op a.k a.n b.n
/-- Both of one kind. -/
def biSame (f : BI) : BI := fun a b => Bool.rec none (f a b) (sameK a.k b.k)
def biOf (op : BinOp) : BI := BinOp.rec (biSame biAdd) (biSame biSub) (biSame (biRaw .mul)) (biSame (biRaw .quo)) (biSame (biRaw .rem)) (biSame (biRaw .and)) (biSame (biRaw .or)) (biSame (biRaw .xor)) (biSh .shl) (biSh .shr) (biSame (biRaw .andNot)) (biSame biEql) (biSame biNeq) (biSame biLss) (biSame biLeq) (biSame biGtr) (biSame biGeq) op
abbrev BS := List UInt8 → List UInt8 → Option AV
def bsEql : BS := fun a b => some (.bool (eqS a b))
def bsNeq : BS := fun a b => some (.bool (not (eqS a b)))
def bsOf (op : BinOp) : BS := BinOp.rec (strA .add) (strA .sub) (strA .mul) (strA .quo) (strA .rem) (strA .and) (strA .or) (strA .xor) (strA .shl) (strA .shr) (strA .andNot) bsEql bsNeq (strA .lss) (strA .leq) (strA .gtr) (strA .geq) op
def binM (slow : AV → AV → Heap → R1) (bi : BI) (bs : BS) (x y : G) : OpK := fun e h =>
  Option.rec (Option.rec (slow (x e) (y e) h) (fun a => Option.rec .no (fun b => okv h (bs a b)) (asStr (y e))) (asStr (x e)))
    (fun a => Option.rec .no (fun b => okv h (bi a b)) (asI (y e))) (asI (x e))
def slowBin (P : Program) (op : BinOp) (t : TypeId) (xo yo : Operand) (x y : AV) (h : Heap) : R1 := okv h (binA P h op t xo yo x y)
inductive LenK where
  | str | sl | arr (n : Nat) | raw
def lenK (P : Program) (t : TypeId) : LenK :=
  match P.underlying t with
  | some .string => .str
  | some (.slice _) => .sl
  | some (.array n _) => .arr n
  | _ => .raw
def okI (h : Heap) (n : Nat) : R1 := .ok (.int .i64 (Int.ofNat n)) h
def lenStrM (x : G) : OpK := fun e h => Option.rec .no (fun s => okI h (lenF s)) (asStr (x e))
def lenSlM (x : G) : OpK := fun e h => Option.rec .no (fun s => okI h s.n) (asSl (x e))
def lenArrM (n : Nat) : OpK := fun _ h => okI h n
def lenRawM (P : Program) (t : TypeId) (x : G) : OpK := fun e h => okv h (lenA P h t (x e))
def lenC (P : Program) (t : TypeId) (k : LenK) (x : Src) : CI := LenK.rec (s1 x lenStrM) (s1 x lenSlM) (fun n => .op (lenArrM n)) (s1 x (lenRawM P t)) k
def notM (x : G) : OpK := fun e h => Option.rec .no (fun b => .ok (.bool (not b)) h) (asB (x e))
def byteM (b : UInt8) : AV := .int .u8 (Int.ofNat b.toNat)
def indexStrM (x i : G) : OpK := fun e h => Option.rec .no (fun i => Option.rec .no (fun s => Int.rec (fun j => Option.rec .no (fun b => .ok (byteM b) h) (nthF j s)) (fun _ => .no) i.n) (asStr (x e))) (asI (i e))
def indexRawM (P : Program) (t : TypeId) (x i : G) : OpK := fun e h => okv h (indexA P t (x e) (i e))
def srcsOf (P : Program) (n : Nat) (l : List Operand) : List Src := mapF (srcOf P n) l
def evM (e : Env) (l : List Src) : List AV := mapF (fun s => Src.ev s e) l
def makeFuncM (f : Fn) (a b : List Src) : OpK := fun e h => .ok (.func f (evM e a) (evM e b)) h
def isStr (P : Program) (t : TypeId) : Bool := match P.underlying t with | some .string => true | _ => false
/-- The slow way. -/
def rawM (P : Program) (n : Nat) (op : Op) : OpK := fun e h => okp (aopE P (fun x => (srcOf P n x).ev e) h op)
def raw0 (P : Program) (n : Nat) (op : Op) : CI := .op (rawM P n op)
def biC (P : Program) (n : Nat) (c : Call) (b : Builtin) : CI :=
  match b, c.args.toList, c.argTypes.toList with
  | .len, [x], [t] => lenC P t (lenK P t) (srcOf P n x)
  | _, _, _ => raw0 P n (.call c)
def compOp (P : Program) (n : Nat) (op : Op) : CI :=
  match op with
  | .move x | .assign x => s1 (srcOf P n x) moveM
  | .pick c a b => s3 (srcOf P n c) (srcOf P n a) (srcOf P n b) pickM
  | .alloc t => allocC t (zeroA P t)
  | .box t x => s1 (srcOf P n x) (boxM t)
  | .load t a => loadC (aggA P t) (sizeA P t) (srcOf P n a)
  | .store t a x => Option.rec (.op noOp) (fun k => s2 (srcOf P n a) (srcOf P n x) (storeM k)) (sizeA P t)
  | .nilCheck x => s1 (srcOf P n x) nilCheckM
  | .binOp op t x y _ => s2 (srcOf P n x) (srcOf P n y) (binM (slowBin P op t x y) (biOf op) (bsOf op))
  | .unOp .not _ x => s1 (srcOf P n x) notM
  | .fieldAddr s x f => Option.rec (.op noOp) (fun off => s1 (srcOf P n x) (fieldAddrM off)) (fieldOff P s f)
  | .indexAddr t x i => indexAddrC (ixK P t) (srcOf P n x) (srcOf P n i)
  | .index t x i => Bool.rec (s2 (srcOf P n x) (srcOf P n i) (indexRawM P t)) (s2 (srcOf P n x) (srcOf P n i) indexStrM) (isStr P t)
  | .extract x i => s1 (srcOf P n x) (extractM i)
  | .makeFunc f a b => .op (makeFuncM f (srcsOf P n a.toList) (srcsOf P n b.toList))
  | .call c => (match c.callee with | .builtin b => biC P n c b | _ => raw0 P n op)
  | op => raw0 P n op
end Go.Am

noncomputable section
namespace Go.Am
open Go.RowKit

/-- Which new number stands for which; those pairs that are still to be looked at. -/
structure Sg where
  al : List (Nat × Nat)
  todo : List (Nat × Nat)
def lookL (l : List (Nat × Nat)) (a : Nat) : Option Nat := List.rec none (fun p _ ih => Bool.rec ih (some p.2) (Nat.beq p.1 a)) l
def hasR (l : List (Nat × Nat)) (b : Nat) : Bool := List.rec false (fun p _ ih => Bool.rec ih true (Nat.beq p.2 b)) l
def mId (n0 : Nat) (s : Sg) (a b : Nat) : Option Sg :=
  bif Nat.blt a n0 then (bif Nat.beq a b then some s else none)
  else bif Nat.blt b n0 then none else
    match lookL s.al a with
    | some c => bif Nat.beq c b then some s else none
    | none => bif hasR s.al b then none else some ⟨(a, b) :: s.al, (a, b) :: s.todo⟩
def mOId (n0 : Nat) (s : Sg) (a b : Option Nat) : Option Sg :=
  match a, b with
  | none, none => some s
  | some a, some b => mId n0 s a b
  | _, _ => none
mutual
def mV (n0 : Nat) : AV → AV → Sg → Option Sg
  | .unk, .unk, s => some s
  | .bool a, .bool b, s => bif a == b then some s else none
  | .int k a, .int k' b, s => bif decide (k = k') && decide (a = b) then some s else none
  | .str a, .str b, s => bif decide (a = b) then some s else none
  | .ptr none, .ptr none, s => some s
  | .ptr (some a), .ptr (some b), s => bif Nat.beq a.off b.off then mId n0 s a.id b.id else none
  | .slice none n c, .slice none m d, s => bif Nat.beq n m && beqCap c d then some s else none
  | .slice (some a) n c, .slice (some b) m d, s => bif Nat.beq a.off b.off && Nat.beq n m && beqCap c d then mId n0 s a.id b.id else none
  | .map a, .map b, s => mOId n0 s a b
  | .chan a, .chan b, s => mOId n0 s a b
  | .func f a b, .func g c d, s => bif decide (f = g) then (match mVs n0 a c s with | some s => mVs n0 b d s | none => none) else none
  | .nilFunc, .nilFunc, s => some s
  | .iface t a, .iface u b, s => bif Nat.beq t u then mV n0 a b s else none
  | .nilIface, .nilIface, s => some s
  | .agg a, .agg b, s => mVs n0 a b s
  | .tuple a, .tuple b, s => mVs n0 a b s
  | .yield a, .yield b, s => mId n0 s a b
  | _, _, _ => none
def mVs (n0 : Nat) : List AV → List AV → Sg → Option Sg
  | [], [], s => some s
  | a :: as, b :: bs, s => (match mV n0 a b s with | some s => mVs n0 as bs s | none => none)
  | _, _, _ => none
end
def mEs (n0 : Nat) : List EN → List EN → Sg → Option Sg
  | [], [], s => some s
  | (k, v, b) :: es, (k', v', b') :: es', s => bif Nat.beq b b' then (match mV n0 k k' s with | some s => (match mV n0 v v' s with | some s => mEs n0 es es' s | none => none) | none => none) else none
  | _, _, _ => none
def mBs (n0 : Nat) : List (AV × AV) → List (AV × AV) → Sg → Option Sg
  | [], [], s => some s
  | (k, v) :: es, (k', v') :: es', s => (match mV n0 k k' s with | some s => (match mV n0 v v' s with | some s => mBs n0 es es' s | none => none) | none => none)
  | _, _, _ => none
def mO (n0 : Nat) (a b : Option Obj) (s : Sg) : Option Sg :=
  match a, b with
  | none, none => some s
  | some (.cells cs k), some (.cells ds k') => bif decide (k = k') then mVs n0 cs ds s else none
  | some (.map es c), some (.map es' c') => bif Nat.beq c c' then mEs n0 es es' s else none
  | some (.bag es c), some (.bag es' c') => bif Nat.beq c c' then mBs n0 es es' s else none
  | some (.chan c b x), some (.chan c' b' x') => bif Nat.beq c c' && (x == x') then mVs n0 b b' s else none
  | some (.iter m a b k c), some (.iter m' a' b' k' c') => bif Nat.beq a a' && decide (b = b') && Nat.beq c c' && (k.isNone || decide (k = k')) then mOId n0 s m m' else none
  | some (.siter a b), some (.siter a' b') => bif decide (a = a') && Nat.beq b b' then some s else none
  | some .defs, some .defs => some s
  | _, _ => none
/-- Every pair's contents. -/
def mGo (n0 : Nat) (h1 h2 : Heap) : Nat → Sg → Option Sg
  | 0, _ => none
  | f + 1, s =>
    match s.todo with
    | [] => some s
    | (a, b) :: t => (match mO n0 (h1.get a) (h2.get b) ⟨s.al, t⟩ with | some s => mGo n0 h1 h2 f s | none => none)
/-- The state and the way out of a range over a function. -/
def sameLS : LoopState → Option Code → LoopState → Option Code → Bool
  | .ready, none, .ready, none => true
  | .busy, none, .busy, none => true
  | .done, none, .done, none => true
  | .done, some .ret, .done, some .ret => true
  | .done, some (.exit i), .done, some (.exit j) => Nat.beq i j
  | _, _, _, _ => false
/-- Old things: of the record of a range over a function the most cannot change. -/
def mOO (n0 : Nat) (a b : Option Obj) (s : Sg) : Option Sg :=
  match a, b with
  | some (.loop st p _ _ _ _ _ _), some (.loop st' p' _ _ _ _ _ _) => bif sameLS st p st' p' then some s else none
  | a, b => mO n0 a b s
def mOld (n0 : Nat) (h1 h2 : Heap) : List Nat → Sg → Option Sg
  | [], s => some s
  | i :: is, s => bif Nat.blt i n0 then (match mOO n0 (h1.get i) (h2.get i) s with | some s => mOld n0 h1 h2 is s | none => none) else mOld n0 h1 h2 is s
def belowL (n : Nat) (l : List (Nat × Nat)) : Bool := List.rec true (fun p _ ih => Bool.rec false ih (Nat.blt p.1 n)) l
/-- Are values and memories the same, up to the new numbers? -/
def mrg (n0 : Nat) (vs1 : List AV) (h1 : Heap) (vs2 : List AV) (h2 : Heap) : Option Sg :=
  match mVs n0 vs1 vs2 ⟨[], []⟩ with
  | some s => (match mOld n0 h1 h2 h1.log s with | some s => (match mOld n0 h1 h2 h2.log s with | some s => (match mGo n0 h1 h2 100000 s with | some s => bif belowL h1.next s.al then some s else none | none => none) | none => none) | none => none)
  | none => none
/-- What is new and not met is forgotten. -/
def sweep (al : List (Nat × Nat)) : Nat → Nat → Heap → Heap
  | 0, _, h => h
  | f + 1, i, h => (match h.get i with | none => sweep al f (i + 1) h | some _ => (match lookL al i with | some _ => sweep al f (i + 1) h | none => sweep al f (i + 1) ⟨h.next, h.tr.put i none, h.log⟩))
def tidy (n0 : Nat) (s : Sg) (h : Heap) : Heap := sweep s.al (Nat.sub h.next n0) n0 h
end Go.Am

noncomputable section
namespace Go.Am
open Go.RowKit

/-- A way to look at every order: what is quiet is done as soon as it may be; of what is loud each may be the next. -/
inductive Plan where
  | done
  | quiet (i : Nat) (p : Plan)
  | alt (i : Nat) (cs : List Nat) (p q : Plan)
  | stop

def strictOk (ops : Array Oper) (bs : List Nat) : Bool :=
  allFrom (fun j y => (y.after.toList.all fun e => !bindsA e || Nat.blt e.on j) &&
    allFrom (fun i x => (Nat.beq i j || dstOk x y) && (match x.dst with | some d => !(usesA ops y).contains d || Nat.testBit (bs.getD j 0) i || Nat.testBit (bs.getD i 0) j | none => true)) ops.toList 0) ops.toList 0
def subOk (ops : Array Oper) (bs : List Nat) (i : Nat) (L : List Nat) : Bool := allFrom (fun j _ => !Nat.testBit (bs.getD i 0) j || L.contains j) ops.toList 0
/-- Whoever looks at what i writes is done indeed. -/
def useOk (P : Program) (ops : Array Oper) (bs : List Nat) (i : Nat) (L : List Nat) : Bool :=
  match (ops[i]?).bind (·.dst) with
  | none => true
  | some d => allFrom (fun x y => !L.contains x || !(usesA ops y).contains d || loudA P y.op || L.any (fun l => (match ops[l]? with | some z => loudA P z.op | none => false) && Nat.testBit (bs.getD l 0) x)) ops.toList 0
def planOk (P : Program) (ops : Array Oper) (bs : List Nat) : Plan → List Nat → List Nat → Bool
  | .done, L, _ => allFrom (fun i _ => L.contains i) ops.toList 0
  | .quiet i p, L, _ => (match ops[i]? with | some o => !loudA P o.op | none => false) && !L.contains i && subOk ops bs i L && useOk P ops bs i L && planOk P ops bs p (i :: L) []
  | .alt i cs p q, L, as => Nat.blt i ops.size && !L.contains i && subOk ops bs i L && allFrom (fun s x => !L.contains s || Nat.testBit (bs.getD i 0) s || loudA P x.op || !readsA P x.op || cs.contains s) ops.toList 0 &&
      planOk P ops bs p (i :: L) [] && planOk P ops bs q L (i :: as)
  | .stop, L, as => !as.isEmpty && allFrom (fun i _ => L.contains i || !subOk ops bs i L || as.contains i) ops.toList 0
def dstsOk (ops : Array Oper) (n : Nat) : Bool := allFrom (fun _ o => match o.dst with | some d => Nat.blt d n | none => true) ops.toList 0
end Go.Am

namespace Go.Am
open Go.RowKit

def Le (c c' : CallF) : Prop := ∀ f a h r, c f a h = some r → c' f a h = some r
theorem Le.refl (c : CallF) : Le c c := fun _ _ _ _ h => h

/-- It hangs on finitely many answers of the calls. -/
structure Cont (ch : Nat → CallF) (top : CallF) {α : Type} (F : CallF → Option α) : Prop where
  mono : ∀ c c', Le c c' → ∀ r, F c = some r → F c' = some r
  comp : ∀ r, F top = some r → ∃ N, F (ch N) = some r

structure Chain (ch : Nat → CallF) (top : CallF) : Prop where
  up : ∀ n m, n ≤ m → Le (ch n) (ch m)
  top : ∀ f a h r, top f a h = some r → ∃ N, ch N f a h = some r

section
variable {ch : Nat → CallF} {top : CallF} (C : Chain ch top) {α β : Type}
include C

omit C in
theorem Cont.const' (x : Option α) : Cont ch top (fun _ => x) := ⟨fun _ _ _ _ h => h, fun _ h => ⟨0, h⟩⟩
theorem Cont.const (x : Option α) : Cont ch top (fun _ => x) := have _ := C; Cont.const' x
theorem Cont.call (f : FuncId) (a : List AV) (h : Heap) : Cont ch top (fun c => c f a h) := ⟨fun _ _ hl r hr => hl f a h r hr, fun r hr => C.top f a h r hr⟩
theorem Cont.bind {G : CallF → Option α} {K : CallF → α → Option β} (hG : Cont ch top G) (hK : ∀ x, Cont ch top (fun c => K c x)) : Cont ch top (fun c => (G c).bind (K c)) where
  mono := fun c c' hl r hr => by
    rw [Option.bind_eq_some_iff] at hr ⊢
    obtain ⟨x, h1, h2⟩ := hr
    exact ⟨x, hG.mono c c' hl x h1, (hK x).mono c c' hl r h2⟩
  comp := fun r hr => by
    rw [Option.bind_eq_some_iff] at hr
    obtain ⟨x, h1, h2⟩ := hr
    obtain ⟨n, hn⟩ := hG.comp x h1
    obtain ⟨m, hm⟩ := (hK x).comp r h2
    refine ⟨max n m, ?_⟩
    rw [Option.bind_eq_some_iff]
    exact ⟨x, hG.mono _ _ (C.up n _ (Nat.le_max_left _ _)) x hn, (hK x).mono _ _ (C.up m _ (Nat.le_max_right _ _)) r hm⟩
omit C in
theorem Cont.of_eq {F G : CallF → Option α} (h : ∀ c, F c = G c) (hG : Cont ch top G) : Cont ch top F := by
  rw [show F = G from funext h]; exact hG

theorem cont_callA (P : Program) (h : Heap) (f : FuncId) (args : List AV) : Cont ch top (fun c => callA c P h f args) := Cont.call C f args h

theorem cont_bif (b : Bool) {F : CallF → Option α} (hF : Cont ch top F) : Cont ch top (fun c => bif b then F c else none) := by
  cases b with
  | true => exact hF
  | false => exact Cont.const C none
theorem cont_opA (P : Program) (e : List AV) (h : Heap) (op : Op) : Cont ch top (fun c => opA c P e h op) := by
  cases op with
  | call c =>
    obtain ⟨callee, args, ats⟩ := c
    cases callee with
    | builtin b => exact Cont.const C _
    | value f =>
      simp only [opA]
      split
      · exact cont_bif C _ (cont_callA C _ _ _ _)
      · exact cont_callA C _ _ _ _
      · exact Cont.const C none
    | invoke r n =>
      simp only [opA]
      split
      · split
        · exact cont_bif C _ (cont_callA C _ _ _ _)
        · exact Cont.const C none
      · exact Cont.const C none
  | _ => exact Cont.const C _

theorem cont_opsA (P : Program) (ops : Array Oper) : ∀ (rest : List Oper) (e : List AV) (h : Heap), Cont ch top (fun c => opsA c P ops rest e h)
  | [], e, h => Cont.const C _
  | o :: rest, e, h => by
    cases hw : wantedA ops e o with
    | none => exact Cont.of_eq (G := fun _ => none) (fun c => by simp only [opsA, hw]) (Cont.const C _)
    | some b =>
      cases b with
      | false => exact Cont.of_eq (fun c => by simp only [opsA, hw]) (cont_opsA P ops rest (putA e o.dst (.tuple [])) h)
      | true =>
        refine Cont.of_eq (G := fun c => (opA c P e h o.op).bind fun r => match r with | .ret v h' => opsA c P ops rest (putA e o.dst v) h' | .pan v h' => some (.pan v, e, h')) (fun c => ?_) (Cont.bind C (cont_opA C P e h o.op) fun r => ?_)
        · simp only [opsA, hw]
          cases opA c P e h o.op with
          | none => rfl
          | some r => cases r <;> rfl
        · cases r with
          | ret v h' => exact cont_opsA P ops rest _ h'
          | pan v h' => exact Cont.const C _

theorem cont_traceA (P : Program) (ops : Array Oper) : ∀ (rest : List Oper) (e : List AV) (h : Heap), Cont ch top (fun c => traceA c P ops rest e h)
  | [], e, h => Cont.const C _
  | o :: rest, e, h => by
    cases hw : wantedA ops e o with
    | none => exact Cont.of_eq (G := fun _ => none) (fun c => by simp only [traceA, hw]) (Cont.const C _)
    | some b =>
      cases b with
      | false =>
        refine Cont.of_eq (G := fun c => (traceA c P ops rest (putA e o.dst (.tuple [])) h).bind fun tr => some (⟨e, h, .tuple [], false⟩ :: tr)) (fun c => ?_) (Cont.bind C (cont_traceA P ops rest _ h) fun tr => Cont.const C _)
        simp only [traceA, hw]
        cases traceA c P ops rest (putA e o.dst (.tuple [])) h <;> rfl
      | true =>
        refine Cont.of_eq (G := fun c => (opA c P e h o.op).bind fun r => match r with | .ret v h' => (traceA c P ops rest (putA e o.dst v) h').bind (fun tr => some (⟨e, h, v, true⟩ :: tr)) | .pan _ _ => none) (fun c => ?_) (Cont.bind C (cont_opA C P e h o.op) fun r => ?_)
        · simp only [traceA, hw]
          cases opA c P e h o.op with
          | none => rfl
          | some r => cases r with
            | ret v h' => simp only [Option.bind_some]; cases traceA c P ops rest (putA e o.dst v) h' <;> rfl
            | pan v h' => rfl
        · cases r with
          | ret v h' => exact Cont.bind C (cont_traceA P ops rest _ h') fun tr => Cont.const C _
          | pan v h' => exact Cont.const C _

def boolO (b : Bool) : Option Unit := bif b then some () else none

theorem cont_dyn (P : Program) (ops : Array Oper) (e : List AV) (h : Heap) : Cont ch top (fun c => boolO (dynOk c P ops e h)) := by
  refine Cont.of_eq (G := fun c => (traceA c P ops ops.toList e h).bind fun tr => boolO (dynAll P (masks ops.toList []) (louds P ops.toList 0) tr ops.toList tr 0)) (fun c => ?_) (Cont.bind C (cont_traceA C P ops _ e h) fun tr => Cont.const C _)
  unfold dynOk
  cases traceA c P ops ops.toList e h <;> rfl

theorem cont_drawA (P : Program) (ops : Array Oper) (e : List AV) (h : Heap) : Cont ch top (fun c => drawA P c ops e h) := by
  unfold drawA
  cases hs : drawStatic P ops (masks ops.toList []) with
  | false => exact Cont.const C _
  | true =>
    simp only [cond_true]
    refine Cont.of_eq (G := fun c => (opsA c P ops ops.toList e h).bind fun r => match r with
      | (.normal, e', h') => (if needNot P (masks ops.toList []) (louds P ops.toList 0) ops.toList 0 then some () else boolO (dynOk c P ops e h)).bind fun _ => some (.normal, e', h')
      | _ => none) (fun c => ?_) (Cont.bind C (cont_opsA C P ops _ e h) fun r => ?_)
    · cases opsA c P ops ops.toList e h with
      | none => rfl
      | some r =>
        obtain ⟨o, e', h'⟩ := r
        cases o with
        | normal =>
          simp only [Option.bind_some]
          cases needNot P (masks ops.toList []) (louds P ops.toList 0) ops.toList 0 with
          | true => simp
          | false => simp only [Bool.false_or, Bool.false_eq_true, if_false, boolO]; cases dynOk c P ops e h <;> rfl
        | _ => rfl
    · obtain ⟨o, e', h'⟩ := r
      cases o with
      | normal =>
        simp only
        refine Cont.bind C ?_ fun _ => Cont.const C _
        split
        · exact Cont.const C _
        · exact cont_dyn C P ops e h
      | _ => exact Cont.const C _

theorem cont_loopA {B : CallF → List AV → Heap → Option (Out × List AV × Heap)} (hB : ∀ e h, Cont ch top (fun c => B c e h)) : ∀ (n : Nat) (e : List AV) (h : Heap), Cont ch top (fun c => loopA (B c) n e h)
  | 0, e, h => Cont.const C _
  | n + 1, e, h => by
    refine Cont.of_eq (G := fun c => (B c e h).bind fun r => match r with | (.normal, e', h') => loopA (B c) n e' h' | r => some r) (fun c => ?_) (Cont.bind C (hB e h) fun r => ?_)
    · simp only [loopA]
      cases B c e h with
      | none => rfl
      | some r => obtain ⟨o, e', h'⟩ := r; cases o <;> rfl
    · obtain ⟨o, e', h'⟩ := r
      cases o with
      | normal => exact cont_loopA hB n e' h'
      | _ => exact Cont.const C _

theorem cont_execA (P : Program) (n : Nat) : ∀ (code : Code) (e : List AV) (h : Heap), Cont ch top (fun c => execA (drawA P) c P n code e h)
  | .skip, e, h => Cont.const C _
  | .label _, e, h => Cont.const C _
  | .region _ ops dr, e, h => by
    cases dr with
    | true => exact cont_drawA C P ops e h
    | false => exact cont_opsA C P ops _ e h
  | .seq a b, e, h => by
    refine Cont.of_eq (G := fun c => (execA (drawA P) c P n a e h).bind fun r => match r with | (.normal, e', h') => execA (drawA P) c P n b e' h' | r => some r) (fun c => ?_) (Cont.bind C (cont_execA P n a e h) fun r => ?_)
    · simp only [execA]
      cases execA (drawA P) c P n a e h with
      | none => rfl
      | some r => obtain ⟨o, e', h'⟩ := r; cases o <;> rfl
    · obtain ⟨o, e', h'⟩ := r
      cases o with
      | normal => exact cont_execA P n b e' h'
      | _ => exact Cont.const C _
  | .cond x a b, e, h => by
    simp only [execA]
    split
    · rename_i t _
      cases t with
      | true => exact cont_execA P n a e h
      | false => exact cont_execA P n b e h
    · exact Cont.const C _
  | .block id b, e, h => by
    refine Cont.of_eq (G := fun c => (execA (drawA P) c P n b e h).bind fun r => match r with | (.exit i, e', h') => bif Nat.beq i id then some (.normal, e', h') else some (.exit i, e', h') | r => some r) (fun c => ?_) (Cont.bind C (cont_execA P n b e h) fun r => Cont.const C _)
    simp only [execA]
    cases execA (drawA P) c P n b e h with
    | none => rfl
    | some r => obtain ⟨o, e', h'⟩ := r; cases o <;> rfl
  | .loop b, e, h => cont_loopA C (fun e h => cont_execA P n b e h) n e h
  | .exit _, e, h => Cont.const C _
  | .ret, e, h => Cont.const C _
  | .rangeFunc .., e, h => Cont.const C _
  | .scope .., e, h => Cont.const C _
  | .goto .., e, h => Cont.const C _
  | .refuse .., e, h => Cont.const C _

theorem cont_callBody (P : Program) (n : Nat) (fn : Func) (args : List AV) (h : Heap) : Cont ch top (fun c => callBody (execA (drawA P) c P n) P fn args h) := by
  cases hb : fn.body with
  | none => exact Cont.of_eq (G := fun _ => none) (fun c => by simp only [callBody, hb]) (Cont.const C _)
  | some code =>
    refine Cont.of_eq (G := fun c => (execA (drawA P) c P n code (frameA fn args) h).bind fun r => match r with
      | (.normal, e, h') | (.ret, e, h') => (match resultsA P e h' fn.results.toList with | some vs => some (.ret (single vs) h') | none => none)
      | (.pan v, _, h') => some (.pan v h')
      | _ => none) (fun c => ?_) (Cont.bind C (cont_execA C P n code _ h) fun r => Cont.const C _)
    simp only [callBody, hb]
    cases execA (drawA P) c P n code (frameA fn args) h with
    | none => rfl
    | some r => obtain ⟨o, e', h'⟩ := r; cases o <;> rfl
end

/-- More rounds tell the same. -/
theorem loopA_more {B B' : List AV → Heap → Option (Out × List AV × Heap)} (hB : ∀ e h r, B e h = some r → B' e h = some r) : ∀ (n m : Nat), n ≤ m → ∀ e h r, loopA B n e h = some r → loopA B' m e h = some r
  | 0, _, _, e, h, r, hr => by simp [loopA] at hr
  | n + 1, 0, hnm, e, h, r, hr => by omega
  | n + 1, m + 1, hnm, e, h, r, hr => by
    simp only [loopA] at hr ⊢
    split at hr
    · rename_i e' h' hb
      rw [hB _ _ _ hb]
      exact loopA_more hB n m (by omega) e' h' r hr
    · rename_i hno
      rw [hB _ _ _ hr]
      obtain ⟨o, e', h'⟩ := r
      cases o with
      | normal => exact absurd hr (hno e' h')
      | _ => rfl

theorem execA_more {draw : DrawF} {call : CallF} {P : Program} {n m : Nat} (hnm : n ≤ m) : ∀ (code : Code) (e : List AV) (h : Heap) (r : Out × List AV × Heap), execA draw call P n code e h = some r → execA draw call P m code e h = some r
  | .skip, e, h, r, hr => hr
  | .label _, e, h, r, hr => hr
  | .region _ ops dr, e, h, r, hr => hr
  | .seq a b, e, h, r, hr => by
    simp only [execA] at hr ⊢
    split at hr
    · rename_i e' h' hx
      rw [execA_more hnm a e h _ hx]
      exact execA_more hnm b e' h' r hr
    · rename_i hno
      rw [execA_more hnm a e h _ hr]
      obtain ⟨o, e', h'⟩ := r
      cases o with
      | normal => exact absurd hr (hno e' h')
      | _ => rfl
  | .cond x a b, e, h, r, hr => by
    simp only [execA] at hr ⊢
    split at hr
    · rename_i t ht
      cases t with
      | true => exact execA_more hnm a e h r hr
      | false => exact execA_more hnm b e h r hr
    · cases hr
  | .block id b, e, h, r, hr => by
    simp only [execA] at hr ⊢
    split at hr
    · rename_i i e' h' hx
      rw [execA_more hnm b e h _ hx]
      exact hr
    · rename_i hno
      rw [execA_more hnm b e h _ hr]
      obtain ⟨o, e', h'⟩ := r
      cases o with
      | exit i => exact absurd hr (hno i e' h')
      | _ => rfl
  | .loop b, e, h, r, hr => by
    simp only [execA] at hr ⊢
    exact loopA_more (fun e h r => execA_more hnm b e h r) n m hnm e h r hr
  | .exit _, e, h, r, hr => hr
  | .ret, e, h, r, hr => hr
  | .rangeFunc .., e, h, r, hr => by simp [execA] at hr
  | .scope .., e, h, r, hr => by simp [execA] at hr
  | .goto .., e, h, r, hr => by simp [execA] at hr
  | .refuse .., e, h, r, hr => by simp [execA] at hr

theorem callBody_more {draw : DrawF} {call : CallF} {P : Program} {n m : Nat} (hnm : n ≤ m) {fn : Func} {args : List AV} {h : Heap} {r : CRes} (hr : callBody (execA draw call P n) P fn args h = some r) : callBody (execA draw call P m) P fn args h = some r := by
  unfold callBody at hr ⊢
  split at hr
  · cases hr
  · rename_i c hb
    split at hr
    · rename_i e h' hx; simp only [execA_more hnm c _ _ _ hx]; exact hr
    · rename_i e h' hx; simp only [execA_more hnm c _ _ _ hx]; exact hr
    · rename_i v e h' hx; simp only [execA_more hnm c _ _ _ hx]; exact hr
    · cases hr

section
variable (ov : CallF) (P : Program)

theorem callN_mono : ∀ (d d' n n' : Nat), d ≤ d' → n ≤ n' → Le (callN (drawA P) ov P n d) (callN (drawA P) ov P n' d')
  | 0, 0, n, n', _, _ => fun f a h r hr => hr
  | 0, d' + 1, n, n', _, _ => fun f a h r hr => by
    simp only [callN] at hr ⊢
    rw [hr]
  | d + 1, 0, n, n', hd, _ => by omega
  | d + 1, d' + 1, n, n', hd, hn => fun f a h r hr => by
    have ih := callN_mono d d' n n' (by omega) hn
    simp only [callN] at hr ⊢
    split at hr
    · exact hr
    · rename_i ho
      split at hr
      · cases hr
      · rename_i fn hf
        have C : Chain (fun _ => callN (drawA P) ov P n' d') (callN (drawA P) ov P n' d') := ⟨fun _ _ _ => Le.refl _, fun _ _ _ _ h => ⟨0, h⟩⟩
        exact callBody_more hn ((cont_callBody C P n fn a h).mono _ _ ih r hr)

/-- What a call comes to, however deep. -/
noncomputable def callT : CallF := fun f a h => by
  classical exact if hx : ∃ N r, callN (drawA P) ov P N N f a h = some r then some hx.choose_spec.choose else none

theorem callT_iff (f : FuncId) (a : List AV) (h : Heap) (r : CRes) : callT ov P f a h = some r ↔ ∃ N, callN (drawA P) ov P N N f a h = some r := by
  unfold callT
  constructor
  · intro hr
    split at hr
    · rename_i hx
      cases hr
      exact ⟨hx.choose, hx.choose_spec.choose_spec⟩
    · cases hr
  · rintro ⟨N, hN⟩
    have hx : ∃ N r, callN (drawA P) ov P N N f a h = some r := ⟨N, r, hN⟩
    rw [dif_pos hx]
    have h1 := hx.choose_spec.choose_spec
    have h2 := callN_mono ov P hx.choose (max hx.choose N) hx.choose (max hx.choose N) (Nat.le_max_left _ _) (Nat.le_max_left _ _) f a h _ h1
    have h3 := callN_mono ov P N (max hx.choose N) N (max hx.choose N) (Nat.le_max_right _ _) (Nat.le_max_right _ _) f a h r hN
    rw [h2] at h3
    exact h3

theorem chainT : Chain (fun N => callN (drawA P) ov P N N) (callT ov P) :=
  ⟨fun n m hnm => callN_mono ov P n m n m hnm hnm, fun f a h r hr => (callT_iff ov P f a h r).1 hr⟩

theorem callT_ok (hF : Fns P) (hm : P.follows .mixedOrders = true) (hov : CallsOk P ov) : CallsOk P (callT ov P) := by
  intro f a h r hr
  obtain ⟨N, hN⟩ := (callT_iff ov P f a h r).1 hr
  exact callN_ok hF (drawA_ok hF hm) hov N f a h r hN

theorem callT_ov {f : FuncId} {a : List AV} {h : Heap} {r : CRes} (ho : ov f a h = some r) : callT ov P f a h = some r := by
  rw [callT_iff]
  exact ⟨0, ho⟩

/-- A call of a function with a body: the body's run, over calls however deep. -/
theorem callT_body {f : FuncId} {fn : Func} {a : List AV} {h : Heap} {r : CRes} (ho : ov f a h = none) (hf : P.funcs[f]? = some fn) {n : Nat} (hr : callBody (execA (drawA P) (callT ov P) P n) P fn a h = some r) : callT ov P f a h = some r := by
  obtain ⟨N, hN⟩ := (cont_callBody (chainT ov P) P n fn a h).comp r hr
  rw [callT_iff]
  refine ⟨max n N + 1, ?_⟩
  simp only [callN, ho, hf]
  have h1 := callBody_more (m := max n N + 1) (by omega) hN
  have C : Chain (fun _ => callN (drawA P) ov P (max n N + 1) (max n N)) (callN (drawA P) ov P (max n N + 1) (max n N)) := ⟨fun _ _ _ => Le.refl _, fun _ _ _ _ h => ⟨0, h⟩⟩
  exact (cont_callBody C P _ fn a h).mono _ _ (callN_mono ov P N _ N _ (by omega) (by omega)) r h1
end

/-! ### Code, over calls however deep -/

section
variable {ov : CallF} {P : Program}

/-- The code runs, in some number of rounds. -/
def Runs (ov : CallF) (P : Program) (c : Code) (e : List AV) (h : Heap) (r : Out × List AV × Heap) : Prop := ∃ n, execA (drawA P) (callT ov P) P n c e h = some r

theorem Runs.skip {e : List AV} {h : Heap} : Runs ov P .skip e h (.normal, e, h) := ⟨0, rfl⟩
theorem Runs.label {l : Nat} {e : List AV} {h : Heap} : Runs ov P (.label l) e h (.normal, e, h) := ⟨0, rfl⟩
theorem Runs.exit {i : Nat} {e : List AV} {h : Heap} : Runs ov P (.exit i) e h (.exit i, e, h) := ⟨0, rfl⟩
theorem Runs.ret {e : List AV} {h : Heap} : Runs ov P .ret e h (.ret, e, h) := ⟨0, rfl⟩
theorem Runs.region {id : Nat} {ops : Array Oper} {e : List AV} {h : Heap} {r : Out × List AV × Heap} (hr : opsA (callT ov P) P ops ops.toList e h = some r) : Runs ov P (.region id ops false) e h r := ⟨0, hr⟩
theorem Runs.draw {id : Nat} {ops : Array Oper} {e : List AV} {h : Heap} {r : Out × List AV × Heap} (hr : drawA P (callT ov P) ops e h = some r) : Runs ov P (.region id ops true) e h r := ⟨0, hr⟩
theorem Runs.seq {a b : Code} {e e' : List AV} {h h' : Heap} {r : Out × List AV × Heap} (h1 : Runs ov P a e h (.normal, e', h')) (h2 : Runs ov P b e' h' r) : Runs ov P (.seq a b) e h r := by
  obtain ⟨n, hn⟩ := h1
  obtain ⟨m, hm⟩ := h2
  refine ⟨max n m, ?_⟩
  simp only [execA, execA_more (Nat.le_max_left n m) a e h _ hn]
  exact execA_more (Nat.le_max_right n m) b e' h' r hm
theorem Runs.seq_out {a b : Code} {e e' : List AV} {h h' : Heap} {o : Out} (h1 : Runs ov P a e h (o, e', h')) (ho : o ≠ .normal) : Runs ov P (.seq a b) e h (o, e', h') := by
  obtain ⟨n, hn⟩ := h1
  refine ⟨n, ?_⟩
  simp only [execA, hn]
  cases o <;> first | rfl | exact absurd rfl ho
theorem Runs.cond_true {c : Operand} {a b : Code} {e : List AV} {h : Heap} {r : Out × List AV × Heap} (hc : evalA P e c = .bool true) (h1 : Runs ov P a e h r) : Runs ov P (.cond c a b) e h r := by
  obtain ⟨n, hn⟩ := h1
  exact ⟨n, by simp only [execA, hc, _root_.cond_true]; exact hn⟩
theorem Runs.cond_false {c : Operand} {a b : Code} {e : List AV} {h : Heap} {r : Out × List AV × Heap} (hc : evalA P e c = .bool false) (h1 : Runs ov P b e h r) : Runs ov P (.cond c a b) e h r := by
  obtain ⟨n, hn⟩ := h1
  exact ⟨n, by simp only [execA, hc, _root_.cond_false]; exact hn⟩
theorem Runs.cond {c : Operand} {a b : Code} {e : List AV} {h : Heap} {r : Out × List AV × Heap} {t : Bool} (hc : evalA P e c = .bool t) (h1 : t = true → Runs ov P a e h r) (h2 : t = false → Runs ov P b e h r) : Runs ov P (.cond c a b) e h r := by
  cases t with
  | true => exact Runs.cond_true hc (h1 rfl)
  | false => exact Runs.cond_false hc (h2 rfl)
theorem Runs.block_exit {id : Nat} {b : Code} {e e' : List AV} {h h' : Heap} (h1 : Runs ov P b e h (.exit id, e', h')) : Runs ov P (.block id b) e h (.normal, e', h') := by
  obtain ⟨n, hn⟩ := h1
  refine ⟨n, ?_⟩
  simp only [execA, hn, beq1, decide_true, _root_.cond_true]
theorem Runs.block {id : Nat} {b : Code} {e e' : List AV} {h h' : Heap} {o : Out} (h1 : Runs ov P b e h (o, e', h')) (ho : o ≠ .exit id) : Runs ov P (.block id b) e h (o, e', h') := by
  obtain ⟨n, hn⟩ := h1
  refine ⟨n, ?_⟩
  simp only [execA, hn]
  cases o with
  | exit i =>
    have : i ≠ id := fun hh => ho (by rw [hh])
    simp only [beq1, this, decide_false, _root_.cond_false]
  | _ => rfl
theorem Runs.loop {b : Code} {e e' : List AV} {h h' : Heap} {r : Out × List AV × Heap} (h1 : Runs ov P b e h (.normal, e', h')) (h2 : Runs ov P (.loop b) e' h' r) : Runs ov P (.loop b) e h r := by
  obtain ⟨n, hn⟩ := h1
  obtain ⟨m, hm⟩ := h2
  refine ⟨max n m + 1, ?_⟩
  simp only [execA, loopA, execA_more (show n ≤ max n m + 1 by omega) b e h _ hn]
  simp only [execA] at hm
  exact loopA_more (fun e h r => execA_more (by omega) b e h r) m (max n m) (by omega) e' h' r hm
theorem Runs.loop_out {b : Code} {e e' : List AV} {h h' : Heap} {o : Out} (h1 : Runs ov P b e h (o, e', h')) (ho : o ≠ .normal) : Runs ov P (.loop b) e h (o, e', h') := by
  obtain ⟨n, hn⟩ := h1
  refine ⟨n + 1, ?_⟩
  simp only [execA, loopA, execA_more (show n ≤ n + 1 by omega) b e h _ hn]
  cases o <;> first | rfl | exact absurd rfl ho

theorem callT_ret {f : FuncId} {fn : Func} {c : Code} {a e : List AV} {h h' : Heap} {o : Out} {vs : List AV} (hov : ov f a h = none) (hf : P.funcs[f]? = some fn) (hb : fn.body = some c) (hr : Runs ov P c (frameA fn a) h (o, e, h')) (ho : o = .normal ∨ o = .ret)
    (hv : resultsA P e h' fn.results.toList = some vs) : callT ov P f a h = some (.ret (single vs) h') := by
  obtain ⟨n, hn⟩ := hr
  refine callT_body ov P hov hf (n := n) ?_
  unfold callBody
  rw [hb]
  simp only [hn]
  rcases ho with rfl | rfl <;> simp only [hv]
theorem callT_pan {f : FuncId} {fn : Func} {c : Code} {a e : List AV} {h h' : Heap} {v : AV} (hov : ov f a h = none) (hf : P.funcs[f]? = some fn) (hb : fn.body = some c) (hr : Runs ov P c (frameA fn a) h (.pan v, e, h')) : callT ov P f a h = some (.pan v h') := by
  obtain ⟨n, hn⟩ := hr
  refine callT_body ov P hov hf (n := n) ?_
  unfold callBody
  rw [hb]
  simp only [hn]
end
end Go.Am
