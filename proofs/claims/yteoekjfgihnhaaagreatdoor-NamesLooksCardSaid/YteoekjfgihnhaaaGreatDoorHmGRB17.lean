/- What came of different orders is told in one way: why that is right. -/
import Derived.Test.YteoekjfgihnhaaaGreatDoorHmGRB14
import Derived.Test.YteoekjfgihnhaaaGreatDoorHmGRB16
set_option linter.all false
noncomputable section
namespace Go.Am
open Go.RowKit

/-! ### How memory goes on -/

def Wfh (h : Heap) : Prop := ∀ i, h.next ≤ i → h.get i = none
/-- What of an object never changes: of the record of a range over a function all but its state and the way out. -/
def Obj.stat : Obj → Option (Nat × Env × Array Tmp × Code × Code × Nat)
  | .loop _ _ n env ps a b d => some (n, env, ps, a, b, d)
  | _ => none
def Stay (x y : Option Obj) : Prop := ∀ o', y = some o' → ∃ o, x = some o ∧ o.stat = o'.stat
theorem Stay.refl (x : Option Obj) : Stay x x := fun o' h => ⟨o', h, rfl⟩
theorem Stay.of_eq {x y : Option Obj} (h : y = x) : Stay x y := by rw [h]; exact Stay.refl _
theorem Stay.trans {x y z : Option Obj} (h : Stay x y) (h' : Stay y z) : Stay x z := fun o' ho => by
  obtain ⟨o1, h1, h2⟩ := h' o' ho
  obtain ⟨o2, h3, h4⟩ := h o1 h1
  exact ⟨o2, h3, h4.trans h2⟩
/-- What is not in the log is as it was. -/
def Grows (h h' : Heap) : Prop := h.next ≤ h'.next ∧ (∃ l, h'.log = l ++ h.log ∧ ∀ i, i < h.next → i ∉ l → h'.get i = h.get i) ∧ (Wfh h → Wfh h') ∧ ∀ i, i < h.next → Stay (h.get i) (h'.get i)
theorem Grows.refl (h : Heap) : Grows h h := ⟨Nat.le_refl _, ⟨[], rfl, fun _ _ _ => rfl⟩, id, fun _ _ => Stay.refl _⟩
theorem Grows.trans {a b c : Heap} (h : Grows a b) (h' : Grows b c) : Grows a c := by
  obtain ⟨h1, ⟨l, h2, h3⟩, h4, h5⟩ := h
  obtain ⟨g1, ⟨m, g2, g3⟩, g4, g5⟩ := h'
  refine ⟨Nat.le_trans h1 g1, ⟨m ++ l, by rw [g2, h2, List.append_assoc], fun i hi hn => ?_⟩, fun hw => g4 (h4 hw), fun i hi => (h5 i hi).trans (g5 i (by omega))⟩
  rw [List.mem_append, not_or] at hn
  rw [g3 i (by omega) hn.1, h3 i hi hn.2]
theorem Grows.put (h : Heap) (i : Nat) (o : Option Obj) (hi : o = none ∨ h.get i ≠ none) (hs : Stay (h.get i) o) : Grows h (h.put i o) := by
  refine ⟨Nat.le_refl _, ⟨[i], rfl, fun j _ hn => ?_⟩, fun hw j hj => ?_, fun j _ => ?_⟩
  · rw [Heap.get_put_ne _ _ (fun hh => hn (by rw [hh]; simp))]
  · by_cases hij : i = j
    · subst hij
      rcases hi with rfl | hi
      · exact Heap.get_put _ _ _
      · exact absurd (hw i hj) hi
    · rw [Heap.get_put_ne _ _ hij]; exact hw j hj
  · by_cases hij : i = j
    · subst hij; rw [Heap.get_put]; exact hs
    · rw [Heap.get_put_ne _ _ hij]; exact Stay.refl _
theorem Grows.set {h : Heap} {i : Nat} {o o' : Obj} (hi : h.get i = some o') (hs : o'.stat = o.stat := by rfl) : Grows h (h.set i o) := Grows.put h i _ (.inr (by rw [hi]; simp)) (by rw [hi]; intro x hx; cases hx; exact ⟨_, rfl, hs⟩)
theorem Grows.del (h : Heap) (i : Nat) : Grows h (h.del i) := Grows.put h i none (.inl rfl) (fun _ hx => by cases hx)
theorem Grows.alloc (h : Heap) (o : Obj) : Grows h (h.alloc o) := by
  refine ⟨Nat.le_succ _, ⟨[], rfl, fun j hj _ => Heap.get_alloc_ne _ _ (by omega)⟩, fun hw j hj => ?_, fun j hj => ?_⟩
  · have hj : h.next + 1 ≤ j := hj
    rw [Heap.get_alloc_ne _ _ (by omega)]; exact hw j (by omega)
  · rw [Heap.get_alloc_ne _ _ (by omega)]; exact Stay.refl _

/-- Less is known. -/
def Less (a b : Heap) : Prop := b.next = a.next ∧ ∀ i o, b.get i = some o → a.get i = some o
theorem Less.refl (a : Heap) : Less a a := ⟨rfl, fun _ _ h => h⟩
theorem Less.trans {a b c : Heap} (h : Less a b) (h' : Less b c) : Less a c := ⟨h'.1.trans h.1, fun i o ho => h.2 i o (h'.2 i o ho)⟩
theorem R.less {P : Program} {φ : List Emb} {a b : Heap} {w0 w : World} (hR : R P φ a w0 w) (hl : Less a b) : R P φ b w0 w where
  below := hR.below
  len := by rw [hR.len, hl.1]
  objs := fun i o hi => hR.objs i o (hl.2 i o hi)
  sep := fun i j oi oj ei ej hij hi hj => hR.sep i j oi oj ei ej hij (hl.2 i oi hi) (hl.2 j oj hj)
  glob := hR.glob
theorem R.wfh {P : Program} {φ : List Emb} {h : Heap} {w0 w : World} (hR : R P φ h w0 w) : Wfh h := by
  intro i hi
  cases hg : h.get i with
  | none => rfl
  | some o => have := hR.lt hg; omega

/-! ### Two ways to tell -/

structure Ren (n0 : Nat) (al : List (Nat × Nat)) (φ1 φ2 : List Emb) : Prop where
  old : ∀ i, i < n0 → ∀ e, φ2[i]? = some e → φ1[i]? = some e
  new : ∀ a b, (a, b) ∈ al → ∀ e, φ2[b]? = some e → φ1[a]? = some e
theorem Ren.mono {n0 : Nat} {al al' : List (Nat × Nat)} {φ1 φ2 : List Emb} (h : Ren n0 al' φ1 φ2) (hs : ∀ p ∈ al, p ∈ al') : Ren n0 al φ1 φ2 := ⟨h.old, fun a b hm => h.new a b (hs _ hm)⟩
structure Inv (n0 : Nat) (s : Sg) : Prop where
  fn : ∀ a b c, (a, b) ∈ s.al → (a, c) ∈ s.al → b = c
  inj : ∀ a b c, (a, c) ∈ s.al → (b, c) ∈ s.al → a = b
  new : ∀ a b, (a, b) ∈ s.al → n0 ≤ a ∧ n0 ≤ b
structure Stp (n0 : Nat) (s s' : Sg) : Prop where
  al : ∀ p ∈ s.al, p ∈ s'.al
  inv : Inv n0 s → Inv n0 s'
  td : ∀ p ∈ s'.al, p ∈ s.al ∨ p ∈ s'.todo
  tdm : ∀ p ∈ s.todo, p ∈ s'.todo
theorem Stp.refl (n0 : Nat) (s : Sg) : Stp n0 s s := ⟨fun _ h => h, id, fun _ h => .inl h, fun _ h => h⟩
theorem Stp.trans {n0 : Nat} {a b c : Sg} (h : Stp n0 a b) (h' : Stp n0 b c) : Stp n0 a c where
  al := fun p hp => h'.al p (h.al p hp)
  inv := fun hi => h'.inv (h.inv hi)
  td := fun p hp => by
    rcases h'.td p hp with h1 | h1
    · rcases h.td p h1 with h2 | h2
      · exact .inl h2
      · exact .inr (h'.tdm p h2)
    · exact .inr h1
  tdm := fun p hp => h'.tdm p (h.tdm p hp)

theorem lookL_some : ∀ {l : List (Nat × Nat)} {a c : Nat}, lookL l a = some c → (a, c) ∈ l
  | [], _, _, h => by cases h
  | (x, y) :: l, a, c, h => by
    change (Bool.rec (lookL l a) (some y) (Nat.beq x a) : Option Nat) = some c at h
    cases hb : Nat.beq x a with
    | true => rw [hb] at h; cases h; rw [Nat.eq_of_beq_eq_true hb]; simp
    | false => rw [hb] at h; exact List.mem_cons_of_mem _ (lookL_some h)
theorem lookL_none : ∀ {l : List (Nat × Nat)} {a : Nat}, lookL l a = none → ∀ c, (a, c) ∉ l
  | [], _, _, _ => by simp
  | (x, y) :: l, a, h, c => by
    change (Bool.rec (lookL l a) (some y) (Nat.beq x a) : Option Nat) = none at h
    cases hb : Nat.beq x a with
    | true => rw [hb] at h; cases h
    | false =>
      rw [hb] at h
      intro hm
      rcases List.mem_cons.1 hm with h1 | h1
      · cases h1; rw [Nat.beq_refl] at hb; cases hb
      · exact lookL_none h c h1
theorem hasR_false : ∀ {l : List (Nat × Nat)} {b : Nat}, hasR l b = false → ∀ a, (a, b) ∉ l
  | [], _, _, _ => by simp
  | (x, y) :: l, b, h, a => by
    change (Bool.rec (hasR l b) true (Nat.beq y b) : Bool) = false at h
    cases hb : Nat.beq y b with
    | true => rw [hb] at h; cases h
    | false =>
      rw [hb] at h
      intro hm
      rcases List.mem_cons.1 hm with h1 | h1
      · cases h1; rw [Nat.beq_refl] at hb; cases hb
      · exact hasR_false h a h1

section
variable {n0 : Nat}
theorem mId_run {s s' : Sg} {a b : Nat} (h : mId n0 s a b = some s') : Stp n0 s s' ∧ ∀ φ1 φ2 e, Ren n0 s'.al φ1 φ2 → φ2[b]? = some e → φ1[a]? = some e := by
  unfold mId at h
  cases ha : Nat.blt a n0 with
  | true =>
    rw [ha, cond_true] at h
    cases hb : Nat.beq a b with
    | false => rw [hb] at h; cases h
    | true =>
      rw [hb] at h; cases h
      have := Nat.eq_of_beq_eq_true hb
      subst this
      exact ⟨Stp.refl _ _, fun φ1 φ2 e hr he => hr.old a ((blt_iff _ _).1 ha) e he⟩
  | false =>
    rw [ha, cond_false] at h
    cases hbn : Nat.blt b n0 with
    | true => rw [hbn] at h; cases h
    | false =>
      rw [hbn, cond_false] at h
      have ha' : n0 ≤ a := by rw [blt_dec] at ha; simpa using ha
      have hb' : n0 ≤ b := by rw [blt_dec] at hbn; simpa using hbn
      split at h
      · rename_i c hc
        cases hcb : Nat.beq c b with
        | false => rw [hcb] at h; cases h
        | true =>
          rw [hcb] at h; cases h
          have := Nat.eq_of_beq_eq_true hcb
          subst this
          exact ⟨Stp.refl _ _, fun φ1 φ2 e hr he => hr.new a c (lookL_some hc) e he⟩
      · rename_i hc
        cases hh : hasR s.al b with
        | true => rw [hh] at h; cases h
        | false =>
          rw [hh] at h; cases h
          refine ⟨⟨fun p hp => List.mem_cons_of_mem _ hp, fun hi => ⟨?_, ?_, ?_⟩, fun p hp => ?_, fun p hp => List.mem_cons_of_mem _ hp⟩, fun φ1 φ2 e hr he => hr.new a b (by simp) e he⟩
          · intro x y z h1 h2
            rcases List.mem_cons.1 h1 with h1 | h1 <;> rcases List.mem_cons.1 h2 with h2 | h2
            · cases h1; cases h2; rfl
            · cases h1; exact absurd h2 (lookL_none hc z)
            · cases h2; exact absurd h1 (lookL_none hc y)
            · exact hi.fn x y z h1 h2
          · intro x y z h1 h2
            rcases List.mem_cons.1 h1 with h1 | h1 <;> rcases List.mem_cons.1 h2 with h2 | h2
            · cases h1; cases h2; rfl
            · cases h1; exact absurd h2 (hasR_false hh y)
            · cases h2; exact absurd h1 (hasR_false hh x)
            · exact hi.inj x y z h1 h2
          · intro x y h1
            rcases List.mem_cons.1 h1 with h1 | h1
            · cases h1; exact ⟨ha', hb'⟩
            · exact hi.new x y h1
          · rcases List.mem_cons.1 hp with h1 | h1
            · exact .inr (by rw [h1]; simp)
            · exact .inl h1
theorem mOId_run {s s' : Sg} {a b : Option Nat} (h : mOId n0 s a b = some s') : Stp n0 s s' ∧ ((a = none ∧ b = none) ∨ ∃ x y, a = some x ∧ b = some y ∧ ∀ φ1 φ2 e, Ren n0 s'.al φ1 φ2 → φ2[y]? = some e → φ1[x]? = some e) := by
  unfold mOId at h
  split at h
  · cases h; exact ⟨Stp.refl _ _, .inl ⟨rfl, rfl⟩⟩
  · have := mId_run h; exact ⟨this.1, .inr ⟨_, _, rfl, rfl, this.2⟩⟩
  · cases h

theorem capOk_of {e : Emb} {off cap : Nat} {c d : Cap} (hb : beqCap c d = true) (h : CapOk e off cap d) : CapOk e off cap c := by rw [beqCap_eq hb]; exact h

def VR (n0 : Nat) (al : List (Nat × Nat)) (a b : AV) : Prop := ∀ φ1 φ2 u, Ren n0 al φ1 φ2 → V φ2 b u → V φ1 a u
def VsR (n0 : Nat) (al : List (Nat × Nat)) (a b : List AV) : Prop := ∀ φ1 φ2 us, Ren n0 al φ1 φ2 → Vs φ2 b us → Vs φ1 a us
theorem VR.mono {al al' : List (Nat × Nat)} {a b : AV} (h : VR n0 al a b) (hs : ∀ p ∈ al, p ∈ al') : VR n0 al' a b := fun φ1 φ2 u hr hv => h φ1 φ2 u (hr.mono hs) hv
theorem VsR.mono {al al' : List (Nat × Nat)} {a b : List AV} (h : VsR n0 al a b) (hs : ∀ p ∈ al, p ∈ al') : VsR n0 al' a b := fun φ1 φ2 u hr hv => h φ1 φ2 u (hr.mono hs) hv

mutual
theorem mV_run : ∀ (a b : AV) (s s' : Sg), mV n0 a b s = some s' → Stp n0 s s' ∧ VR n0 s'.al a b
  | a, b, s, s', h => by
    cases a with
    | unk => cases b <;> simp only [mV] at h <;> first | (cases h; done) | (cases h; exact ⟨Stp.refl _ _, fun _ _ _ _ hv => by simp [V]⟩)
    | bool x =>
      cases b <;> simp only [mV] at h <;> first | (cases h; done) | skip
      rename_i y
      cases hb : x == y with
      | false => rw [hb] at h; cases h
      | true =>
        rw [hb] at h; cases h
        have : x = y := by simpa using hb
        subst this
        exact ⟨Stp.refl _ _, fun _ _ _ _ hv => by simpa [V] using hv⟩
    | int k x =>
      cases b <;> simp only [mV] at h <;> first | (cases h; done) | skip
      rename_i k' y
      cases hb : decide (k = k') && decide (x = y) with
      | false => rw [hb] at h; cases h
      | true =>
        rw [hb] at h; cases h
        simp at hb
        obtain ⟨rfl, rfl⟩ := hb
        exact ⟨Stp.refl _ _, fun _ _ _ _ hv => by simpa [V] using hv⟩
    | str x =>
      cases b <;> simp only [mV] at h <;> first | (cases h; done) | skip
      rename_i y
      cases hb : decide (x = y) with
      | false => rw [hb] at h; cases h
      | true =>
        rw [hb] at h; cases h
        simp at hb
        subst hb
        exact ⟨Stp.refl _ _, fun _ _ _ _ hv => by simpa [V] using hv⟩
    | nilFunc => cases b <;> simp only [mV] at h <;> first | (cases h; done) | (cases h; exact ⟨Stp.refl _ _, fun _ _ _ _ hv => by simpa [V] using hv⟩)
    | nilIface => cases b <;> simp only [mV] at h <;> first | (cases h; done) | (cases h; exact ⟨Stp.refl _ _, fun _ _ _ _ hv => by simpa [V] using hv⟩)
    | ptr l =>
      cases b with
      | ptr m =>
        cases l <;> cases m <;> simp only [mV] at h <;> first | (cases h; done) | skip
        · cases h; exact ⟨Stp.refl _ _, fun _ _ _ _ hv => by simpa [V] using hv⟩
        · rename_i x y
          cases hb : Nat.beq x.off y.off with
          | false => rw [hb] at h; cases h
          | true =>
            rw [hb, cond_true] at h
            have ho := Nat.eq_of_beq_eq_true hb
            obtain ⟨h1, h2⟩ := mId_run h
            refine ⟨h1, fun φ1 φ2 u hr hv => ?_⟩
            simp only [V] at hv ⊢
            obtain ⟨e, he, hu⟩ := hv
            exact ⟨e, h2 φ1 φ2 e hr he, by rw [ho]; exact hu⟩
      | _ => cases l <;> simp [mV] at h
    | slice l n c =>
      cases b with
      | slice m n' c' =>
        cases l <;> cases m <;> simp only [mV] at h <;> first | (cases h; done) | skip
        · cases hb : Nat.beq n n' && beqCap c c' with
          | false => rw [hb] at h; cases h
          | true =>
            rw [hb] at h; cases h
            rw [Bool.and_eq_true] at hb
            have hn := Nat.eq_of_beq_eq_true hb.1
            have hc := beqCap_eq hb.2
            subst hn hc
            refine ⟨Stp.refl _ _, fun φ1 φ2 u hr hv => ?_⟩
            cases c <;> simp only [V] at hv ⊢ <;> exact hv
        · rename_i x y
          cases hb : Nat.beq x.off y.off && Nat.beq n n' && beqCap c c' with
          | false => rw [hb] at h; cases h
          | true =>
            rw [hb, cond_true] at h
            rw [Bool.and_eq_true, Bool.and_eq_true] at hb
            have ho := Nat.eq_of_beq_eq_true hb.1.1
            have hn := Nat.eq_of_beq_eq_true hb.1.2
            have hc := beqCap_eq hb.2
            subst hn hc
            obtain ⟨h1, h2⟩ := mId_run h
            refine ⟨h1, fun φ1 φ2 u hr hv => ?_⟩
            simp only [V] at hv ⊢
            obtain ⟨e, cap, a, he, hu⟩ := hv
            exact ⟨e, cap, a, h2 φ1 φ2 e hr he, by rw [ho]; exact hu⟩
      | _ => cases l <;> simp [mV] at h
    | map l =>
      cases b with
      | map m =>
        simp only [mV] at h
        obtain ⟨h1, h2⟩ := mOId_run h
        refine ⟨h1, fun φ1 φ2 u hr hv => ?_⟩
        rcases h2 with ⟨rfl, rfl⟩ | ⟨x, y, rfl, rfl, h2⟩
        · simpa [V] using hv
        · simp only [V] at hv ⊢
          obtain ⟨e, he, hu⟩ := hv
          exact ⟨e, h2 φ1 φ2 e hr he, hu⟩
      | _ => simp [mV] at h
    | chan l =>
      cases b with
      | chan m =>
        simp only [mV] at h
        obtain ⟨h1, h2⟩ := mOId_run h
        refine ⟨h1, fun φ1 φ2 u hr hv => ?_⟩
        rcases h2 with ⟨rfl, rfl⟩ | ⟨x, y, rfl, rfl, h2⟩
        · simpa [V] using hv
        · simp only [V] at hv ⊢
          obtain ⟨e, he, hu⟩ := hv
          exact ⟨e, h2 φ1 φ2 e hr he, hu⟩
      | _ => simp [mV] at h
    | func f x y =>
      cases b with
      | func g x' y' =>
        simp only [mV] at h
        cases hb : decide (f = g) with
        | false => rw [hb] at h; cases h
        | true =>
          rw [hb, cond_true] at h
          have hfg : f = g := of_decide_eq_true hb
          subst hfg
          split at h
          · rename_i s1 hs1
            obtain ⟨h1, h2⟩ := mVs_run x x' s s1 hs1
            obtain ⟨h3, h4⟩ := mVs_run y y' s1 s' h
            refine ⟨h1.trans h3, fun φ1 φ2 u hr hv => ?_⟩
            simp only [V] at hv ⊢
            obtain ⟨p, q, hu, hp, hq⟩ := hv
            exact ⟨p, q, hu, h2 φ1 φ2 _ (hr.mono h3.al) hp, h4 φ1 φ2 _ hr hq⟩
          · cases h
      | _ => simp [mV] at h
    | iface t x =>
      cases b with
      | iface t' y =>
        simp only [mV] at h
        cases hb : Nat.beq t t' with
        | false => rw [hb] at h; cases h
        | true =>
          rw [hb, cond_true] at h
          have := Nat.eq_of_beq_eq_true hb
          subst this
          obtain ⟨h1, h2⟩ := mV_run x y s s' h
          refine ⟨h1, fun φ1 φ2 u hr hv => ?_⟩
          simp only [V] at hv ⊢
          obtain ⟨p, hu, hp⟩ := hv
          exact ⟨p, hu, h2 φ1 φ2 _ hr hp⟩
      | _ => simp [mV] at h
    | agg x =>
      cases b with
      | agg y =>
        simp only [mV] at h
        obtain ⟨h1, h2⟩ := mVs_run x y s s' h
        refine ⟨h1, fun φ1 φ2 u hr hv => ?_⟩
        simp only [V] at hv ⊢
        obtain ⟨p, hu, hp⟩ := hv
        exact ⟨p, hu, h2 φ1 φ2 _ hr hp⟩
      | _ => simp [mV] at h
    | tuple x =>
      cases b with
      | tuple y =>
        simp only [mV] at h
        obtain ⟨h1, h2⟩ := mVs_run x y s s' h
        refine ⟨h1, fun φ1 φ2 u hr hv => ?_⟩
        simp only [V] at hv ⊢
        obtain ⟨p, hu, hp⟩ := hv
        exact ⟨p, hu, h2 φ1 φ2 _ hr hp⟩
      | _ => simp [mV] at h
    | yield k =>
      cases b with
      | yield m =>
        simp only [mV] at h
        obtain ⟨h1, h2⟩ := mId_run h
        refine ⟨h1, fun φ1 φ2 u hr hv => ?_⟩
        simp only [V] at hv ⊢
        obtain ⟨e, he, hu⟩ := hv
        exact ⟨e, h2 φ1 φ2 e hr he, hu⟩
      | _ => simp [mV] at h
theorem mVs_run : ∀ (a b : List AV) (s s' : Sg), mVs n0 a b s = some s' → Stp n0 s s' ∧ VsR n0 s'.al a b
  | [], [], s, s', h => by
    simp only [mVs] at h; cases h
    exact ⟨Stp.refl _ _, fun _ _ _ _ hv => by simpa [Vs] using hv⟩
  | [], _ :: _, s, s', h => by simp [mVs] at h
  | _ :: _, [], s, s', h => by simp [mVs] at h
  | a :: as, b :: bs, s, s', h => by
    simp only [mVs] at h
    split at h
    · rename_i s1 hs1
      obtain ⟨h1, h2⟩ := mV_run a b s s1 hs1
      obtain ⟨h3, h4⟩ := mVs_run as bs s1 s' h
      refine ⟨h1.trans h3, fun φ1 φ2 us hr hv => ?_⟩
      simp only [Vs] at hv ⊢
      obtain ⟨y, ys, hu, hp, hq⟩ := hv
      exact ⟨y, ys, hu, h2 φ1 φ2 _ (hr.mono h3.al) hp, h4 φ1 φ2 _ hr hq⟩
    · cases h
end
theorem mVs_length : ∀ {a b : List AV} {s s' : Sg}, mVs n0 a b s = some s' → a.length = b.length
  | [], [], s, s', h => rfl
  | [], _ :: _, s, s', h => by simp [mVs] at h
  | _ :: _, [], s, s', h => by simp [mVs] at h
  | a :: as, b :: bs, s, s', h => by
    simp only [mVs] at h
    split at h
    · rename_i s1 hs1
      simp [mVs_length h]
    · cases h
theorem mEs_run : ∀ (a b : List EN) (s s' : Sg), mEs n0 a b s = some s' → Stp n0 s s' ∧ ∀ φ1 φ2 us, Ren n0 s'.al φ1 φ2 → Entries φ2 b us → Entries φ1 a us
  | [], [], s, s', h => by
    simp only [mEs] at h; cases h
    exact ⟨Stp.refl _ _, fun _ _ _ _ hv => by simpa [Entries] using hv⟩
  | [], _ :: _, s, s', h => by simp [mEs] at h
  | _ :: _, [], s, s', h => by simp [mEs] at h
  | (k, v, b) :: as, (k', v', b') :: bs, s, s', h => by
    simp only [mEs] at h
    cases hb : Nat.beq b b' with
    | false => rw [hb] at h; cases h
    | true =>
      rw [hb, cond_true] at h
      have := Nat.eq_of_beq_eq_true hb
      subst this
      split at h
      · rename_i s1 hs1
        split at h
        · rename_i s2 hs2
          obtain ⟨h1, h2⟩ := mV_run k k' s s1 hs1
          obtain ⟨h3, h4⟩ := mV_run v v' s1 s2 hs2
          obtain ⟨h5, h6⟩ := mEs_run as bs s2 s' h
          refine ⟨(h1.trans h3).trans h5, fun φ1 φ2 us hr hv => ?_⟩
          simp only [Entries, entryOf] at hv ⊢
          obtain ⟨y, ys, hu, ⟨hk, hv, hbn⟩, hq⟩ := hv
          exact ⟨y, ys, hu, ⟨h2 φ1 φ2 _ (hr.mono (fun p hp => h5.al p (h3.al p hp))) hk, h4 φ1 φ2 _ (hr.mono h5.al) hv, hbn⟩, h6 φ1 φ2 _ hr hq⟩
        · cases h
      · cases h

/-- Two lists, pair by pair. -/
def Z2 {α β : Type} (r : α → β → Prop) : List α → List β → Prop
  | [], [] => True
  | a :: as, b :: bs => r a b ∧ Z2 r as bs
  | _, _ => False
theorem Z2.perm {α β : Type} {r : α → β → Prop} {l m : List β} (hp : l.Perm m) : ∀ {a : List α}, Z2 r a m → ∃ d, Z2 r d l ∧ d.Perm a := by
  induction hp with
  | nil => intro a h; exact ⟨a, h, .refl _⟩
  | cons x _ ih =>
    intro a h
    match a, h with
    | [], h => exact h.elim
    | y :: a, h =>
      obtain ⟨d, h1, h2⟩ := ih h.2
      exact ⟨y :: d, ⟨h.1, h1⟩, .cons _ h2⟩
  | swap x y l =>
    intro a h
    match a, h with
    | [], h => exact h.elim
    | [_], h => exact h.2.elim
    | p :: q :: a, h => exact ⟨q :: p :: a, ⟨h.2.1, h.1, h.2.2⟩, .swap _ _ _⟩
  | trans _ _ ih1 ih2 =>
    intro a h
    obtain ⟨d2, h1, h2⟩ := ih2 h
    obtain ⟨d1, h3, h4⟩ := ih1 h1
    exact ⟨d1, h3, h4.trans h2⟩
theorem mBs_run : ∀ (a b : List (AV × AV)) (s s' : Sg), mBs n0 a b s = some s' → Stp n0 s s' ∧ Z2 (fun p q => VR n0 s'.al p.1 q.1 ∧ VR n0 s'.al p.2 q.2) a b
  | [], [], s, s', h => by simp only [mBs] at h; cases h; exact ⟨Stp.refl _ _, trivial⟩
  | [], _ :: _, s, s', h => by simp [mBs] at h
  | _ :: _, [], s, s', h => by simp [mBs] at h
  | (k, v) :: as, (k', v') :: bs, s, s', h => by
    simp only [mBs] at h
    split at h
    · rename_i s1 hs1
      split at h
      · rename_i s2 hs2
        obtain ⟨h1, h2⟩ := mV_run k k' s s1 hs1
        obtain ⟨h3, h4⟩ := mV_run v v' s1 s2 hs2
        obtain ⟨h5, h6⟩ := mBs_run as bs s2 s' h
        exact ⟨(h1.trans h3).trans h5, ⟨h2.mono (fun p hp => h5.al p (h3.al p hp)), h4.mono h5.al⟩, h6⟩
      · cases h
    · cases h
theorem bag_entries {al : List (Nat × Nat)} {φ1 φ2 : List Emb} (hr : Ren n0 al φ1 φ2) : ∀ {d : List (AV × AV)} {es : List EN} {us : List MapEntry}, Z2 (fun p q => VR n0 al p.1 q.1 ∧ VR n0 al p.2 q.2) d (es.map fun x => (x.1, x.2.1)) → Entries φ2 es us →
    ∃ es', (es'.map fun x => (x.1, x.2.1)) = d ∧ (es'.map fun x => x.2.2) = (es.map fun x => x.2.2) ∧ Entries φ1 es' us
  | [], [], us, _, he => ⟨[], rfl, rfl, by simpa [Entries] using he⟩
  | [], _ :: _, _, h, _ => h.elim
  | _ :: _, [], _, h, _ => h.elim
  | (k, v) :: d, x :: es, us, h, he => by
    simp only [Entries, entryOf] at he
    obtain ⟨y, ys, rfl, ⟨g1, g2, g3⟩, g4⟩ := he
    obtain ⟨⟨h1, h2⟩, h3⟩ := h
    obtain ⟨es', h4, hb, h5⟩ := bag_entries hr h3 g4
    refine ⟨(k, v, x.2.2) :: es', by rw [List.map_cons, h4], by rw [List.map_cons, List.map_cons, hb], ?_⟩
    simp only [Entries, entryOf]
    exact ⟨y, ys, rfl, ⟨h1 φ1 φ2 _ hr g1, h2 φ1 φ2 _ hr g2, g3⟩, h5⟩

/-- The one object stands wherever the other does. -/
def ORr (n0 : Nat) (al : List (Nat × Nat)) : Option Obj → Option Obj → Prop
  | none, none => True
  | some x, some y => x.isOwn = y.isOwn ∧ ∀ φ1 φ2 e w, Ren n0 al φ1 φ2 → O φ2 e w y → O φ1 e w x
  | _, _ => False
theorem ORr.mono {al al' : List (Nat × Nat)} (hs : ∀ p ∈ al, p ∈ al') : ∀ {a b : Option Obj}, ORr n0 al a b → ORr n0 al' a b
  | none, none, _ => trivial
  | some _, some _, h => ⟨h.1, fun φ1 φ2 e w hr ho => h.2 φ1 φ2 e w (hr.mono hs) ho⟩
  | none, some _, h => h.elim
  | some _, none, h => h.elim
theorem mO_run {a b : Option Obj} {s s' : Sg} (h : mO n0 a b s = some s') : Stp n0 s s' ∧ ORr n0 s'.al a b := by
  unfold mO at h
  split at h
  · cases h; exact ⟨Stp.refl _ _, trivial⟩
  · rename_i cs k ds k'
    cases hb : decide (k = k') with
    | false => rw [hb] at h; cases h
    | true =>
      rw [hb, cond_true] at h
      have hk : k = k' := of_decide_eq_true hb
      subst hk
      have hl := mVs_length h
      obtain ⟨h1, h2⟩ := mVs_run cs ds s s' h
      refine ⟨h1, by cases k <;> rfl, fun φ1 φ2 e w hr ho => ?_⟩
      obtain ⟨C, t, fr, g1, g2, g3, g4, g5, g6⟩ := ho
      refine ⟨C, t, fr, g1, g2, by omega, by rw [hl]; exact g4, g5, ?_⟩
      rw [hl]
      exact h2 φ1 φ2 _ hr g6
  · rename_i es c es' c'
    cases hb : Nat.beq c c' with
    | false => rw [hb] at h; cases h
    | true =>
      rw [hb, cond_true] at h
      have := Nat.eq_of_beq_eq_true hb
      subst this
      obtain ⟨h1, h2⟩ := mEs_run es es' s s' h
      refine ⟨h1, rfl, fun φ1 φ2 e w hr ho => ?_⟩
      obtain ⟨ES, g1, g2⟩ := ho
      exact ⟨ES, g1, h2 φ1 φ2 _ hr g2⟩
  · rename_i es c es' c'
    cases hb : Nat.beq c c' with
    | false => rw [hb] at h; cases h
    | true =>
      rw [hb, cond_true] at h
      have := Nat.eq_of_beq_eq_true hb
      subst this
      obtain ⟨h1, h2⟩ := mBs_run es es' s s' h
      refine ⟨h1, rfl, fun φ1 φ2 e w hr ho => ?_⟩
      obtain ⟨ES, es2, g1, g2, g3, gb⟩ := ho
      obtain ⟨d, h3, h4⟩ := h2.perm g3
      obtain ⟨es1, h5, hb, h6⟩ := bag_entries hr h3 g2
      exact ⟨ES, es1, g1, h6, by rw [h5]; exact h4, by rw [births_iff] at gb ⊢; rw [hb]; exact gb⟩
  · rename_i c b x c' b' x'
    cases hb : Nat.beq c c' && (x == x') with
    | false => rw [hb] at h; cases h
    | true =>
      rw [hb, cond_true] at h
      rw [Bool.and_eq_true] at hb
      have hc := Nat.eq_of_beq_eq_true hb.1
      have hx : x = x' := by simpa using hb.2
      subst hc hx
      obtain ⟨h1, h2⟩ := mVs_run b b' s s' h
      refine ⟨h1, rfl, fun φ1 φ2 e w hr ho => ?_⟩
      obtain ⟨B, p, r, g1, g2⟩ := ho
      exact ⟨B, p, r, g1, h2 φ1 φ2 _ hr g2⟩
  · rename_i m a b k c m' a' b' k' c'
    cases hb : Nat.beq a a' && decide (b = b') && Nat.beq c c' && (k.isNone || decide (k = k')) with
    | false => rw [hb] at h; cases h
    | true =>
      rw [hb, cond_true] at h
      rw [Bool.and_eq_true, Bool.and_eq_true, Bool.and_eq_true] at hb
      have ha := Nat.eq_of_beq_eq_true hb.1.1.1
      have hbb : b = b' := of_decide_eq_true hb.1.1.2
      have hc := Nat.eq_of_beq_eq_true hb.1.2
      have hk : ∀ x, k = some x → k' = some x := by
        intro x hx
        have h3 := hb.2
        rw [hx] at h3
        simp at h3
        exact h3.symm
      subst ha hbb hc
      obtain ⟨h1, h2⟩ := mOId_run h
      refine ⟨h1, rfl, fun φ1 φ2 e w hr ho => ?_⟩
      obtain ⟨q, S, g0, g1, gS, gk, g2⟩ := ho
      refine ⟨q, S, g0, g1, gS, fun x hx => gk x (hk x hx), ?_⟩
      rcases h2 with ⟨rfl, rfl⟩ | ⟨x, y, rfl, rfl, h2⟩
      · exact g2
      · obtain ⟨em, g3, g4⟩ := g2
        exact ⟨em, h2 φ1 φ2 em hr g3, g4⟩
  · rename_i a b a' b'
    cases hb : decide (a = a') && Nat.beq b b' with
    | false => rw [hb] at h; cases h
    | true =>
      rw [hb] at h; cases h
      rw [Bool.and_eq_true] at hb
      have ha : a = a' := of_decide_eq_true hb.1
      have hc := Nat.eq_of_beq_eq_true hb.2
      subst ha hc
      exact ⟨Stp.refl _ _, rfl, fun φ1 φ2 e w hr ho => ho⟩
  · cases h; exact ⟨Stp.refl _ _, rfl, fun φ1 φ2 e w hr ho => ho⟩
  · cases h

theorem mGo_run {h1 h2 : Heap} : ∀ (f : Nat) (s s' : Sg), mGo n0 h1 h2 f s = some s' → (∀ p ∈ s.al, p ∈ s'.al) ∧ (Inv n0 s → Inv n0 s') ∧ ∀ p ∈ s'.al, (p ∈ s.al ∧ p ∉ s.todo) ∨ ORr n0 s'.al (h1.get p.1) (h2.get p.2)
  | 0, s, s', h => by simp [mGo] at h
  | f + 1, s, s', h => by
    simp only [mGo] at h
    split at h
    · rename_i ht
      cases h
      exact ⟨fun _ hp => hp, id, fun p hp => .inl ⟨hp, by rw [ht]; simp⟩⟩
    · rename_i a b t ht
      split at h
      · rename_i s1 hs1
        obtain ⟨g1, g2⟩ := mO_run hs1
        obtain ⟨g3, g4, g5⟩ := mGo_run f s1 s' h
        refine ⟨fun p hp => g3 p (g1.al p hp), fun hi => g4 (g1.inv ⟨hi.fn, hi.inj, hi.new⟩), fun p hp => ?_⟩
        rcases g5 p hp with ⟨h3, h4⟩ | h3
        · rcases g1.td p h3 with h5 | h5
          · by_cases hpe : p = (a, b)
            · subst hpe; exact .inr (g2.mono g3)
            · refine .inl ⟨h5, ?_⟩
              rw [ht]
              intro hm
              rcases List.mem_cons.1 hm with h6 | h6
              · exact hpe h6
              · exact h4 (g1.tdm p h6)
          · exact absurd h5 h4
        · exact .inr h3
      · cases h
theorem sameLS_run : ∀ {st : LoopState} {p : Option Code} {st' : LoopState} {p' : Option Code}, sameLS st p st' p' = true → st = st' ∧ p = p' := by
  intro st p st' p' h
  unfold sameLS at h
  split at h
  all_goals first
    | exact ⟨rfl, rfl⟩
    | (rw [Nat.eq_of_beq_eq_true h]; exact ⟨rfl, rfl⟩)
    | cases h
/-- Two records of ranges over functions, in the same state. -/
def LRr (a b : Option Obj) : Prop := ∃ st p n e ps x y d n' e' ps' x' y' d', a = some (.loop st p n e ps x y d) ∧ b = some (.loop st p n' e' ps' x' y' d')
theorem mOO_run {a b : Option Obj} {s s' : Sg} (h : mOO n0 a b s = some s') : Stp n0 s s' ∧ (ORr n0 s'.al a b ∨ LRr a b) := by
  unfold mOO at h
  split at h
  · rename_i hls hls2
    cases hb : sameLS _ _ _ _ with
    | false => rw [hb] at h; cases h
    | true =>
      rw [hb] at h; cases h
      obtain ⟨rfl, rfl⟩ := sameLS_run hb
      exact ⟨Stp.refl _ _, .inr ⟨_, _, _, _, _, _, _, _, _, _, _, _, _, _, rfl, rfl⟩⟩
  · have := mO_run h
    exact ⟨this.1, .inl this.2⟩
theorem mOld_run {h1 h2 : Heap} : ∀ (l : List Nat) (s s' : Sg), mOld n0 h1 h2 l s = some s' → Stp n0 s s' ∧ ∀ i ∈ l, i < n0 → ORr n0 s'.al (h1.get i) (h2.get i) ∨ LRr (h1.get i) (h2.get i)
  | [], s, s', h => by simp only [mOld] at h; cases h; exact ⟨Stp.refl _ _, by simp⟩
  | i :: is, s, s', h => by
    simp only [mOld] at h
    cases hb : Nat.blt i n0 with
    | true =>
      rw [hb, cond_true] at h
      split at h
      · rename_i s1 hs1
        obtain ⟨g1, g2⟩ := mOO_run hs1
        obtain ⟨g3, g4⟩ := mOld_run is s1 s' h
        refine ⟨g1.trans g3, fun j hj hlt => ?_⟩
        rcases List.mem_cons.1 hj with rfl | hj
        · exact g2.imp (fun g => g.mono g3.al) id
        · exact g4 j hj hlt
      · cases h
    | false =>
      rw [hb, cond_false] at h
      obtain ⟨g3, g4⟩ := mOld_run is s s' h
      refine ⟨g3, fun j hj hlt => ?_⟩
      rcases List.mem_cons.1 hj with rfl | hj
      · rw [(blt_iff _ _).2 hlt] at hb; cases hb
      · exact g4 j hj hlt
theorem belowL_all {n : Nat} : ∀ {l : List (Nat × Nat)}, belowL n l = true → ∀ p ∈ l, p.1 < n
  | [], _, p, hp => by cases hp
  | q :: l, h, p, hp => by
    change (Bool.rec false (belowL n l) (Nat.blt q.1 n) : Bool) = true at h
    cases hb : Nat.blt q.1 n with
    | false => rw [hb] at h; cases h
    | true =>
      rw [hb] at h
      rcases List.mem_cons.1 hp with rfl | hp
      · exact (blt_iff _ _).1 hb
      · exact belowL_all h p hp

structure Mrgd (n0 : Nat) (al : List (Nat × Nat)) (vs1 : List AV) (h1 : Heap) (vs2 : List AV) (h2 : Heap) : Prop where
  fn : ∀ a b c, (a, b) ∈ al → (a, c) ∈ al → b = c
  inj : ∀ a b c, (a, c) ∈ al → (b, c) ∈ al → a = b
  new : ∀ a b, (a, b) ∈ al → n0 ≤ a ∧ n0 ≤ b
  lt : ∀ a b, (a, b) ∈ al → a < h1.next
  vals : VsR n0 al vs1 vs2
  obj : ∀ a b, (a, b) ∈ al → ORr n0 al (h1.get a) (h2.get b)
  old : ∀ i, i < n0 → (i ∈ h1.log ∨ i ∈ h2.log) → ORr n0 al (h1.get i) (h2.get i) ∨ LRr (h1.get i) (h2.get i)
theorem mrg_run {vs1 vs2 : List AV} {h1 h2 : Heap} {s : Sg} (h : mrg n0 vs1 h1 vs2 h2 = some s) : Mrgd n0 s.al vs1 h1 vs2 h2 := by
  unfold mrg at h
  split at h
  · rename_i s1 hs1
    split at h
    · rename_i s2 hs2
      split at h
      · rename_i s3 hs3
        split at h
        · rename_i s4 hs4
          cases hb : belowL h1.next s4.al with
          | false => rw [hb] at h; cases h
          | true =>
            rw [hb] at h; cases h
            obtain ⟨a1, a2⟩ := mVs_run _ _ _ _ hs1
            obtain ⟨b1, b2⟩ := mOld_run _ _ _ hs2
            obtain ⟨c1, c2⟩ := mOld_run _ _ _ hs3
            obtain ⟨d1, d2, d3⟩ := mGo_run _ _ _ hs4
            have st := (a1.trans b1).trans c1
            have hi : Inv n0 ⟨[], []⟩ := by
              constructor
              · intro _ _ _ h; cases h
              · intro _ _ _ h; cases h
              · intro _ _ h; cases h
            have hi4 := d2 (st.inv hi)
            refine ⟨hi4.fn, hi4.inj, hi4.new, fun a b hm => belowL_all hb _ hm, a2.mono (fun p hp => d1 p (c1.al p (b1.al p hp))), fun a b hm => ?_, fun i hlt hl => ?_⟩
            · rcases d3 _ hm with ⟨h5, h6⟩ | h5
              · rcases st.td _ h5 with h7 | h7
                · cases h7
                · exact absurd h7 h6
              · exact h5
            · rcases hl with hl | hl
              · exact (b2 i hl hlt).imp (fun g => g.mono (fun p hp => d1 p (c1.al p hp))) id
              · exact (c2 i hl hlt).imp (fun g => g.mono d1) id
        · cases h
      · cases h
    · cases h
  · cases h
end

/-! ### What is known of old things stays, wherever the new ones lie -/

mutual
theorem V.trans {φ φ1 φ2 : List Emb} (h : ∀ i, i < φ.length → ∀ e, φ2[i]? = some e → φ1[i]? = some e) : ∀ (a : AV) (u v : Value), V φ a u → V φ2 a v → V φ1 a v
  | .unk, _, _, _, _ => by simp [V]
  | .bool _, _, _, _, hv => by simpa [V] using hv
  | .int _ _, _, _, _, hv => by simpa [V] using hv
  | .str _, _, _, _, hv => by simpa [V] using hv
  | .ptr none, _, _, _, hv => by simpa [V] using hv
  | .ptr (some l), _, _, hu, hv => by
    simp only [V] at hu hv ⊢
    obtain ⟨e0, he0, _⟩ := hu
    obtain ⟨e, he, hv⟩ := hv
    exact ⟨e, h _ (List.getElem?_eq_some_iff.1 he0).1 e he, hv⟩
  | .slice none _ c, _, _, _, hv => by cases c <;> simp [V] at hv ⊢ <;> exact hv
  | .slice (some l) n c, _, _, hu, hv => by
    simp only [V] at hu hv ⊢
    obtain ⟨e0, _, _, he0, _⟩ := hu
    obtain ⟨e, cap, a, he, hv⟩ := hv
    exact ⟨e, cap, a, h _ (List.getElem?_eq_some_iff.1 he0).1 e he, hv⟩
  | .map none, _, _, _, hv => by simpa [V] using hv
  | .map (some i), _, _, hu, hv => by
    simp only [V] at hu hv ⊢
    obtain ⟨e0, he0, _⟩ := hu
    obtain ⟨e, he, hv⟩ := hv
    exact ⟨e, h _ (List.getElem?_eq_some_iff.1 he0).1 e he, hv⟩
  | .chan none, _, _, _, hv => by simpa [V] using hv
  | .chan (some i), _, _, hu, hv => by
    simp only [V] at hu hv ⊢
    obtain ⟨e0, he0, _⟩ := hu
    obtain ⟨e, he, hv⟩ := hv
    exact ⟨e, h _ (List.getElem?_eq_some_iff.1 he0).1 e he, hv⟩
  | .func fn a b, _, _, hu, hv => by
    simp only [V] at hu hv ⊢
    obtain ⟨x0, y0, _, ha0, hb0⟩ := hu
    obtain ⟨x, y, he, ha, hb⟩ := hv
    exact ⟨x, y, he, Vs.trans h a _ _ ha0 ha, Vs.trans h b _ _ hb0 hb⟩
  | .nilFunc, _, _, _, hv => by simpa [V] using hv
  | .iface t x, _, _, hu, hv => by
    simp only [V] at hu hv ⊢
    obtain ⟨y0, _, hu⟩ := hu
    obtain ⟨y, he, hv⟩ := hv
    exact ⟨y, he, V.trans h x _ _ hu hv⟩
  | .nilIface, _, _, _, hv => by simpa [V] using hv
  | .agg cs, _, _, hu, hv => by
    simp only [V] at hu hv ⊢
    obtain ⟨x0, _, hu⟩ := hu
    obtain ⟨x, he, hv⟩ := hv
    exact ⟨x, he, Vs.trans h cs _ _ hu hv⟩
  | .tuple cs, _, _, hu, hv => by
    simp only [V] at hu hv ⊢
    obtain ⟨x0, _, hu⟩ := hu
    obtain ⟨x, he, hv⟩ := hv
    exact ⟨x, he, Vs.trans h cs _ _ hu hv⟩
  | .yield k, _, _, hu, hv => by
    simp only [V] at hu hv ⊢
    obtain ⟨e0, he0, _⟩ := hu
    obtain ⟨e, he, hv⟩ := hv
    exact ⟨e, h _ (List.getElem?_eq_some_iff.1 he0).1 e he, hv⟩
theorem Vs.trans {φ φ1 φ2 : List Emb} (h : ∀ i, i < φ.length → ∀ e, φ2[i]? = some e → φ1[i]? = some e) : ∀ (as : List AV) (us vs : List Value), Vs φ as us → Vs φ2 as vs → Vs φ1 as vs
  | [], _, _, _, hv => by simpa [Vs] using hv
  | a :: as, _, _, hu, hv => by
    simp only [Vs] at hu hv ⊢
    obtain ⟨y0, ys0, _, g1, g2⟩ := hu
    obtain ⟨y, ys, he, h1, h2⟩ := hv
    exact ⟨y, ys, he, V.trans h a _ _ g1 h1, Vs.trans h as _ _ g2 h2⟩
end
theorem Entries.trans {φ φ1 φ2 : List Emb} (h : ∀ i, i < φ.length → ∀ e, φ2[i]? = some e → φ1[i]? = some e) : ∀ (as : List EN) (us vs : List MapEntry), Entries φ as us → Entries φ2 as vs → Entries φ1 as vs
  | [], _, _, _, hv => by simpa [Entries] using hv
  | a :: as, _, _, hu, hv => by
    simp only [Entries, entryOf] at hu hv ⊢
    obtain ⟨y0, ys0, _, ⟨g1, g2, _⟩, g4⟩ := hu
    obtain ⟨y, ys, he, ⟨h1, h2, h3⟩, h4⟩ := hv
    exact ⟨y, ys, he, ⟨V.trans h _ _ _ g1 h1, V.trans h _ _ _ g2 h2, h3⟩, Entries.trans h as _ _ g4 h4⟩
theorem Entries.memV {φ : List Emb} : ∀ {as : List EN} {us : List MapEntry}, Entries φ as us → ∀ x ∈ as, (∃ u, V φ x.1 u) ∧ ∃ u, V φ x.2.1 u
  | [], _, _, x, hx => by cases hx
  | a :: as, _, he, x, hx => by
    simp only [Entries, entryOf] at he
    obtain ⟨y, ys, _, ⟨g1, g2, _⟩, g4⟩ := he
    rcases List.mem_cons.1 hx with rfl | hx
    · exact ⟨⟨_, g1⟩, _, g2⟩
    · exact Entries.memV g4 x hx
theorem Entries.transM {φ φ1 φ2 : List Emb} (h : ∀ i, i < φ.length → ∀ e, φ2[i]? = some e → φ1[i]? = some e) : ∀ (as : List EN) (vs : List MapEntry), (∀ x ∈ as, (∃ u, V φ x.1 u) ∧ ∃ u, V φ x.2.1 u) → Entries φ2 as vs → Entries φ1 as vs
  | [], _, _, hv => by simpa [Entries] using hv
  | a :: as, _, hu, hv => by
    simp only [Entries, entryOf] at hv ⊢
    obtain ⟨⟨u1, g1⟩, u2, g2⟩ := hu a List.mem_cons_self
    obtain ⟨y, ys, he, ⟨h1, h2, h3⟩, h4⟩ := hv
    exact ⟨y, ys, he, ⟨V.trans h _ _ _ g1 h1, V.trans h _ _ _ g2 h2, h3⟩, Entries.transM h as _ (fun x hx => hu x (List.mem_cons_of_mem _ hx)) h4⟩
theorem O.trans {φ φ1 φ2 : List Emb} (h : ∀ i, i < φ.length → ∀ e, φ2[i]? = some e → φ1[i]? = some e) {e0 e : Emb} {w0 w : World} : ∀ {o : Obj}, O φ e0 w0 o → O φ2 e w o → O φ1 e w o
  | .cells cs k, h0, ho => by
    obtain ⟨_, _, _, _, _, _, _, _, g⟩ := h0
    obtain ⟨C, t, fr, h1, h2, h3, h4, h5, h6⟩ := ho
    exact ⟨C, t, fr, h1, h2, h3, h4, h5, Vs.trans h _ _ _ g h6⟩
  | .map es c, h0, ho => by
    obtain ⟨_, _, g⟩ := h0
    obtain ⟨ES, h1, h2⟩ := ho
    exact ⟨ES, h1, Entries.trans h _ _ _ g h2⟩
  | .bag kvs c, h0, ho => by
    obtain ⟨_, es0, _, g, p0, _⟩ := h0
    obtain ⟨ES, es, h1, h2, p, pb⟩ := ho
    refine ⟨ES, es, h1, Entries.transM h es _ (fun x hx => ?_) h2, p, pb⟩
    have hm : (x.1, x.2.1) ∈ es0.map fun x => (x.1, x.2.1) := p0.symm.subset (p.subset (List.mem_map.2 ⟨x, hx, rfl⟩))
    obtain ⟨x0, hx0, he⟩ := List.mem_map.1 hm
    have hm0 := Entries.memV g x0 hx0
    cases x0 with | mk k0 r0 => cases x with | mk k r => simp only [Prod.mk.injEq] at he; rw [he.1, he.2] at hm0; exact hm0
  | .chan c b cl, h0, ho => by
    obtain ⟨_, _, _, _, g⟩ := h0
    obtain ⟨B, s, r, h1, h2⟩ := ho
    exact ⟨B, s, r, h1, Vs.trans h _ _ _ g h2⟩
  | .iter m a b k c, h0, ho => by
    obtain ⟨_, _, _, _, _, _, g⟩ := h0
    obtain ⟨m', S, k0, h1, hs, hk, h2⟩ := ho
    refine ⟨m', S, k0, h1, hs, hk, ?_⟩
    cases m with
    | none => exact h2
    | some i =>
      obtain ⟨em0, g3, _⟩ := g
      obtain ⟨em, h3, h4⟩ := h2
      exact ⟨em, h _ (List.getElem?_eq_some_iff.1 g3).1 em h3, h4⟩
  | .siter a b, _, ho => ho
  | .loop a b c d f g i j, h0, ho => by
    obtain ⟨_, T0, ed0, _, g2, g3, g4⟩ := h0
    obtain ⟨fn, T, ed, h1, h2, h3, h4⟩ := ho
    refine ⟨fn, T, ed, h1, h2, ⟨h3.1, fun t ht => ?_⟩, h _ (List.getElem?_eq_some_iff.1 g4).1 ed h4⟩
    exact V.trans h _ _ _ (g3.2 t (by omega)) (h3.2 t ht)
  | .defs, _, ho => ho

theorem O.transL {φ φ1 φ2 : List Emb} (h : ∀ i, i < φ.length → ∀ e, φ2[i]? = some e → φ1[i]? = some e) {e0 e : Emb} {w0 w : World} {a a' : LoopState} {b b' : Option Code} {c : Nat} {d : Env} {f : Array Tmp} {g i : Code} {j : Nat} :
    O φ e0 w0 (.loop a' b' c d f g i j) → O φ2 e w (.loop a b c d f g i j) → O φ1 e w (.loop a b c d f g i j) := fun h0 ho => by
  obtain ⟨_, T0, ed0, _, g2, g3, g4⟩ := h0
  obtain ⟨fn, T, ed, h1, h2, h3, h4⟩ := ho
  refine ⟨fn, T, ed, h1, h2, ⟨h3.1, fun t ht => ?_⟩, h _ (List.getElem?_eq_some_iff.1 g4).1 ed h4⟩
  exact V.trans h _ _ _ (g3.2 t (by omega)) (h3.2 t ht)
theorem stat_loop {o : Obj} {st : LoopState} {p : Option Code} {n : Nat} {e : Env} {ps : Array Tmp} {x y : Code} {d : Nat} (h : o.stat = (Obj.loop st p n e ps x y d).stat) : ∃ st' p', o = .loop st' p' n e ps x y d := by
  cases o <;> simp only [Obj.stat] at h <;> first | (cases h; done) | skip
  rename_i st' p' _ _ _ _ _ _
  cases h
  exact ⟨st', p', rfl⟩

/-! ### The places, told anew -/

def rho (n0 n1 : Nat) (al : List (Nat × Nat)) (φ2 : List Emb) : List Emb := (List.range n1).map fun i => if i < n0 then φ2.getD i ⟨0, 0, 0⟩ else match lookL al i with | some b => φ2.getD b ⟨0, 0, 0⟩ | none => ⟨0, 0, 0⟩
theorem sweep_get (al : List (Nat × Nat)) : ∀ (f i : Nat) (h : Heap) (j : Nat), (sweep al f i h).next = h.next ∧ (sweep al f i h).log = h.log ∧ ((sweep al f i h).get j = if i ≤ j ∧ j < i + f ∧ lookL al j = none then none else h.get j)
  | 0, i, h, j => ⟨rfl, rfl, by rw [if_neg (by omega)]; rfl⟩
  | f + 1, i, h, j => by
    simp only [sweep]
    split
    · rename_i hg
      obtain ⟨h1, h2, h3⟩ := sweep_get al f (i + 1) h j
      refine ⟨h1, h2, ?_⟩
      rw [h3]
      by_cases hij : j = i
      · subst hij
        rw [if_neg (by omega), hg]; split <;> rfl
      · by_cases hc : i + 1 ≤ j ∧ j < i + 1 + f ∧ lookL al j = none
        · rw [if_pos hc, if_pos ⟨by omega, by omega, hc.2.2⟩]
        · rw [if_neg hc, if_neg (fun hh => hc ⟨by omega, by omega, hh.2.2⟩)]
    · split
      · rename_i c hc
        obtain ⟨h1, h2, h3⟩ := sweep_get al f (i + 1) h j
        refine ⟨h1, h2, ?_⟩
        rw [h3]
        by_cases hij : j = i
        · subst hij
          rw [if_neg (by omega), if_neg (by rw [hc]; simp)]
        · by_cases hcc : i + 1 ≤ j ∧ j < i + 1 + f ∧ lookL al j = none
          · rw [if_pos hcc, if_pos ⟨by omega, by omega, hcc.2.2⟩]
          · rw [if_neg hcc, if_neg (fun hh => hcc ⟨by omega, by omega, hh.2.2⟩)]
      · rename_i hc
        obtain ⟨h1, h2, h3⟩ := sweep_get al f (i + 1) ⟨h.next, h.tr.put i none, h.log⟩ j
        refine ⟨h1, h2, ?_⟩
        rw [h3]
        have hput : ∀ k, (⟨h.next, h.tr.put i none, h.log⟩ : Heap).get k = if i = k then none else h.get k := by
          intro k
          by_cases hk : i = k
          · subst hk; rw [if_pos rfl]; exact T16.get_put _ _ _
          · rw [if_neg hk]; exact T16.get_put_ne _ hk _
        rw [hput]
        by_cases hij : i = j
        · subst hij
          rw [if_neg (by omega), if_pos rfl, if_pos ⟨Nat.le_refl _, by omega, hc⟩]
        · rw [if_neg hij]
          by_cases hcc : i + 1 ≤ j ∧ j < i + 1 + f ∧ lookL al j = none
          · rw [if_pos hcc, if_pos ⟨by omega, by omega, hcc.2.2⟩]
          · rw [if_neg hcc, if_neg (fun hh => hcc ⟨by omega, by omega, hh.2.2⟩)]
theorem tidy_less (n0 : Nat) (s : Sg) (h : Heap) : Less h (tidy n0 s h) := by
  refine ⟨(sweep_get s.al (Nat.sub h.next n0) n0 h 0).1, fun i o hi => ?_⟩
  have := (sweep_get s.al (Nat.sub h.next n0) n0 h i).2.2
  unfold tidy at hi
  rw [this] at hi
  split at hi
  · cases hi
  · exact hi
theorem tidy_old {n0 : Nat} {s : Sg} {h : Heap} {i : Nat} (hi : i < n0) : (tidy n0 s h).get i = h.get i := by
  unfold tidy
  rw [(sweep_get s.al (Nat.sub h.next n0) n0 h i).2.2, if_neg (by omega)]
theorem tidy_new {n0 : Nat} {s : Sg} {h : Heap} {i : Nat} {o : Obj} (hn : n0 ≤ i) (hw : Wfh h) (hi : (tidy n0 s h).get i = some o) : h.get i = some o ∧ ∃ b, (i, b) ∈ s.al := by
  have hg := (tidy_less n0 s h).2 i o hi
  refine ⟨hg, ?_⟩
  have hlt : i < h.next := by
    rcases Nat.lt_or_ge i h.next with h1 | h1
    · exact h1
    · rw [hw i h1] at hg; cases hg
  unfold tidy at hi
  rw [(sweep_get s.al (Nat.sub h.next n0) n0 h i).2.2] at hi
  cases hl : lookL s.al i with
  | some b => exact ⟨b, lookL_some hl⟩
  | none =>
    rw [if_pos ⟨hn, by show i < n0 + (h.next - n0); omega, hl⟩] at hi
    cases hi
theorem tidy_next (n0 : Nat) (s : Sg) (h : Heap) : (tidy n0 s h).next = h.next := (tidy_less n0 s h).1
theorem tidy_log (n0 : Nat) (s : Sg) (h : Heap) : (tidy n0 s h).log = h.log := (sweep_get s.al (Nat.sub h.next n0) n0 h 0).2.1

/-- Old things that were not written are as they were. -/
def Logged (h a : Heap) : Prop := h.next ≤ a.next ∧ (∀ i, i < h.next → i ∉ a.log → a.get i = h.get i) ∧ ∀ i, i < h.next → Stay (h.get i) (a.get i)
theorem up_of_get {φ φ1 : List Emb} (h : ∀ i, i < φ.length → φ1[i]? = φ[i]?) : Up φ φ1 := by
  refine ⟨φ1.drop φ.length, ?_⟩
  apply List.ext_getElem?
  intro i
  by_cases hi : i < φ.length
  · rw [List.getElem?_append_left hi, h i hi]
  · rw [List.getElem?_append_right (by omega), List.getElem?_drop]
    congr 1; omega
theorem merge_run {P : Program} {φ φ2 : List Emb} {h a h2 : Heap} {w0 w w2 : World} {vs1 vs2 : List AV} {s : Sg} (hm : mrg h.next vs1 a vs2 h2 = some s) (hR0 : R P φ h w0 w) (hu : Up φ φ2) (hR2 : R P φ2 h2 w0 w2) (hla : Logged h a) (hl2 : Logged h h2) (hwa : Wfh a) :
    ∃ φ1, Up φ φ1 ∧ R P φ1 (tidy h.next s a) w0 w2 ∧ ∀ us, Vs φ2 vs2 us → Vs φ1 vs1 us := by
  have M := mrg_run hm
  have hlook : ∀ i b, (i, b) ∈ s.al → lookL s.al i = some b := by
    intro i b hib
    cases hl : lookL s.al i with
    | none => exact absurd hib (lookL_none hl b)
    | some c => rw [M.fn i c b (lookL_some hl) hib]
  have hn01 := hla.1
  have hlen : φ.length = h.next := hR0.len
  have hget : ∀ i, (rho h.next a.next s.al φ2)[i]? = if i < a.next then some (if i < h.next then φ2.getD i ⟨0, 0, 0⟩ else match lookL s.al i with | some b => φ2.getD b ⟨0, 0, 0⟩ | none => ⟨0, 0, 0⟩) else none := by
    intro i
    by_cases hi : i < a.next
    · simp [rho, hi]
    · simp [rho, hi]
  have hgd : ∀ i e, φ2[i]? = some e → φ2.getD i ⟨0, 0, 0⟩ = e := fun i e he => by simp [List.getD, he]
  have ren : Ren h.next s.al (rho h.next a.next s.al φ2) φ2 := by
    refine ⟨fun i hi e he => ?_, fun x y hxy e he => ?_⟩
    · rw [hget, if_pos (by omega), if_pos hi, hgd i e he]
    · have := M.new x y hxy
      rw [hget, if_pos (M.lt x y hxy), if_neg (by omega), hlook x y hxy]
      simp only [hgd y e he]
  have hold : ∀ i, i < h.next → (rho h.next a.next s.al φ2)[i]? = φ[i]? := by
    intro i hi
    have he : φ[i]? = some φ[i] := List.getElem?_eq_getElem (by omega)
    rw [he]
    exact ren.old i hi _ (hu.get he)
  have hup : Up φ (rho h.next a.next s.al φ2) := up_of_get fun i hi => hold i (by omega)
  have key : ∀ i o, (tidy h.next s a).get i = some o → ∃ i2 o2 e, h2.get i2 = some o2 ∧ o.isOwn = o2.isOwn ∧ φ2[i2]? = some e ∧ (rho h.next a.next s.al φ2)[i]? = some e ∧ O (rho h.next a.next s.al φ2) e w2 o ∧ (o.isOwn = true → w0.heap.size ≤ e.blk) ∧ ((i < h.next ∧ i2 = i) ∨ (h.next ≤ i ∧ (i, i2) ∈ s.al)) := by
    intro i o hi
    rcases Nat.lt_or_ge i h.next with hlt | hge
    · rw [tidy_old hlt] at hi
      by_cases hlog : i ∈ a.log ∨ i ∈ h2.log
      · have ho := M.old i hlt hlog
        rw [hi] at ho
        rcases ho with ho | ⟨st, p, n, e, ps, x, y, d, n', e', ps', x', y', d', ho1, ho2⟩
        · cases hg : h2.get i with
          | none => rw [hg] at ho; exact ho.elim
          | some o2 =>
            rw [hg] at ho
            obtain ⟨e, he, hO, hw⟩ := hR2.objs i o2 hg
            exact ⟨i, o2, e, hg, ho.1, he, ren.old i hlt e he, ho.2 _ _ e w2 ren hO, fun hh => hw (by rw [← ho.1]; exact hh), .inl ⟨hlt, rfl⟩⟩
        · cases ho1
          obtain ⟨oa, ha1, ha2⟩ := hla.2.2 i hlt _ hi
          obtain ⟨ob, hb1, hb2⟩ := hl2.2.2 i hlt _ ho2
          rw [ha1] at hb1
          cases hb1
          obtain ⟨sa, pa, rfl⟩ := stat_loop ha2
          obtain ⟨sb, pb, hab⟩ := stat_loop hb2
          cases hab
          obtain ⟨e0, he0, hO0, _⟩ := hR0.objs i _ ha1
          obtain ⟨e1, he, hO, hw⟩ := hR2.objs i _ ho2
          exact ⟨i, _, e1, ho2, rfl, he, ren.old i hlt e1 he, O.transL (fun j hj e' he' => ren.old j (by omega) e' he') hO0 hO, hw, .inl ⟨hlt, rfl⟩⟩
      · rw [not_or] at hlog
        have h3 : h.get i = some o := by rw [← hla.2.1 i hlt hlog.1]; exact hi
        have h4 : h2.get i = some o := by rw [hl2.2.1 i hlt hlog.2]; exact h3
        obtain ⟨e0, he0, hO0, _⟩ := hR0.objs i o h3
        obtain ⟨e, he, hO, hw⟩ := hR2.objs i o h4
        exact ⟨i, o, e, h4, rfl, he, ren.old i hlt e he, O.trans (fun j hj e' he' => ren.old j (by omega) e' he') hO0 hO, hw, .inl ⟨hlt, rfl⟩⟩
    · obtain ⟨h3, b, hb⟩ := tidy_new hge hwa hi
      have ho := M.obj i b hb
      rw [h3] at ho
      cases hg : h2.get b with
      | none => rw [hg] at ho; exact ho.elim
      | some o2 =>
        rw [hg] at ho
        obtain ⟨e, he, hO, hw⟩ := hR2.objs b o2 hg
        exact ⟨b, o2, e, hg, ho.1, he, ren.new i b hb e he, ho.2 _ _ e w2 ren hO, fun hh => hw (by rw [← ho.1]; exact hh), .inr ⟨hge, hb⟩⟩
  refine ⟨rho h.next a.next s.al φ2, hup, ?_, fun us hus => M.vals _ _ us ren hus⟩
  exact {
    below := hR2.below
    len := by rw [tidy_next]; simp [rho]
    objs := fun i o hi => by
      obtain ⟨i2, o2, e, _, _, _, h4, h5, h6, _⟩ := key i o hi
      exact ⟨e, h4, h5, h6⟩
    sep := fun i j oi oj ei ej hij hi hj hei hej hown => by
      obtain ⟨i2, p, e, a1, a2, a3, a4, a5, a6, a7⟩ := key i oi hi
      obtain ⟨j2, q, f, b1, b2, b3, b4, b5, b6, b7⟩ := key j oj hj
      rw [hei] at a4; cases a4
      rw [hej] at b4; cases b4
      refine hR2.sep i2 j2 p q ei ej ?_ a1 b1 a3 b3 (by rw [← a2]; exact hown)
      intro hh
      rcases a7 with ⟨c1, c2⟩ | ⟨c1, c2⟩ <;> rcases b7 with ⟨d1, d2⟩ | ⟨d1, d2⟩
      · exact hij (by omega)
      · have := (M.new j j2 d2).2; omega
      · have := (M.new i i2 c2).2; omega
      · subst hh; exact hij (M.inj i j i2 c2 d2)
    glob := fun g hg => by
      obtain ⟨n, hn⟩ := hR0.glob g hg
      exact ⟨n, hup.get hn⟩ }
end Go.Am
