/- Arguments that read as plain data lie in an abstract memory. -/
import Derived.Test.YteoekjfgihnhaaaGreatDoorHmGRF13
import GoSem.ClaimChange
set_option linter.all false
noncomputable section
namespace Go.Am
open Go.RowKit

/-- One memory goes on from another: all that is known stays known. -/
def Ext (h h' : Heap) : Prop := h.next ≤ h'.next ∧ ∀ i o, h.get i = some o → h'.get i = some o
theorem Ext.refl (h : Heap) : Ext h h := ⟨Nat.le_refl _, fun _ _ h => h⟩
theorem Ext.trans {a b c : Heap} (h : Ext a b) (h' : Ext b c) : Ext a c := ⟨Nat.le_trans h.1 h'.1, fun i o hi => h'.2 i o (h.2 i o hi)⟩

section
variable {H : Type}

mutual
/-- The abstract cells that a datum lies in. -/
def Reps (P : Program) (h : Heap) : DataW H → TypeId → List AV → Prop
  | .lit (.bool b), t, as => P.underlying t = some .bool ∧ as = [.bool b]
  | .lit (.int k n), t, as => P.underlying t = some (.int k) ∧ (Lit.int k n).wf = true ∧ as = [.int k n]
  | .lit (.string s), t, as => P.underlying t = some .string ∧ s.length ≤ maxLen ∧ as = [.str s]
  | .nil, t, as => (∃ e, P.underlying t = some (.slice e)) ∧ as = [.slice none 0 (.exact 0)]
  | .slice elems _, t, as => ∃ e i cs, P.underlying t = some (.slice e) ∧ as = [.slice (some ⟨i, 0⟩) elems.length .dim] ∧ elems.length ≤ maxLen ∧ (elems ≠ [] → h.get i = some (.cells cs .ro)) ∧ RepsRow P h elems e cs
  | .agg parts, t, as => (∃ fs, P.underlying t = some (.struct fs) ∧ RepsFields P h parts (fs.toList.map (·.type)) as) ∨ (∃ n e, P.underlying t = some (.array n e) ∧ parts.length = n ∧ RepsRow P h parts e as)
  | _, _, _ => False
def RepsRow (P : Program) (h : Heap) : List (DataW H) → TypeId → List AV → Prop
  | [], _, as => as = []
  | d :: ds, e, as => ∃ x y, as = x ++ y ∧ x.length = P.cellsOf e ∧ Reps P h d e x ∧ RepsRow P h ds e y
def RepsFields (P : Program) (h : Heap) : List (DataW H) → List TypeId → List AV → Prop
  | [], ts, as => ts = [] ∧ as = []
  | d :: ds, ts, as => ∃ t ts' x y, ts = t :: ts' ∧ as = x ++ y ∧ x.length = P.cellsOf t ∧ Reps P h d t x ∧ RepsFields P h ds ts' y
end

mutual
theorem Reps.ext {P : Program} {h h' : Heap} (hx : Ext h h') : ∀ (d : DataW H) (t : TypeId) (as : List AV), Reps P h d t as → Reps P h' d t as
  | .lit (.bool b), t, as, hr => by simpa [Reps] using hr
  | .lit (.int k n), t, as, hr => by simpa [Reps] using hr
  | .lit (.string s), t, as, hr => by simpa [Reps] using hr
  | .lit (.float k b), t, as, hr => by simp [Reps] at hr
  | .nil, t, as, hr => by simpa [Reps] using hr
  | .slice elems sp, t, as, hr => by
    simp only [Reps] at hr ⊢
    obtain ⟨e, i, cs, h1, h2, h3, h4, h5⟩ := hr
    exact ⟨e, i, cs, h1, h2, h3, fun hne => hx.2 _ _ (h4 hne), RepsRow.ext hx elems e cs h5⟩
  | .agg parts, t, as, hr => by
    simp only [Reps] at hr ⊢
    rcases hr with ⟨fs, h1, h2⟩ | ⟨n, e, h1, h2, h3⟩
    · exact .inl ⟨fs, h1, RepsFields.ext hx parts _ as h2⟩
    · exact .inr ⟨n, e, h1, h2, RepsRow.ext hx parts e as h3⟩
  | .ptr d, t, as, hr => by simp [Reps] at hr
  | .iface u d, t, as, hr => by simp [Reps] at hr
  | .map es, t, as, hr => by simp [Reps] at hr
  | .held x, t, as, hr => by simp [Reps] at hr
theorem RepsRow.ext {P : Program} {h h' : Heap} (hx : Ext h h') : ∀ (ds : List (DataW H)) (e : TypeId) (as : List AV), RepsRow P h ds e as → RepsRow P h' ds e as
  | [], e, as, hr => by simpa [RepsRow] using hr
  | d :: ds, e, as, hr => by
    simp only [RepsRow] at hr ⊢
    obtain ⟨x, y, h1, h2, h3, h4⟩ := hr
    exact ⟨x, y, h1, h2, Reps.ext hx d e x h3, RepsRow.ext hx ds e y h4⟩
theorem RepsFields.ext {P : Program} {h h' : Heap} (hx : Ext h h') : ∀ (ds : List (DataW H)) (ts : List TypeId) (as : List AV), RepsFields P h ds ts as → RepsFields P h' ds ts as
  | [], ts, as, hr => by simpa [RepsFields] using hr
  | d :: ds, ts, as, hr => by
    simp only [RepsFields] at hr ⊢
    obtain ⟨t, ts', x, y, h0, h1, h2, h3, h4⟩ := hr
    exact ⟨t, ts', x, y, h0, h1, h2, Reps.ext hx d t x h3, RepsFields.ext hx ds ts' y h4⟩
end

theorem RepsRow.snoc {P : Program} {h : Heap} {e : TypeId} {d : DataW H} {bs : List AV} (hb : bs.length = P.cellsOf e) (hd : Reps P h d e bs) : ∀ (ds : List (DataW H)) (as : List AV), RepsRow P h ds e as → RepsRow P h (ds ++ [d]) e (as ++ bs)
  | [], as, hr => by
    simp only [RepsRow] at hr
    subst hr
    simp only [List.nil_append, RepsRow]
    exact ⟨bs, [], by simp, hb, hd, rfl⟩
  | x :: ds, as, hr => by
    simp only [RepsRow] at hr
    obtain ⟨u, v, rfl, h2, h3, h4⟩ := hr
    simp only [List.cons_append, RepsRow]
    exact ⟨u, v ++ bs, by simp, h2, h3, RepsRow.snoc hb hd ds v h4⟩

/-- The offsets are what the sizes make them. -/
def contig (P : Program) : List Field → Nat → Option Nat
  | [], o => some o
  | f :: fs, o => bif Nat.beq f.offset o then contig P fs (o + P.cellsOf f.type) else none

/-- A type of plain data: bools, integers, strings; slices, structs, arrays of these. -/
def plainT (P : Program) : Nat → TypeId → Bool
  | 0, _ => false
  | d + 1, t =>
    match P.underlying t with
    | some .bool | some (.int _) | some .string => Nat.beq (P.cellsOf t) 1
    | some (.slice e) => Nat.beq (P.cellsOf t) 1 && Nat.blt 0 (P.cellsOf e) && plainT P d e
    | some (.struct fs) => (match contig P fs.toList 0 with | some n => Nat.beq n (P.cellsOf t) | none => false) && fs.toList.all fun f => plainT P d f.type
    | some (.array n e) => Nat.beq (n * P.cellsOf e) (P.cellsOf t) && plainT P d e
    | _ => false

/-- Nothing of one's own yet. -/
def NoOwn (h : Heap) : Prop := ∀ i o, h.get i = some o → o.isOwn = false

theorem R.bump {P : Program} {φ : List Emb} {h : Heap} {w0 w : World} (hR : R P φ h w0 w) (e : Emb) : R P (φ ++ [e]) { h with next := h.next + 1 } w0 w where
  below := hR.below
  len := by simp [hR.len]
  objs := fun i o hi => by
    obtain ⟨e', he, ho, hw⟩ := hR.objs i o hi
    exact ⟨e', Up.get (Up.snoc _ _) he, O.up (Up.snoc _ _) ho, hw⟩
  sep := fun i j oi oj ei ej hij hi hj hei hej hown => by
    have key : ∀ k o e', h.get k = some o → (φ ++ [e])[k]? = some e' → φ[k]? = some e' := by
      intro k o e' hk he'
      obtain ⟨e'', h1, _⟩ := hR.objs k o hk
      rw [Up.get (Up.snoc φ e) h1] at he'
      cases he'
      exact h1
    exact hR.sep i j oi oj ei ej hij hi hj (key _ _ _ hi hei) (key _ _ _ hj hej) hown
  glob := fun g hg => by
    obtain ⟨m, hm⟩ := hR.glob g hg
    exact ⟨m, Up.get (Up.snoc _ _) hm⟩

theorem Ext.alloc (h : Heap) (o : Obj) (hn : h.get h.next = none) : Ext h (h.alloc o) :=
  ⟨by simp [Heap.next_alloc], fun i o' hi => by
    by_cases he : h.next = i
    · subst he; rw [hn] at hi; cases hi
    · rw [Heap.get_alloc_ne _ _ he]; exact hi⟩
theorem R.fresh {P : Program} {φ : List Emb} {h : Heap} {w0 w : World} (hR : R P φ h w0 w) : h.get h.next = none := by
  cases hg : h.get h.next with
  | none => rfl
  | some o => have := hR.lt hg; omega

/-- An object that came in. -/
theorem R.allocRo {P : Program} {φ : List Emb} {h : Heap} {w : World} (hR : R P φ h w w) (hno : NoOwn h) {cs : List AV} {e : Emb} (ho : O (φ ++ [e]) e w (.cells cs .ro)) : R P (φ ++ [e]) (h.alloc (.cells cs .ro)) w w ∧ NoOwn (h.alloc (.cells cs .ro)) := by
  have hno' : NoOwn (h.alloc (.cells cs .ro)) := by
    intro i o hi
    by_cases hn : h.next = i
    · subst hn; rw [Heap.get_alloc] at hi; cases hi; rfl
    · rw [Heap.get_alloc_ne _ _ hn] at hi; exact hno i o hi
  refine ⟨⟨hR.below, by simp [hR.len, Heap.next_alloc], ?_, ?_, ?_⟩, hno'⟩
  · intro i o hi
    by_cases hn : h.next = i
    · subst hn
      rw [Heap.get_alloc] at hi
      cases hi
      exact ⟨e, by rw [← hR.len]; simp, ho, fun hx => by cases hx⟩
    · have hi' := hi
      rw [Heap.get_alloc_ne _ _ hn] at hi'
      obtain ⟨e', he, hoo, hw⟩ := hR.objs i o hi'
      exact ⟨e', Up.get (Up.snoc _ _) he, O.up (Up.snoc _ _) hoo, hw⟩
  · intro i j oi oj ei ej hij hi hj hei hej hown
    rw [hno' i oi hi] at hown
    cases hown
  · intro g hg
    obtain ⟨m, hm⟩ := hR.glob g hg
    exact ⟨m, Up.get (Up.snoc _ _) hm⟩

/-- What is opened: the abstract memory goes on, the cells are there. -/
def Opened (P : Program) (W : World) (φ : List Emb) (h : Heap) (cs : List Value) (K : Heap → List AV → Prop) : Prop :=
  ∃ φ' h' as, Up φ φ' ∧ Ext h h' ∧ R P φ' h' W W ∧ NoOwn h' ∧ Vs φ' as cs ∧ K h' as

theorem mapM_range {α : Type} (f : Nat → Option α) : ∀ (n : Nat) (xs : List α), (List.range n).mapM f = some xs → xs.length = n ∧ ∀ (i : Nat) (x : α), xs[i]? = some x → f i = some x := by
  intro n xs h
  have gen : ∀ (l : List Nat) (xs : List α), l.mapM f = some xs → xs.length = l.length ∧ ∀ (i k : Nat) (x : α), l[i]? = some k → xs[i]? = some x → f k = some x := by
    intro l
    induction l with
    | nil => intro xs h; simp at h; subst h; simp
    | cons k l ih =>
      intro xs h
      simp only [List.mapM_cons, Option.bind_eq_bind, Option.pure_def] at h
      cases hk : f k with
      | none => simp [hk] at h
      | some y =>
        cases hl : l.mapM f with
        | none => simp [hk, hl] at h
        | some ys =>
          simp [hk, hl] at h
          subst h
          obtain ⟨h1, h2⟩ := ih ys hl
          refine ⟨by simp [h1], fun i k' x hi hx => ?_⟩
          cases i with
          | zero => simp at hi hx; subst hi hx; exact hk
          | succ i => simp at hi hx; exact h2 i k' x hi hx
  obtain ⟨h1, h2⟩ := gen _ xs h
  refine ⟨by simpa using h1, fun i x hx => h2 i i x ?_ hx⟩
  have hlt : i < n := by
    have := (List.getElem?_eq_some_iff.1 hx).1
    rw [h1] at this; simpa using this
  simp [hlt]

theorem mapM_list {α β : Type} (f : α → Option β) : ∀ (l : List α) (xs : List β), l.mapM f = some xs → xs.length = l.length ∧ ∀ (i : Nat) (a : α) (x : β), l[i]? = some a → xs[i]? = some x → f a = some x := by
  intro l
  induction l with
  | nil => intro xs h; simp at h; subst h; simp
  | cons k l ih =>
    intro xs h
    simp only [List.mapM_cons, Option.bind_eq_bind, Option.pure_def] at h
    cases hk : f k with
    | none => simp [hk] at h
    | some y =>
      cases hl : l.mapM f with
      | none => simp [hk, hl] at h
      | some ys =>
        simp [hk, hl] at h
        subst h
        obtain ⟨h1, h2⟩ := ih ys hl
        refine ⟨by simp [h1], fun i k' x hi hx => ?_⟩
        cases i with
        | zero => simp at hi hx; subst hi hx; exact hk
        | succ i => simp at hi hx; exact h2 i k' x hi hx

theorem cells_some {w : World} {a : Addr} {n : Nat} {cs : List Value} (h : w.cells? 0 a n = some cs) : cs.length = n ∧ ∀ i v, cs[i]? = some v → w.cell? (a.add i) = some v := by
  unfold World.cells? at h
  rw [if_pos (Nat.zero_le _)] at h
  exact mapM_range _ n cs h

/-- A row of elements, out of a list of cells. -/
theorem open_row {P : Program} {W : World} {e : TypeId} {enc : TypeId × Value → H} {fuel : Nat}
    (ih : ∀ (φ : List Emb) (h : Heap) (cs : List Value) (d : DataW H) (ps : List MemPlace), R P φ h W W → NoOwn h → DataW.trod enc P W 0 (fun _ => true) true fuel e cs = some (d, ps) → cs.length = P.cellsOf e ∧ Opened P W φ h cs (fun h' as => Reps P h' d e as))
    (L : List Value) (xs : List (DataW H × List MemPlace)) (hx : ∀ (i : Nat) (x : DataW H × List MemPlace), xs[i]? = some x → DataW.trod enc P W 0 (fun _ => true) true fuel e ((L.drop (i * P.cellsOf e)).take (P.cellsOf e)) = some x) {φ : List Emb} {h : Heap} (hR : R P φ h W W) (hno : NoOwn h) :
    ∀ n, n ≤ xs.length → Opened P W φ h (L.take (n * P.cellsOf e)) (fun h' as => RepsRow P h' ((xs.take n).map (·.1)) e as) := by
  intro n
  induction n with
  | zero =>
    intro _
    exact ⟨φ, h, [], Up.refl _, Ext.refl _, hR, hno, by simp [Vs], by simp [RepsRow]⟩
  | succ n ihn =>
    intro hn
    obtain ⟨φ1, h1, as, hu1, hx1, hR1, hno1, hV1, hr1⟩ := ihn (by omega)
    have hxn : xs[n]? = some xs[n] := List.getElem?_eq_getElem (by omega)
    obtain ⟨hl, φ2, h2, bs, hu2, hx2, hR2, hno2, hV2, hr2⟩ := ih φ1 h1 _ xs[n].1 xs[n].2 hR1 hno1 (hx n xs[n] hxn)
    refine ⟨φ2, h2, as ++ bs, hu1.trans hu2, hx1.trans hx2, hR2, hno2, ?_, ?_⟩
    · rw [Nat.add_mul, Nat.one_mul, List.take_add]
      exact (Vs.up hu2 _ _ hV1).append hV2
    · rw [List.take_add_one, hxn, List.map_append]
      exact RepsRow.snoc (by rw [← hV2.length]; exact hl) hr2 _ _ (RepsRow.ext hx2 _ _ _ hr1)

theorem open_fields {P : Program} {W : World} {enc : TypeId × Value → H} {fuel : Nat} {L : List Value} : ∀ (fs : List Field) (xs : List (DataW H × List MemPlace)) (o n : Nat),
    (∀ f ∈ fs, ∀ (φ : List Emb) (h : Heap) (cs : List Value) (d : DataW H) (ps : List MemPlace), R P φ h W W → NoOwn h → DataW.trod enc P W 0 (fun _ => true) true fuel f.type cs = some (d, ps) → cs.length = P.cellsOf f.type ∧ Opened P W φ h cs (fun h' as => Reps P h' d f.type as)) →
    xs.length = fs.length → (∀ (i : Nat) (f : Field) (x : DataW H × List MemPlace), fs[i]? = some f → xs[i]? = some x → DataW.trod enc P W 0 (fun _ => true) true fuel f.type ((L.drop f.offset).take (P.cellsOf f.type)) = some x) → contig P fs o = some n → n = L.length →
    ∀ {φ : List Emb} {h : Heap}, R P φ h W W → NoOwn h → Opened P W φ h (L.drop o) (fun h' as => RepsFields P h' (xs.map (·.1)) (fs.map (·.type)) as)
  | [], xs, o, n, _, hl, _, hc, hn, φ, h, hR, hno => by
    simp only [contig, Option.some.injEq] at hc
    have : xs = [] := List.eq_nil_of_length_eq_zero (by simpa using hl)
    subst this
    refine ⟨φ, h, [], Up.refl _, Ext.refl _, hR, hno, ?_, by simp [RepsFields]⟩
    rw [List.drop_of_length_le (by omega)]
    simp [Vs]
  | f :: fs, [], o, n, _, hl, _, _, _, φ, h, _, _ => by simp at hl
  | f :: fs, x :: xs, o, n, ih, hl, hx, hc, hn, φ, h, hR, hno => by
    simp only [contig] at hc
    cases hb : Nat.beq f.offset o with
    | false => simp [hb] at hc
    | true =>
      have ho := Nat.eq_of_beq_eq_true hb
      simp only [hb, cond_true] at hc
      have h0 := hx 0 f x rfl rfl
      obtain ⟨hlen, φ1, h1, as, hu1, hx1, hR1, hno1, hV1, hr1⟩ := ih f (List.mem_cons_self ..) φ h _ x.1 x.2 hR hno h0
      obtain ⟨φ2, h2, bs, hu2, hx2, hR2, hno2, hV2, hr2⟩ := open_fields fs xs (o + P.cellsOf f.type) n (fun g hg => ih g (List.mem_cons_of_mem _ hg)) (by simpa using hl) (fun i g y hg hy => hx (i + 1) g y (by simpa using hg) (by simpa using hy)) hc hn hR1 hno1
      refine ⟨φ2, h2, as ++ bs, hu1.trans hu2, hx1.trans hx2, hR2, hno2, ?_, ?_⟩
      · rw [ho] at hV1
        have : L.drop o = (L.drop o).take (P.cellsOf f.type) ++ L.drop (o + P.cellsOf f.type) := by
          rw [← List.drop_drop, List.take_append_drop]
        rw [this]
        exact (Vs.up hu2 _ _ hV1).append hV2
      · simp only [List.map_cons, RepsFields]
        exact ⟨f.type, fs.map (·.type), as, bs, rfl, rfl, by rw [← hV1.length]; exact hlen, Reps.ext hx2 _ _ _ hr1, hr2⟩

theorem open_trod {P : Program} {W : World} {enc : TypeId × Value → H} : ∀ (fuel d : Nat) (t : TypeId), plainT P d t = true → ∀ (φ : List Emb) (h : Heap) (cs : List Value) (x : DataW H) (ps : List MemPlace), R P φ h W W → NoOwn h →
    DataW.trod enc P W 0 (fun _ => true) true fuel t cs = some (x, ps) → cs.length = P.cellsOf t ∧ Opened P W φ h cs (fun h' as => Reps P h' x t as) := by
  intro fuel
  induction fuel with
  | zero => intro d t hp φ h cs x ps hR hno ht; simp [DataW.trod] at ht
  | succ fuel ih =>
    intro d t hp φ h cs x ps hR hno ht
    cases d with
    | zero => simp [plainT] at hp
    | succ d =>
      simp only [plainT] at hp
      have scalar : ∀ (a : AV) (v : Value), cs = [v] → V φ a v → Reps P h x t [a] → Nat.beq (P.cellsOf t) 1 = true → cs.length = P.cellsOf t ∧ Opened P W φ h cs (fun h' as => Reps P h' x t as) := by
        intro a v hcs hv hr h1
        subst hcs
        exact ⟨(Nat.eq_of_beq_eq_true h1).symm, φ, h, [a], Up.refl _, Ext.refl _, hR, hno, by simp [Vs_cons, Vs_nil, hv], hr⟩
      cases hu : P.underlying t with
      | none => simp [hu] at hp
      | some desc =>
        cases desc <;> simp only [hu] at hp <;> (try (cases hp; done))
        case bool =>
          have key : ∃ b, cs = [.bool b] ∧ x = .lit (.bool b) := by
            clear scalar
            unfold DataW.trod at ht
            rw [hu] at ht
            split at ht <;> first | (cases ht; done) | simp_all
          obtain ⟨b, hcs, rfl⟩ := key
          exact scalar (.bool b) (.bool b) hcs (by simp [V]) (by simp [Reps, hu]) hp
        case int k =>
          have key : ∃ n, cs = [.int k n] ∧ (Lit.int k n).wf = true ∧ x = .lit (.int k n) := by
            clear scalar
            unfold DataW.trod at ht
            rw [hu] at ht
            split at ht <;> first | (cases ht; done) | simp_all
          obtain ⟨n, hcs, hw, rfl⟩ := key
          exact scalar (.int k n) (.int k n) hcs (by simp [V]) (by simp [Reps, hu, hw]) hp
        case string =>
          have key : ∃ s, cs = [.string s] ∧ s.size ≤ maxLen ∧ x = .lit (.string s.data.toList) := by
            clear scalar
            unfold DataW.trod at ht
            rw [hu] at ht
            split at ht <;> first | (cases ht; done) | simp_all
          obtain ⟨s, hcs, hw, rfl⟩ := key
          exact scalar (.str s.data.toList) (.string s) hcs (by simp [V]) (by simp only [Reps, and_true]; exact ⟨hu, by rw [← Lib.size_eq]; exact hw⟩) hp
        case slice e =>
          rw [Bool.and_eq_true, Bool.and_eq_true] at hp
          obtain ⟨⟨hc1, hc2⟩, hpe⟩ := hp
          have hpos := (blt_iff _ _).1 hc2
          unfold DataW.trod at ht
          rw [hu] at ht
          split at ht <;> (try (cases ht; done))
          all_goals (try (rename_i heq; cases heq; done))
          · rename_i heq
            simp only [Option.some.injEq, Prod.mk.injEq] at ht
            exact scalar (.slice none 0 (.exact 0)) (.slice none 0 0) rfl (by simp [V]) (by rw [← ht.1]; simp [Reps, hu]) hc1
          · rename_i e' a len cap heq
            simp only [Option.some.injEq, TypeDesc.slice.injEq] at heq
            subst heq
            simp only at ht
            split at ht
            · rename_i hb
              obtain ⟨_, hlc, hcm⟩ := hb
              rw [Option.bind_eq_some_iff] at ht
              obtain ⟨elems, hel, ht⟩ := ht
              simp only [Option.map_eq_some_iff, Prod.mk.injEq] at ht
              obtain ⟨rest, _, hx, _⟩ := ht
              subst hx
              obtain ⟨hlen, hat⟩ := mapM_range _ len elems hel
              refine ⟨(Nat.eq_of_beq_eq_true hc1).symm, ?_⟩
              rcases Nat.eq_zero_or_pos len with h0 | hlpos
              · subst h0
                have : elems = [] := List.eq_nil_of_length_eq_zero hlen
                subst this
                refine ⟨φ ++ [⟨a.block, a.off, 0⟩], { h with next := h.next + 1 }, [.slice (some ⟨h.next, 0⟩) 0 .dim], Up.snoc _ _, ⟨by simp, fun i o hi => hi⟩, R.bump hR _, hno, ?_, ?_⟩
                · rw [Vs_cons]
                  refine ⟨V_slice (e := ⟨a.block, a.off, 0⟩) (cap := cap) (a := a) (by rw [← hR.len]; simp) rfl (Nat.zero_le _) trivial (.inr ⟨rfl, rfl⟩), by simp [Vs]⟩
                · simp only [Reps, List.map_nil, List.length_nil, RepsRow]
                  exact ⟨e, h.next, [], hu, rfl, Nat.zero_le _, fun hx => absurd rfl hx, rfl⟩
              · -- the block is there
                have h00 := hat 0 elems[0] (List.getElem?_eq_getElem (by omega))
                rw [Option.bind_eq_some_iff] at h00
                obtain ⟨c0, hc0, _⟩ := h00
                obtain ⟨hc0l, hc0c⟩ := cells_some hc0
                have hfirst := hc0c 0 c0[0] (List.getElem?_eq_getElem (by omega))
                have hspot : a.spot = none := by
                  cases hs : a.spot with
                  | none => rfl
                  | some s =>
                    simp only [Nat.zero_mul, Addr.add, if_true] at hfirst
                    unfold World.cell? at hfirst
                    split at hfirst
                    · simp [hs] at hfirst
                    · cases hfirst
                obtain ⟨ab, ao, asp⟩ := a
                simp only at hspot
                subst hspot
                simp only [Addr.add_lit, Nat.zero_mul, Nat.add_zero] at hfirst
                have hblk : ∃ C t' fr, W.heap[ab]? = some (.cells C t' fr) := by
                  unfold World.cell? at hfirst
                  split at hfirst
                  · rename_i C t' fr hh; exact ⟨C, t', fr, hh⟩
                  · cases hfirst
                obtain ⟨C, t', fr, hC⟩ := hblk
                have hcell : ∀ k v, W.cell? ⟨ab, k, none⟩ = some v → C[k]? = some v := by
                  intro k v hv
                  simpa [World.cell?, hC] using hv
                have hchunk : ∀ (i : Nat) (x : DataW H × List MemPlace), elems[i]? = some x → ∃ c, W.cells? 0 ((⟨ab, ao, none⟩ : Addr).add (i * P.cellsOf e)) (P.cellsOf e) = some c ∧ DataW.trod enc P W 0 (fun _ => true) true fuel e c = some x ∧
                    c = ((C.toList.drop ao).drop (i * P.cellsOf e)).take (P.cellsOf e) := by
                  intro i x hx
                  have h1 := hat i x hx
                  rw [Option.bind_eq_some_iff] at h1
                  obtain ⟨c, hc, ht⟩ := h1
                  refine ⟨c, hc, ht, ?_⟩
                  obtain ⟨hcl, hcc⟩ := cells_some hc
                  have hin : ∀ j, j < P.cellsOf e → C[ao + i * P.cellsOf e + j]? = c[j]? := by
                    intro j hj
                    have h2 : c[j]? = some c[j] := List.getElem?_eq_getElem (by omega)
                    have h3 := hcc j c[j] h2
                    rw [Addr.add_lit, Addr.add_lit] at h3
                    rw [hcell _ _ h3, h2]
                  apply List.ext_getElem?
                  intro j
                  rw [List.getElem?_take]
                  split
                  · rename_i hj
                    rw [← hin j hj, List.getElem?_drop, List.getElem?_drop, Array.getElem?_toList]
                    congr 1
                    omega
                  · rename_i hj
                    exact List.getElem?_eq_none (by omega)
                have hrow := open_row (P := P) (W := W) (e := e) (enc := enc) (fuel := fuel) (fun φ h cs d' ps => ih d e hpe φ h cs d' ps) (C.toList.drop ao) elems
                  (fun i x hx => by obtain ⟨c, _, h2, h3⟩ := hchunk i x hx; rw [← h3]; exact h2) hR hno elems.length (Nat.le_refl _)
                obtain ⟨φ1, h1, as, hu1, hx1, hR1, hno1, hV1, hr1⟩ := hrow
                rw [List.take_length] at hr1
                rw [hlen] at hV1
                have hasl : as.length = len * P.cellsOf e := by
                  rw [← hV1.length, List.length_take, List.length_drop, Array.length_toList]
                  have hlast : elems[len - 1]? = some elems[len - 1] := List.getElem?_eq_getElem (by omega)
                  obtain ⟨c, hc, _, _⟩ := hchunk (len - 1) _ hlast
                  obtain ⟨hcl, hcc⟩ := cells_some hc
                  have h3 := hcc (P.cellsOf e - 1) c[P.cellsOf e - 1] (List.getElem?_eq_getElem (by omega))
                  rw [Addr.add_lit, Addr.add_lit] at h3
                  have h4 := (Array.getElem?_eq_some_iff.1 (hcell _ _ h3)).1
                  have : (len - 1) * P.cellsOf e + P.cellsOf e = len * P.cellsOf e := by
                    rw [← Nat.succ_mul]; congr 1; omega
                  omega
                have hCsz : ao + len * P.cellsOf e ≤ C.size := by
                  have := hV1.length
                  rw [List.length_take, List.length_drop, Array.length_toList] at this
                  have hpos2 : 0 < len * P.cellsOf e := Nat.mul_pos hlpos hpos
                  omega
                have hO : O (φ1 ++ [⟨ab, ao, C.size - ao⟩]) ⟨ab, ao, C.size - ao⟩ W (.cells as .ro) := by
                  refine ⟨C, t', fr, hC, ?_, ?_, ?_, ?_, ?_⟩
                  · show ao + (C.size - ao) = C.size
                    omega
                  · show as.length ≤ C.size - ao
                    omega
                  · exact OwnOk.free (fun _ => by simp) (fun _ => by simp)
                  · intro hk; cases hk
                  · rw [hasl]
                    exact Vs.up (Up.snoc _ _) _ _ hV1
                obtain ⟨hR2, hno2⟩ := R.allocRo hR1 hno1 hO
                have hx2 := Ext.alloc h1 (.cells as .ro) hR1.fresh
                refine ⟨_, _, [.slice (some ⟨h1.next, 0⟩) len .dim], hu1.trans (Up.snoc _ _), hx1.trans hx2, hR2, hno2, ?_, ?_⟩
                · rw [Vs_cons]
                  exact ⟨V_slice (e := ⟨ab, ao, C.size - ao⟩) (by rw [← hR1.len]; simp) rfl hlc trivial (.inl (by simp)), by simp [Vs]⟩
                · simp only [Reps]
                  refine ⟨e, h1.next, as, hu, by simp [hlen], by simp [hlen]; omega, fun _ => Heap.get_alloc _ _, RepsRow.ext hx2 _ _ _ hr1⟩
            · cases ht
        case struct fs =>
          rw [Bool.and_eq_true] at hp
          obtain ⟨hc, hall⟩ := hp
          split at hc
          · rename_i n hn
            have hnc := Nat.eq_of_beq_eq_true hc
            unfold DataW.trod at ht
            rw [hu] at ht
            dsimp only at ht
            split at ht
            · rename_i hlen
              simp only [Option.map_eq_some_iff, Prod.mk.injEq] at ht
              obtain ⟨xs, hxs, hx, _⟩ := ht
              subst hx
              refine ⟨hlen, ?_⟩
              obtain ⟨hl, hat⟩ := mapM_list _ _ xs hxs
              have := open_fields (P := P) (W := W) (enc := enc) (fuel := fuel) (L := cs) fs.toList xs 0 n (fun f hf φ h cs' d' ps => ih d f.type (List.all_eq_true.1 hall f hf) φ h cs' d' ps) hl hat hn (by omega) hR hno
              obtain ⟨φ1, h1, as, hu1, hx1, hR1, hno1, hV1, hr1⟩ := this
              rw [List.drop_zero] at hV1
              exact ⟨φ1, h1, as, hu1, hx1, hR1, hno1, hV1, by simp only [Reps]; exact .inl ⟨fs, hu, hr1⟩⟩
            · cases ht
          · cases hc
        case array n e =>
          rw [Bool.and_eq_true] at hp
          obtain ⟨hc, hpe⟩ := hp
          have hnc := Nat.eq_of_beq_eq_true hc
          unfold DataW.trod at ht
          rw [hu] at ht
          dsimp only at ht
          split at ht
          · rename_i hlen
            simp only [Option.map_eq_some_iff, Prod.mk.injEq] at ht
            obtain ⟨xs, hxs, hx, _⟩ := ht
            subst hx
            refine ⟨hlen, ?_⟩
            obtain ⟨hl, hat⟩ := mapM_range _ _ xs hxs
            obtain ⟨φ1, h1, as, hu1, hx1, hR1, hno1, hV1, hr1⟩ := open_row (P := P) (W := W) (e := e) (enc := enc) (fuel := fuel) (fun φ h cs d' ps => ih d e hpe φ h cs d' ps) cs xs hat hR hno xs.length (Nat.le_refl _)
            rw [hl, hnc, ← hlen, List.take_length] at hV1
            rw [List.take_length] at hr1
            exact ⟨φ1, h1, as, hu1, hx1, hR1, hno1, hV1, by simp only [Reps]; exact .inr ⟨n, e, hu, by simp [hl], hr1⟩⟩
          · cases ht
end
end Go.Am
