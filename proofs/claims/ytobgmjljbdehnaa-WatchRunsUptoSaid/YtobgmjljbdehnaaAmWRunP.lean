/- What a script of watches and sets keeps in memory. -/
import Derived.Test.YtobgmjljbdehnaaAmWRef
import Derived.Test.YtobgmjljbdehnaaAmSlr
set_option linter.unusedSimpArgs false
namespace Go.Am
open Go.RowKit Go.Proofs

inductive Tg where
  | no | wv | fv | sv | mv
  | w (i : Nat) | c (i : Nat) | S (k : Nat) | hv (k : Nat) | held (k : Nat)
  deriving DecidableEq
structure SS where
  S : Nat
  hv : AV
  held : AV
  most : Int
  mem : List Nat
def pickW (ws : List (Nat × Nat)) (mem : List Nat) : List (Nat × Nat) := mem.map fun a => ws.getD a (0, 0)
def natI (mem : List Nat) : List Int := mem.map fun (a : Nat) => (a : Int)
theorem natI_length (mem : List Nat) : (natI mem).length = mem.length := by simp [natI]
theorem pickW_length (ws : List (Nat × Nat)) (mem : List Nat) : (pickW ws mem).length = mem.length := by simp [pickW]
theorem pickW_snoc {ws : List (Nat × Nat)} {mem : List Nat} (h : ∀ a ∈ mem, a < ws.length) (w : Nat × Nat) : pickW (ws ++ [w]) mem = pickW ws mem := by
  apply List.map_congr_left
  intro a ha
  simp [List.getD_eq_getElem?_getD, List.getElem?_append_left (h a ha)]
def ptrsS (ss : List SS) : List AV := ss.map fun s => .ptr (some ⟨s.S, 0⟩)
theorem ptrsS_get {ss : List SS} {k : Nat} {s : SS} (h : ss[k]? = some s) : (ptrsS ss)[k]? = some (.ptr (some ⟨s.S, 0⟩)) := by simp [ptrsS, h]
def rowsM (ss : List SS) : List (List AV) := ss.map fun s => [.int .i64 s.most, s.held]
theorem rowsM_get {ss : List SS} {k : Nat} {s : SS} (h : ss[k]? = some s) : (rowsM ss)[k]? = some [.int .i64 s.most, s.held] := by simp [rowsM, h]

def ExtT (tg tg' : Nat → Tg) : Prop := ∀ j, tg j ≠ .no → tg' j = tg j
def AccT (tg : Nat → Tg) (t : Tg) (g : Heap) (v : AV) (xs : List AV) : Prop := Acc 0 g v xs ∧ ∀ j, idOf v = some j → tg j = t
theorem AccT.keep {tg tg' : Nat → Tg} {t : Tg} (ht : t ≠ .no) (hT : ExtT tg tg') {ex : List Nat} {g g' : Heap} (hk : Keep ex g g') {v : AV} {xs : List AV} (h : AccT tg t g v xs) (hx : ∀ j ∈ ex, tg j ≠ t) : AccT tg' t g' v xs :=
  ⟨h.1.keep2 hk (fun j hj hm => hx j hm (h.2 j hj)), fun j hj => (hT j (by rw [h.2 j hj]; exact ht)).trans (h.2 j hj)⟩
structure CW (tg : Nat → Tg) (g : Heap) (ws : List (Nat × Nat)) (fs : List Bool) : Prop where
  pl : WsAt g ws fs
  tag : ∀ (i : Nat) (w : Nat × Nat), ws[i]? = some w → tg w.1 = .w i ∧ tg w.2 = .c i
theorem CW.keep {tg tg' : Nat → Tg} (hT : ExtT tg tg') {ex : List Nat} {g g' : Heap} (hk : Keep ex g g') {ws : List (Nat × Nat)} {fs : List Bool} (h : CW tg g ws fs) (hx : ∀ j ∈ ex, ∀ i, tg j ≠ .w i ∧ tg j ≠ .c i) : CW tg' g' ws fs where
  pl := h.pl.keep hk (fun w hw => by
    obtain ⟨i, hi, rfl⟩ := List.mem_iff_getElem.1 hw
    have ht := h.tag i _ (List.getElem?_eq_getElem hi)
    exact ⟨fun hm => (hx _ hm i).1 ht.1, fun hm => (hx _ hm i).2 ht.2⟩)
  tag := fun i w hi => by
    have ht := h.tag i w hi
    exact ⟨(hT _ (by rw [ht.1]; simp)).trans ht.1, (hT _ (by rw [ht.2]; simp)).trans ht.2⟩
structure CS (tg : Nat → Tg) (g : Heap) (ws : List (Nat × Nat)) (k : Nat) (s : SS) : Prop where
  tS : tg s.S = .S k
  tv : ∀ j, idOf s.hv = some j → tg j = .hv k
  td : s.mem ≠ [] → ∀ j, idOf s.held = some j → tg j = .held k
  pl : SetAt g s.S s.most s.hv (pickW ws s.mem)
  sl : Sl g s.held (ints (natI s.mem))
  lt : ∀ a ∈ s.mem, a < ws.length
theorem CS.keep {tg tg' : Nat → Tg} (hT : ExtT tg tg') {ex : List Nat} {g g' : Heap} (hk : Keep ex g g') {ws : List (Nat × Nat)} {k : Nat} {s : SS} (h : CS tg g ws k s) (hx : ∀ j ∈ ex, tg j ≠ .S k ∧ tg j ≠ .hv k ∧ tg j ≠ .held k) : CS tg' g' ws k s where
  tS := (hT _ (by rw [h.tS]; simp)).trans h.tS
  tv := fun j hj => (hT _ (by rw [h.tv j hj]; simp)).trans (h.tv j hj)
  td := fun hne j hj => (hT _ (by rw [h.td hne j hj]; simp)).trans (h.td hne j hj)
  pl := h.pl.keep hk (fun hm => (hx _ hm).1 h.tS) (fun j hj hm => (hx _ hm).2.1 (h.tv j hj))
  sl := h.sl.keep' hk (fun hne j hj hm => (hx _ hm).2.2 (h.td (fun hm' => hne (by rw [hm']; rfl)) j hj))
  lt := h.lt
theorem CS.snoc {tg : Nat → Tg} {g : Heap} {ws : List (Nat × Nat)} {k : Nat} {s : SS} (h : CS tg g ws k s) (w : Nat × Nat) : CS tg g (ws ++ [w]) k s where
  tS := h.tS
  tv := h.tv
  td := h.td
  pl := by rw [pickW_snoc h.lt]; exact h.pl
  sl := h.sl
  lt := fun a ha => by have := h.lt a ha; simp; omega

theorem Accr.lt {n0 : Nat} {h : Heap} (hw : Wf h) {s : Nat} {v : AV} {rows : List (List AV)} (ha : Accr n0 h s v rows) {i : Nat} (hi : idOf v = some i) : i < h.next := by
  rcases ha.2 with ⟨_, l, rfl, hl⟩ | ⟨j, _, _, rfl, hg⟩
  · cases l with
    | none => cases hi
    | some x =>
      cases hi
      obtain ⟨_, _, cs, hg⟩ := hl x rfl
      exact hw _ _ hg
  · cases hi; exact hw _ _ hg
theorem Accr.keep2 {n0 : Nat} {ex : List Nat} {h0 h : Heap} (hk : Keep ex h0 h) {s : Nat} {v : AV} {rows : List (List AV)} (hs : Accr n0 h0 s v rows) (hx : ∀ i, idOf v = some i → i ∉ ex) : Accr n0 h s v rows := by
  refine ⟨hs.1, ?_⟩
  rcases hs.2 with ⟨h1, l, h2, h3⟩ | ⟨j, h1, h2, h3, hg⟩
  · refine .inl ⟨h1, l, h2, fun x hx' => ?_⟩
    obtain ⟨h4, h5, cs, h6⟩ := h3 x hx'
    exact ⟨h4, h5, cs, hk.get _ _ h6 (hx _ (by rw [h2, hx']; rfl))⟩
  · exact .inr ⟨j, h1, h2, h3, hk.get _ _ hg (hx _ (by rw [h3]; rfl))⟩
def AccrT (tg : Nat → Tg) (t : Tg) (g : Heap) (v : AV) (rows : List (List AV)) : Prop := Accr 0 g 2 v rows ∧ ∀ j, idOf v = some j → tg j = t
theorem AccrT.keep {tg tg' : Nat → Tg} {t : Tg} (ht : t ≠ .no) (hT : ExtT tg tg') {ex : List Nat} {g g' : Heap} (hk : Keep ex g g') {v : AV} {xs : List (List AV)} (h : AccrT tg t g v xs) (hx : ∀ j ∈ ex, tg j ≠ t) : AccrT tg' t g' v xs :=
  ⟨h.1.keep2 hk (fun j hj hm => hx j hm (h.2 j hj)), fun j hj => (hT j (by rw [h.2 j hj]; exact ht)).trans (h.2 j hj)⟩
/-- More is appended; what is lost is told. -/
theorem Accr.pushX {P : Program} {n0 : Nat} {ex : List Nat} {h : Heap} {s : Nat} {v : AV} {rows : List (List AV)} (ha : Accr n0 h s v rows) (hw : Wf h) (hex : ∀ i, idOf v = some i → i ∈ ex) (hn' : n0 ≤ h.next) {t el : TypeId} (hu : P.underlying t = some (.slice el)) (h1 : sizeA P el = some s) (hs0 : 0 < s)
    {r : List AV} {y : AV} (hy : Slr h s y [r]) (hok : cellsOk r = true) (hroom : roomA P el (rows.length + 1) = true) :
    ∃ v' h', appendA P h t t v y = some (v', h') ∧ Accr n0 h' s v' (rows ++ [r]) ∧ Keep ex h h' ∧ (∀ i, idOf v' = some i → h.next ≤ i) := by
  have hk := Keep.refl (ex := ex) hw
  have hsrc := hy.src (P := P) hu (by simpa using hok)
  have hrl : r.length = s := hy.1 r (by simp)
  have hall : ∀ x ∈ rows ++ [r], x.length = s := by
    intro x hx
    rcases List.mem_append.1 hx with hx | hx
    · exact ha.1 x hx
    · exact hy.1 x hx
  have hfl := flatten_length ha.1
  simp only [List.length_singleton, List.flatten_cons, List.flatten_nil, List.append_nil] at hsrc
  rcases ha.2 with ⟨rfl, l, rfl, hl⟩ | ⟨i, hi, hne', rfl, hg⟩
  · refine ⟨.slice (some ⟨h.next, 0⟩) (0 + 1) (.tip s), h.alloc (.cells r .own), ?_, ⟨by simpa using hrl, .inr ⟨h.next, hn', by simp, by simp, by rw [Heap.get_alloc]; simp⟩⟩, hk.alloc _, by simp [idOf]⟩
    simp only [List.length_nil] at hroom
    cases l with
    | none => simp only [appendA, hu, h1, hsrc, hroom, cond_true]
    | some x =>
      obtain ⟨_, hx0, cs, hgx⟩ := hl x rfl
      have hb : Nat.ble (0 + 1) 0 = false := by simp [Nat.ble]
      have hrd : readA h x (0 * s) = some [] := by
        have : Nat.ble x.off cs.length = true := by rw [ble_iff, hx0]; omega
        simp [readA, hgx, this]
      simp only [appendA, hu, h1, hsrc, hroom, cond_true, hb, cond_false, hrd, List.nil_append]
  · refine ⟨.slice (some ⟨h.next, 0⟩) (rows.length + 1) (.tip s), (h.del i).alloc (.cells (rows.flatten ++ r) .own), ?_, ⟨hall, .inr ⟨h.next, hn', by simp, by simp, by
        have := Heap.get_alloc (h.del i) (.cells (rows.flatten ++ r) .own)
        rw [Heap.next_del] at this
        rw [this]; simp⟩⟩, (hk.del (.inl (hex i rfl))).alloc _, by simp [idOf]⟩
    have hbig : rows.length * s < (rows.length + 1) * s := Nat.mul_lt_mul_of_pos_right (by omega) hs0
    have hb : Nat.ble (0 + (rows.length + 1) * s) rows.flatten.length = false := by
      cases hb : Nat.ble (0 + (rows.length + 1) * s) rows.flatten.length with
      | false => rfl
      | true => rw [ble_iff] at hb; omega
    have hb2 : Nat.beq (0 + rows.length * s) rows.flatten.length = true := by rw [hfl]; simp
    have hb3 : Nat.beq s s = true := by simp
    simp only [appendA, hu, h1, hsrc, hroom, cond_true, hg, hb, cond_false, hb3]
    rw [hb2]
    simp only [hok, Bool.and_true, cond_true, List.drop_zero]

theorem flatten_set {s : Nat} : ∀ {rows : List (List AV)} {k : Nat} {r : List AV}, (∀ x ∈ rows, x.length = s) → r.length = s → k < rows.length → over rows.flatten (k * s) r = (rows.set k r).flatten
  | [], k, r, _, _, hk => by simp at hk
  | x :: rows, 0, r, hx, hr, _ => by
    have h1 := hx x List.mem_cons_self
    simp only [over, Nat.zero_mul, List.take_zero, List.nil_append, Nat.zero_add, hr, List.flatten_cons, List.set_cons_zero]
    rw [← h1, List.drop_left]
  | x :: rows, k + 1, r, hx, hr, hk => by
    have h1 := hx x List.mem_cons_self
    have ih := flatten_set (fun y hy => hx y (List.mem_cons_of_mem _ hy)) hr (show k < rows.length by simpa using hk)
    simp only [List.flatten_cons, List.set_cons_succ, ← ih, over]
    have e1 : (k + 1) * s = x.length + k * s := by rw [Nat.add_mul, Nat.one_mul, h1]; omega
    rw [e1, List.take_length_add_append, Nat.add_assoc, List.drop_length_add_append]
    simp
theorem Accr.store {P : Program} {n0 : Nat} {h : Heap} {v : AV} {rows : List (List AV)} (ha : Accr n0 h 2 v rows) {t el : TypeId} (hu : P.underlying t = some (.slice el)) (h1 : sizeA P el = some 2) {k : Nat} {r : List AV} (hr : r.length = 2) (hok : cellsOk r = true) (hk : k < rows.length) {kd : IntKind} :
    ∃ i o, indexAddrA P t v (.int kd (k : Int)) = some (.ptr (some ⟨i, o⟩)) ∧ idOf v = some i ∧ storeA P h el ⟨i, o⟩ (.agg r) = some (h.set i (.cells (rows.set k r).flatten .own)) ∧ Accr n0 (h.set i (.cells (rows.set k r).flatten .own)) 2 v (rows.set k r) := by
  have hfl := flatten_length ha.1
  have hfs := flatten_set ha.1 hr hk
  have hall : ∀ x ∈ rows.set k r, x.length = 2 := by
    intro x hx
    rcases List.mem_or_eq_of_mem_set hx with hx | hx
    · exact ha.1 x hx
    · rw [hx, hr]
  rcases ha.2 with ⟨rfl, _⟩ | ⟨i, hi, hne, rfl, hg⟩
  · simp at hk
  · refine ⟨i, 0 + k * 2, index_at hu h1 hk, rfl, ?_, ⟨hall, .inr ⟨i, hi, by simpa using hne, by simp, Heap.get_set _ _ _⟩⟩⟩
    have hb1 : Nat.beq r.length 2 = true := by rw [hr]; rfl
    have hb2 : Nat.ble (k * 2 + r.length) rows.flatten.length = true := by rw [ble_iff, hfl, hr]; omega
    simp only [storeA, h1, cellsA, hb1, cond_true, writeA, hg, hok, hb2, Bool.and_self, Nat.zero_add, hfs]
/-- One of a list that is grown is written. -/
theorem Acc.store {P : Program} {n0 : Nat} {h : Heap} {v : AV} {xs : List AV} (ha : Acc n0 h v xs) {t el : TypeId} (hu : P.underlying t = some (.slice el)) (h1 : sizeA P el = some 1) {k : Nat} (hk : k < xs.length) {x : AV} (hc : cellsA x = some [x]) (hok : cellOk x = true) {kd : IntKind} :
    ∃ i, indexAddrA P t v (.int kd (k : Int)) = some (.ptr (some ⟨i, k⟩)) ∧ idOf v = some i ∧ storeA P h el ⟨i, k⟩ x = some (h.set i (.cells (xs.set k x) .own)) ∧ Acc n0 (h.set i (.cells (xs.set k x) .own)) v (xs.set k x) := by
  rcases ha with ⟨rfl, _⟩ | ⟨i, hi, hne, rfl, hg⟩
  · simp at hk
  · refine ⟨i, by rw [index_at hu h1 hk]; simp, rfl, store_cell h1 hc hok hg (by simp) hk, .inr ⟨i, hi, by simpa using hne, by simp, Heap.get_set _ _ _⟩⟩
end Go.Am
