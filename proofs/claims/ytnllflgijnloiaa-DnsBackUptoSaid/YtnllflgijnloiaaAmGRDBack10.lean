/- Slices whose elements take more cells than one. -/
import Derived.Test.YtnllflgijnloiaaAmGRDBack9
namespace Go.Am
open Go.RowKit

section
variable {P : Program}

theorem flatten_length {s : Nat} : ∀ {rows : List (List AV)}, (∀ r ∈ rows, r.length = s) → rows.flatten.length = rows.length * s
  | [], _ => by simp
  | r :: rows, h => by
    have h1 := h r List.mem_cons_self
    have h2 := flatten_length (fun r hr => h r (List.mem_cons_of_mem _ hr))
    simp only [List.flatten_cons, List.length_append, List.length_cons, h1, h2, Nat.add_mul, Nat.one_mul]
    omega
theorem flatten_at {s : Nat} : ∀ {rows : List (List AV)}, (∀ r ∈ rows, r.length = s) → ∀ {i : Nat} {r : List AV}, rows[i]? = some r → (rows.flatten.drop (i * s)).take s = r
  | [], _, _, _, hr => by simp at hr
  | r :: rows, h, 0, r', hr => by
    simp only [List.getElem?_cons_zero, Option.some.injEq] at hr
    subst hr
    have h1 := h r List.mem_cons_self
    simp [← h1]
  | r :: rows, h, i + 1, r', hr => by
    have h1 := h r List.mem_cons_self
    have h2 := flatten_at (fun r hr => h r (List.mem_cons_of_mem _ hr)) (i := i) (r := r') (by simpa using hr)
    rw [List.flatten_cons, List.drop_append, List.drop_eq_nil_of_le (by rw [h1, Nat.add_mul]; omega), List.nil_append, h1]
    have h3 : (i + 1) * s - s = i * s := by rw [Nat.add_mul]; omega
    rw [h3]; exact h2

/-- What a slice shows, element by element. -/
def Slr (h : Heap) (s : Nat) (v : AV) (rows : List (List AV)) : Prop :=
  (∀ r ∈ rows, r.length = s) ∧ match v with
  | .slice none n _ => n = 0 ∧ rows = []
  | .slice (some l) n _ => rows.length = n ∧ (n = 0 ∨ ∃ cs k, h.get l.id = some (.cells cs k) ∧ l.off + n * s ≤ cs.length ∧ (cs.drop l.off).take (n * s) = rows.flatten)
  | _ => False
theorem Slr.keep' {ex : List Nat} {h0 h : Heap} (hk : Keep ex h0 h) {s : Nat} {v : AV} {rows : List (List AV)} (hs : Slr h0 s v rows) (hx : rows ≠ [] → ∀ i, idOf v = some i → i ∉ ex) : Slr h s v rows := by
  refine ⟨hs.1, ?_⟩
  have hs2 := hs.2
  match v, hs2 with
  | .slice none n _, hs2 => exact hs2
  | .slice (some l) n _, hs2 =>
    obtain ⟨h1, h2⟩ := hs2
    refine ⟨h1, ?_⟩
    by_cases hn : n = 0
    · exact .inl hn
    · rcases h2 with h2 | ⟨cs, k, h3, h4⟩
      · exact .inl h2
      · refine .inr ⟨cs, k, hk.get _ _ h3 (hx ?_ _ rfl), h4⟩
        intro hh
        rw [hh] at h1
        exact hn h1.symm
theorem Slr.lt {h : Heap} (hw : Wf h) {s : Nat} {v : AV} {rows : List (List AV)} (hs : Slr h s v rows) (hne : rows ≠ []) {i : Nat} (hi : idOf v = some i) : i < h.next := by
  have hs2 := hs.2
  match v, hs2 with
  | .slice (some l) n _, hs2 =>
    cases hi
    obtain ⟨h1, h2 | ⟨cs, k, h3, h4⟩⟩ := hs2
    · exact absurd (List.length_eq_zero_iff.1 (h1.trans h2)) hne
    · exact hw _ _ h3
theorem Slr.slice {h : Heap} {s : Nat} {v : AV} {rows : List (List AV)} (hs : Slr h s v rows) : ∃ l c, v = .slice l rows.length c := by
  have hs2 := hs.2
  match v, hs2 with
  | .slice none n c, hs2 => obtain ⟨rfl, rfl⟩ := hs2; exact ⟨none, c, rfl⟩
  | .slice (some l) n c, hs2 => obtain ⟨rfl, _⟩ := hs2; exact ⟨some l, c, rfl⟩
theorem Slr.len {h : Heap} {s : Nat} {v : AV} {rows : List (List AV)} (hs : Slr h s v rows) (h' : Heap) {t el : TypeId} (hu : P.underlying t = some (.slice el)) : lenA P h' t v = some (.int .i64 rows.length) := by
  obtain ⟨l, c, rfl⟩ := hs.slice
  exact lenA_slice hu
theorem Slr.at {h : Heap} {s : Nat} {v : AV} {rows : List (List AV)} (hs : Slr h s v rows) {t el : TypeId} (hu : P.underlying t = some (.slice el)) (h1 : sizeA P el = some s) (ha : aggA P el = some true) {i : Nat} {r : List AV} (hx : rows[i]? = some r) {k : IntKind} :
    ∃ l, indexAddrA P t v (.int k (i : Int)) = some (.ptr (some l)) ∧ loadA P h el l = some (.agg r) ∧ idOf v = some l.id := by
  have hlt := (List.getElem?_eq_some_iff.1 hx).1
  have hfl := flatten_length hs.1
  have hat := flatten_at hs.1 hx
  have hs2 := hs.2
  match v, hs2 with
  | .slice none n c, hs2 => obtain ⟨rfl, rfl⟩ := hs2; simp at hx
  | .slice (some l) n c, hs2 =>
    obtain ⟨rfl, h0 | ⟨cs, k', hg, hle, hd⟩⟩ := hs2
    · omega
    · have hb : (i + 1) * s ≤ rows.length * s := Nat.mul_le_mul_right _ hlt
      rw [Nat.add_mul, Nat.one_mul] at hb
      refine ⟨_, index_at hu h1 hlt, ?_, rfl⟩
      rw [load_agg ha h1 hg (by omega)]
      congr 2
      rw [← hat, ← hd, List.drop_take, List.take_take, List.drop_drop]
      congr 1
      omega
theorem Slr.src {h : Heap} {s : Nat} {v : AV} {rows : List (List AV)} (hs : Slr h s v rows) {t el : TypeId} (hu : P.underlying t = some (.slice el)) (hok : cellsOk rows.flatten = true) : srcA P h s t v = some (rows.length, rows.flatten) := by
  have hs2 := hs.2
  match v, hs2 with
  | .slice none n c, hs2 => obtain ⟨rfl, rfl⟩ := hs2; simp [srcA, hu]
  | .slice (some l) n c, hs2 =>
    obtain ⟨rfl, h0⟩ := hs2
    cases hn : rows.length with
    | zero =>
      have : rows = [] := List.length_eq_zero_iff.1 hn
      simp [srcA, hu, this]
    | succ n =>
      rcases h0 with h0 | ⟨cs, k', hg, hle, hd⟩
      · omega
      · simp only [srcA, hu, readA, hg]
        rw [hn] at hle hd
        rw [(ble_iff _ _).2 hle]
        simp only [cond_true, hd, hok]

/-- A slice of the call's own that is appended to: all of its block. -/
def Accr (n0 : Nat) (h : Heap) (s : Nat) (v : AV) (rows : List (List AV)) : Prop :=
  (∀ r ∈ rows, r.length = s) ∧ ((rows = [] ∧ ∃ l, v = .slice l 0 (.exact 0) ∧ ∀ x, l = some x → n0 ≤ x.id ∧ x.off = 0 ∧ ∃ cs, h.get x.id = some (.cells cs .own)) ∨ (∃ i, n0 ≤ i ∧ rows ≠ [] ∧ v = .slice (some ⟨i, 0⟩) rows.length (.tip s) ∧ h.get i = some (.cells rows.flatten .own)))
theorem Accr.slr {n0 : Nat} {h : Heap} {s : Nat} {v : AV} {rows : List (List AV)} (ha : Accr n0 h s v rows) : Slr h s v rows := by
  refine ⟨ha.1, ?_⟩
  have hfl := flatten_length ha.1
  rcases ha.2 with ⟨rfl, l, rfl, _⟩ | ⟨i, _, _, rfl, hg⟩
  · cases l with
    | none => exact ⟨rfl, rfl⟩
    | some x => exact ⟨rfl, .inl rfl⟩
  · exact ⟨rfl, .inr ⟨_, .own, hg, by simp only []; omega, by rw [List.drop_zero, ← hfl, List.take_length]⟩⟩
theorem Accr.id {n0 : Nat} {h : Heap} {s : Nat} {v : AV} {rows : List (List AV)} (ha : Accr n0 h s v rows) {i : Nat} (hi : idOf v = some i) : n0 ≤ i := by
  rcases ha.2 with ⟨rfl, l, rfl, hl⟩ | ⟨j, h1, _, rfl, hg⟩
  · cases l with
    | none => cases hi
    | some x => cases hi; exact (hl x rfl).1
  · cases hi; exact h1
theorem Accr.keep {n0 : Nat} {ex : List Nat} {h0 h : Heap} (hk : Keep ex h0 h) {s : Nat} {v : AV} {rows : List (List AV)} (hs : Accr n0 h0 s v rows) (hx : ∀ i ∈ ex, i < n0) : Accr n0 h s v rows := by
  refine ⟨hs.1, ?_⟩
  rcases hs.2 with ⟨h1, l, h2, h3⟩ | ⟨j, h1, h2, h3, hg⟩
  · refine .inl ⟨h1, l, h2, fun x hx' => ?_⟩
    obtain ⟨h4, h5, cs, h6⟩ := h3 x hx'
    exact ⟨h4, h5, cs, hk.get _ _ h6 (fun hm => by have := hx _ hm; omega)⟩
  · exact .inr ⟨j, h1, h2, h3, hk.get _ _ hg (fun hm => by have := hx _ hm; omega)⟩
/-- More is appended: one element or many. -/
theorem Accr.push {n0 : Nat} {ex : List Nat} {h0 h : Heap} {s : Nat} {v : AV} {rows : List (List AV)} (ha : Accr n0 h s v rows) (hk : Keep ex h0 h) (hn : h0.next ≤ n0) (hn' : n0 ≤ h.next) {t el : TypeId} (hu : P.underlying t = some (.slice el)) (h1 : sizeA P el = some s) (hs0 : 0 < s)
    {news : List (List AV)} {y : AV} (hy : Slr h s y news) (hok : cellsOk news.flatten = true) (hroom : news ≠ [] → roomA P el (rows.length + news.length) = true) :
    ∃ v' h', appendA P h t t v y = some (v', h') ∧ Accr n0 h' s v' (rows ++ news) ∧ Keep ex h0 h' ∧ h.next ≤ h'.next := by
  have hsrc := hy.src (P := P) hu hok
  have hall : ∀ r ∈ rows ++ news, r.length = s := by
    intro r hr
    rcases List.mem_append.1 hr with hr | hr
    · exact ha.1 r hr
    · exact hy.1 r hr
  have hfl := flatten_length ha.1
  cases hn2 : news.length with
  | zero =>
    have : news = [] := List.length_eq_zero_iff.1 hn2
    subst this
    obtain ⟨l, c, rfl⟩ := ha.slr.slice
    refine ⟨_, h, ?_, by simpa using ha, hk, Nat.le_refl _⟩
    simp only [appendA, hu, h1, hsrc, List.length_nil]
  | succ m =>
    rw [hn2] at hsrc hroom
    have hne : news ≠ [] := by intro hh; simp [hh] at hn2
    have hroom := hroom hne
    rcases ha.2 with ⟨rfl, l, rfl, hl⟩ | ⟨i, hi, hne', rfl, hg⟩
    · have hsl := flatten_length hy.1
      refine ⟨.slice (some ⟨h.next, 0⟩) (0 + (m + 1)) (.tip s), h.alloc (.cells news.flatten .own), ?_, ⟨by simpa using hy.1, .inr ⟨h.next, hn', by simpa using hne, by simp [hn2], by rw [Heap.get_alloc]; simp⟩⟩, hk.alloc _, by simp [Heap.next_alloc]⟩
      simp only [List.length_nil] at hroom
      cases l with
      | none => simp only [appendA, hu, h1, hsrc, hroom, cond_true]
      | some x =>
        obtain ⟨_, hx0, cs, hgx⟩ := hl x rfl
        have hb : Nat.ble (0 + (m + 1)) 0 = false := by simp [Nat.ble]
        have hrd : readA h x (0 * s) = some [] := by
          have : Nat.ble x.off cs.length = true := by rw [ble_iff, hx0]; omega
          simp [readA, hgx, this]
        simp only [appendA, hu, h1, hsrc, hroom, cond_true, hb, cond_false, hrd, List.nil_append]
    · refine ⟨.slice (some ⟨h.next, 0⟩) (rows.length + (m + 1)) (.tip s), (h.del i).alloc (.cells (rows.flatten ++ news.flatten) .own), ?_, ⟨hall, .inr ⟨h.next, hn', by simp [hne'], by simp [hn2], by
        have := Heap.get_alloc (h.del i) (.cells (rows.flatten ++ news.flatten) .own)
        rw [Heap.next_del] at this
        rw [this]; simp⟩⟩, (hk.del (.inr (by omega))).alloc _, by simp [Heap.next_alloc, Heap.next_del]⟩
      have hbig : rows.length * s < (rows.length + (m + 1)) * s := Nat.mul_lt_mul_of_pos_right (by omega) hs0
      have hb : Nat.ble (0 + (rows.length + (m + 1)) * s) rows.flatten.length = false := by
        cases hb : Nat.ble (0 + (rows.length + (m + 1)) * s) rows.flatten.length with
        | false => rfl
        | true => rw [ble_iff] at hb; omega
      have hb2 : Nat.beq (0 + rows.length * s) rows.flatten.length = true := by rw [hfl]; simp
      have hb3 : Nat.beq s s = true := by simp
      simp only [appendA, hu, h1, hsrc, hroom, cond_true, hg, hb, cond_false, hb3]
      rw [hb2]
      simp only [hok, Bool.and_true, cond_true, List.drop_zero]
end
end Go.Am
