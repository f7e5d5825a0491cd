/- Watches, sets and the lists of them, held apart in memory. -/
import Derived.Test.YtobgmjljbdehnaaAmWRunQ
set_option linter.unusedSimpArgs false
namespace Go.Am
open Go.RowKit Go.Proofs

def tagAdd (tg : Nat → Tg) (o : Option Nat) (t : Tg) : Nat → Tg := fun j => if tg j = .no ∧ o = some j then t else tg j
theorem tagAdd_ext {tg : Nat → Tg} {o : Option Nat} {t : Tg} : ExtT tg (tagAdd tg o t) := fun j hj => by simp [tagAdd, hj]
theorem tagAdd_new {tg : Nat → Tg} {j : Nat} {t : Tg} (h : tg j = .no) : tagAdd tg (some j) t j = t := by simp [tagAdd, h]
theorem tagAdd_ne {tg : Nat → Tg} {o : Option Nat} {j : Nat} {t : Tg} (h : o ≠ some j) : tagAdd tg o t j = tg j := by simp [tagAdd, h]
theorem tagAdd_rng {tg : Nat → Tg} {o : Option Nat} {t : Tg} {n0 n n' : Nat} (h : ∀ j, tg j ≠ .no → n0 ≤ j ∧ j < n) (hn : n ≤ n') (ho : ∀ j, o = some j → n0 ≤ j ∧ j < n') : ∀ j, tagAdd tg o t j ≠ .no → n0 ≤ j ∧ j < n' := by
  intro j hj
  by_cases h1 : tg j = .no ∧ o = some j
  · exact ho j h1.2
  · simp only [tagAdd, if_neg h1] at hj
    have := h j hj
    omega

structure Inv (n0 : Nat) (av : AV) (rows : List (List AV)) (tg : Nat → Tg) (g : Heap) (wv : AV) (pw : List AV) (fv : AV) (pf : List AV) (sv : AV) (ps : List AV) (mv : AV) (pm : List (List AV)) (ws : List (Nat × Nat)) (fs : List Bool) (ss : List SS) : Prop where
  wf : Wf g
  rng : ∀ j, tg j ≠ .no → n0 ≤ j ∧ j < g.next
  lo : n0 ≤ g.next
  sc : Slr g 3 av rows
  scl : rows ≠ [] → ∀ j, idOf av = some j → j < n0
  aw : AccT tg .wv g wv pw
  af : AccT tg .fv g fv pf
  asv : AccT tg .sv g sv ps
  am : AccrT tg .mv g mv pm
  cw : CW tg g ws fs
  cs : ∀ (k : Nat) (s : SS), ss[k]? = some s → CS tg g ws k s

section
variable {n0 : Nat} {av : AV} {rows : List (List AV)} {tg : Nat → Tg} {g : Heap} {wv : AV} {pw : List AV} {fv : AV} {pf : List AV} {sv : AV} {ps : List AV} {mv : AV} {pm : List (List AV)} {ws : List (Nat × Nat)} {fs : List Bool} {ss : List SS}

theorem Inv.fresh (h : Inv n0 av rows tg g wv pw fv pf sv ps mv pm ws fs ss) {j : Nat} (hj : g.next ≤ j) : tg j = .no := by
  by_cases h1 : tg j = .no
  · exact h1
  · have := h.rng j h1; omega
theorem Inv.script (h : Inv n0 av rows tg g wv pw fv pf sv ps mv pm ws fs ss) {ex : List Nat} {g' : Heap} (hk : Keep ex g g') (hx : ∀ j ∈ ex, tg j ≠ .no) : Slr g' 3 av rows :=
  h.sc.keep' hk (fun hne j hj hm => by
    have h1 := h.scl hne j hj
    have h2 := h.rng j (hx j hm)
    omega)
theorem Inv.keep0 (h : Inv n0 av rows tg g wv pw fv pf sv ps mv pm ws fs ss) {g' : Heap} (hk : Keep [] g g') : Inv n0 av rows tg g' wv pw fv pf sv ps mv pm ws fs ss where
  wf := hk.wf
  rng := fun j hj => by have := h.rng j hj; have := hk.le; omega
  lo := by have := h.lo; have := hk.le; omega
  sc := h.script hk (by simp)
  scl := h.scl
  aw := h.aw.keep (by simp) (fun _ _ => rfl) hk (by simp)
  af := h.af.keep (by simp) (fun _ _ => rfl) hk (by simp)
  asv := h.asv.keep (by simp) (fun _ _ => rfl) hk (by simp)
  am := h.am.keep (by simp) (fun _ _ => rfl) hk (by simp)
  cw := h.cw.keep (fun _ _ => rfl) hk (by simp)
  cs := fun k s hs => (h.cs k s hs).keep (fun _ _ => rfl) hk (by simp)
theorem Inv.pushW (h : Inv n0 av rows tg g wv pw fv pf sv ps mv pm ws fs ss) {g' : Heap} (hk : Keep (idOf wv).toList g g') {v' : AV} {p' : List AV} (ha : Acc 0 g' v' p') (hf : ∀ j, idOf v' = some j → g.next ≤ j) :
    ∃ tg', Inv n0 av rows tg' g' v' p' fv pf sv ps mv pm ws fs ss := by
  have hx : ∀ j ∈ (idOf wv).toList, tg j = .wv := fun j hj => h.aw.2 j (by simpa using hj)
  have hT : ExtT tg (tagAdd tg (idOf v') .wv) := tagAdd_ext
  have hlo := h.lo
  have hle := hk.le
  refine ⟨tagAdd tg (idOf v') .wv, ?_⟩
  exact {
    wf := hk.wf
    rng := tagAdd_rng h.rng hk.le (fun j hj => by have h1 := hf j hj; have h2 := ha.lt hk.wf hj; omega)
    lo := by omega
    sc := h.script hk (fun j hj => by rw [hx j hj]; simp)
    scl := h.scl
    aw := ⟨ha, fun j hj => by rw [hj]; exact tagAdd_new (h.fresh (hf j hj))⟩
    af := h.af.keep (by simp) hT hk (fun j hj => by rw [hx j hj]; simp)
    asv := h.asv.keep (by simp) hT hk (fun j hj => by rw [hx j hj]; simp)
    am := h.am.keep (by simp) hT hk (fun j hj => by rw [hx j hj]; simp)
    cw := h.cw.keep hT hk (fun j hj i => by rw [hx j hj]; simp)
    cs := fun k s hs => (h.cs k s hs).keep hT hk (fun j hj => by rw [hx j hj]; simp) }
theorem Inv.pushF (h : Inv n0 av rows tg g wv pw fv pf sv ps mv pm ws fs ss) {g' : Heap} (hk : Keep (idOf fv).toList g g') {v' : AV} {p' : List AV} (ha : Acc 0 g' v' p') (hf : ∀ j, idOf v' = some j → g.next ≤ j) :
    ∃ tg', Inv n0 av rows tg' g' wv pw v' p' sv ps mv pm ws fs ss := by
  have hx : ∀ j ∈ (idOf fv).toList, tg j = .fv := fun j hj => h.af.2 j (by simpa using hj)
  have hT : ExtT tg (tagAdd tg (idOf v') .fv) := tagAdd_ext
  have hlo := h.lo
  have hle := hk.le
  refine ⟨tagAdd tg (idOf v') .fv, ?_⟩
  exact {
    wf := hk.wf
    rng := tagAdd_rng h.rng hk.le (fun j hj => by have h1 := hf j hj; have h2 := ha.lt hk.wf hj; omega)
    lo := by omega
    sc := h.script hk (fun j hj => by rw [hx j hj]; simp)
    scl := h.scl
    af := ⟨ha, fun j hj => by rw [hj]; exact tagAdd_new (h.fresh (hf j hj))⟩
    aw := h.aw.keep (by simp) hT hk (fun j hj => by rw [hx j hj]; simp)
    asv := h.asv.keep (by simp) hT hk (fun j hj => by rw [hx j hj]; simp)
    am := h.am.keep (by simp) hT hk (fun j hj => by rw [hx j hj]; simp)
    cw := h.cw.keep hT hk (fun j hj i => by rw [hx j hj]; simp)
    cs := fun k s hs => (h.cs k s hs).keep hT hk (fun j hj => by rw [hx j hj]; simp) }
theorem Inv.pushS (h : Inv n0 av rows tg g wv pw fv pf sv ps mv pm ws fs ss) {g' : Heap} (hk : Keep (idOf sv).toList g g') {v' : AV} {p' : List AV} (ha : Acc 0 g' v' p') (hf : ∀ j, idOf v' = some j → g.next ≤ j) :
    ∃ tg', Inv n0 av rows tg' g' wv pw fv pf v' p' mv pm ws fs ss := by
  have hx : ∀ j ∈ (idOf sv).toList, tg j = .sv := fun j hj => h.asv.2 j (by simpa using hj)
  have hT : ExtT tg (tagAdd tg (idOf v') .sv) := tagAdd_ext
  have hlo := h.lo
  have hle := hk.le
  refine ⟨tagAdd tg (idOf v') .sv, ?_⟩
  exact {
    wf := hk.wf
    rng := tagAdd_rng h.rng hk.le (fun j hj => by have h1 := hf j hj; have h2 := ha.lt hk.wf hj; omega)
    lo := by omega
    sc := h.script hk (fun j hj => by rw [hx j hj]; simp)
    scl := h.scl
    asv := ⟨ha, fun j hj => by rw [hj]; exact tagAdd_new (h.fresh (hf j hj))⟩
    aw := h.aw.keep (by simp) hT hk (fun j hj => by rw [hx j hj]; simp)
    af := h.af.keep (by simp) hT hk (fun j hj => by rw [hx j hj]; simp)
    am := h.am.keep (by simp) hT hk (fun j hj => by rw [hx j hj]; simp)
    cw := h.cw.keep hT hk (fun j hj i => by rw [hx j hj]; simp)
    cs := fun k s hs => (h.cs k s hs).keep hT hk (fun j hj => by rw [hx j hj]; simp) }
theorem Inv.pushM (h : Inv n0 av rows tg g wv pw fv pf sv ps mv pm ws fs ss) {g' : Heap} (hk : Keep (idOf mv).toList g g') {v' : AV} {p' : List (List AV)} (ha : Accr 0 g' 2 v' p') (hf : ∀ j, idOf v' = some j → g.next ≤ j) :
    ∃ tg', Inv n0 av rows tg' g' wv pw fv pf sv ps v' p' ws fs ss := by
  have hx : ∀ j ∈ (idOf mv).toList, tg j = .mv := fun j hj => h.am.2 j (by simpa using hj)
  have hT : ExtT tg (tagAdd tg (idOf v') .mv) := tagAdd_ext
  have hlo := h.lo
  have hle := hk.le
  refine ⟨tagAdd tg (idOf v') .mv, ?_⟩
  exact {
    wf := hk.wf
    rng := tagAdd_rng h.rng hk.le (fun j hj => by have h1 := hf j hj; have h2 := ha.lt hk.wf hj; omega)
    lo := by omega
    sc := h.script hk (fun j hj => by rw [hx j hj]; simp)
    scl := h.scl
    am := ⟨ha, fun j hj => by rw [hj]; exact tagAdd_new (h.fresh (hf j hj))⟩
    aw := h.aw.keep (by simp) hT hk (fun j hj => by rw [hx j hj]; simp)
    af := h.af.keep (by simp) hT hk (fun j hj => by rw [hx j hj]; simp)
    asv := h.asv.keep (by simp) hT hk (fun j hj => by rw [hx j hj]; simp)
    cw := h.cw.keep hT hk (fun j hj i => by rw [hx j hj]; simp)
    cs := fun k s hs => (h.cs k s hs).keep hT hk (fun j hj => by rw [hx j hj]; simp) }
theorem Inv.storeF (h : Inv n0 av rows tg g wv pw fv pf sv ps mv pm ws fs ss) {i : Nat} (hi : idOf fv = some i) {g' : Heap} (hk : Keep [i] g g') {p' : List AV} (ha : Acc 0 g' fv p') :
    Inv n0 av rows tg g' wv pw fv p' sv ps mv pm ws fs ss := by
  have hx : ∀ j ∈ [i], tg j = .fv := fun j hj => by simp only [List.mem_singleton] at hj; subst hj; exact h.af.2 j hi
  have hT : ExtT tg tg := fun _ _ => rfl
  have hlo := h.lo
  have hle := hk.le
  exact {
    wf := hk.wf
    rng := fun j hj => by have := h.rng j hj; omega
    lo := by omega
    sc := h.script hk (fun j hj => by rw [hx j hj]; simp)
    scl := h.scl
    af := ⟨ha, h.af.2⟩
    aw := h.aw.keep (by simp) hT hk (fun j hj => by rw [hx j hj]; simp)
    asv := h.asv.keep (by simp) hT hk (fun j hj => by rw [hx j hj]; simp)
    am := h.am.keep (by simp) hT hk (fun j hj => by rw [hx j hj]; simp)
    cw := h.cw.keep hT hk (fun j hj i => by rw [hx j hj]; simp)
    cs := fun k s hs => (h.cs k s hs).keep hT hk (fun j hj => by rw [hx j hj]; simp) }
theorem Inv.storeM (h : Inv n0 av rows tg g wv pw fv pf sv ps mv pm ws fs ss) {i : Nat} (hi : idOf mv = some i) {g' : Heap} (hk : Keep [i] g g') {p' : List (List AV)} (ha : Accr 0 g' 2 mv p') :
    Inv n0 av rows tg g' wv pw fv pf sv ps mv p' ws fs ss := by
  have hx : ∀ j ∈ [i], tg j = .mv := fun j hj => by simp only [List.mem_singleton] at hj; subst hj; exact h.am.2 j hi
  have hT : ExtT tg tg := fun _ _ => rfl
  have hlo := h.lo
  have hle := hk.le
  exact {
    wf := hk.wf
    rng := fun j hj => by have := h.rng j hj; omega
    lo := by omega
    sc := h.script hk (fun j hj => by rw [hx j hj]; simp)
    scl := h.scl
    am := ⟨ha, h.am.2⟩
    aw := h.aw.keep (by simp) hT hk (fun j hj => by rw [hx j hj]; simp)
    af := h.af.keep (by simp) hT hk (fun j hj => by rw [hx j hj]; simp)
    asv := h.asv.keep (by simp) hT hk (fun j hj => by rw [hx j hj]; simp)
    cw := h.cw.keep hT hk (fun j hj i => by rw [hx j hj]; simp)
    cs := fun k s hs => (h.cs k s hs).keep hT hk (fun j hj => by rw [hx j hj]; simp) }

theorem snoc_get {α : Type} {xs : List α} {x y : α} {i : Nat} (h : (xs ++ [x])[i]? = some y) : xs[i]? = some y ∨ (i = xs.length ∧ y = x) := by
  rw [List.getElem?_append] at h
  split at h
  · exact .inl h
  · rename_i hlt
    have hi : i - xs.length = 0 := by
      by_cases hz : i - xs.length = 0
      · exact hz
      · obtain ⟨n, hn⟩ := Nat.exists_eq_succ_of_ne_zero hz
        rw [hn] at h; simp at h
    rw [hi] at h
    simp only [List.getElem?_cons_zero, Option.some.injEq] at h
    exact .inr ⟨by omega, h.symm⟩

theorem Inv.newW (h : Inv n0 av rows tg g wv pw fv pf sv ps mv pm ws fs ss) {g' : Heap} (hk : Keep [] g g') {W c : Nat} (hW : WAt g' W c false) (hc : g.next ≤ c) (hcW : c < W) (hWn : W < g'.next) :
    ∃ tg', Inv n0 av rows tg' g' wv pw fv pf sv ps mv pm (ws ++ [(W, c)]) (fs ++ [false]) ss := by
  have hT1 : ExtT tg (tagAdd tg (some W) (.w ws.length)) := tagAdd_ext
  have hT2 : ExtT (tagAdd tg (some W) (.w ws.length)) (tagAdd (tagAdd tg (some W) (.w ws.length)) (some c) (.c ws.length)) := tagAdd_ext
  have hW0 : tg W = .no := h.fresh (by omega)
  have hc0 : tg c = .no := h.fresh hc
  have hc1 : tagAdd tg (some W) (.w ws.length) c = .no := by rw [tagAdd_ne (by simp; omega)]; exact hc0
  have hT : ExtT tg (tagAdd (tagAdd tg (some W) (.w ws.length)) (some c) (.c ws.length)) := fun j hj => by
    have h1 := hT1 j hj
    rw [hT2 j (by rw [h1]; exact hj), h1]
  have htW : tagAdd (tagAdd tg (some W) (.w ws.length)) (some c) (.c ws.length) W = .w ws.length := by
    rw [tagAdd_ne (by simp; omega)]; exact tagAdd_new hW0
  have htc : tagAdd (tagAdd tg (some W) (.w ws.length)) (some c) (.c ws.length) c = .c ws.length := tagAdd_new hc1
  have hlo := h.lo
  have hle := hk.le
  have hrng := tagAdd_rng (t := .c ws.length) (o := some c) (tagAdd_rng (t := .w ws.length) (o := some W) h.rng hk.le (fun j hj => by cases hj; omega)) (Nat.le_refl _) (fun j hj => by cases hj; omega)
  generalize tagAdd (tagAdd tg (some W) (.w ws.length)) (some c) (.c ws.length) = tg' at hT htW htc hrng
  have hcw := h.cw.keep hT hk (by simp)
  refine ⟨tg', ?_⟩
  exact {
    wf := hk.wf
    rng := hrng
    lo := by omega
    sc := h.script hk (by simp)
    scl := h.scl
    aw := h.aw.keep (by simp) hT hk (by simp)
    af := h.af.keep (by simp) hT hk (by simp)
    asv := h.asv.keep (by simp) hT hk (by simp)
    am := h.am.keep (by simp) hT hk (by simp)
    cw := by
      refine ⟨⟨by simp [hcw.pl.1], fun i w b hi hb => ?_⟩, fun i w hi => ?_⟩
      · rcases snoc_get hi with hi | ⟨hi, rfl⟩ <;> rcases snoc_get hb with hb | ⟨hb, rfl⟩
        · exact hcw.pl.2 i w b hi hb
        · have h1 := (List.getElem?_eq_some_iff.1 hi).1
          have h2 := hcw.pl.1
          omega
        · have h1 := (List.getElem?_eq_some_iff.1 hb).1
          have h2 := hcw.pl.1
          omega
        · exact hW
      · rcases snoc_get hi with hi | ⟨rfl, rfl⟩
        · exact hcw.tag i w hi
        · exact ⟨htW, htc⟩
    cs := fun k s hs => ((h.cs k s hs).keep hT hk (by simp)).snoc _ }
theorem Inv.newS (h : Inv n0 av rows tg g wv pw fv pf sv ps mv pm ws fs ss) {g' : Heap} (hk : Keep [] g g') {S : Nat} {most : Int} (hS : SetAt g' S most (.slice none 0 (.exact 0)) []) (hS0 : g.next ≤ S) (hSn : S < g'.next) :
    ∃ tg', Inv n0 av rows tg' g' wv pw fv pf sv ps mv pm ws fs (ss ++ [⟨S, .slice none 0 (.exact 0), .slice none 0 (.exact 0), most, []⟩]) := by
  have hT : ExtT tg (tagAdd tg (some S) (.S ss.length)) := tagAdd_ext
  have hlo := h.lo
  have hle := hk.le
  refine ⟨tagAdd tg (some S) (.S ss.length), ?_⟩
  exact {
    wf := hk.wf
    rng := tagAdd_rng h.rng hk.le (fun j hj => by cases hj; omega)
    lo := by omega
    sc := h.script hk (by simp)
    scl := h.scl
    aw := h.aw.keep (by simp) hT hk (by simp)
    af := h.af.keep (by simp) hT hk (by simp)
    asv := h.asv.keep (by simp) hT hk (by simp)
    am := h.am.keep (by simp) hT hk (by simp)
    cw := h.cw.keep hT hk (by simp)
    cs := fun k s hs => by
      rcases snoc_get hs with hs | ⟨rfl, rfl⟩
      · exact (h.cs k s hs).keep hT hk (by simp)
      · exact ⟨tagAdd_new (h.fresh hS0), by simp [idOf], by simp, hS, ⟨rfl, rfl⟩, by simp⟩ }
theorem Inv.fire (h : Inv n0 av rows tg g wv pw fv pf sv ps mv pm ws fs ss) {a : Nat} {w : Nat × Nat} (ha : ws[a]? = some w) {g' : Heap} (hk : Keep [w.1, w.2] g g') (hW : WAt g' w.1 w.2 true) :
    Inv n0 av rows tg g' wv pw fv pf sv ps mv pm ws (fs.set a true) ss := by
  have ht := h.cw.tag a w ha
  have hx : ∀ j ∈ [w.1, w.2], tg j = .w a ∨ tg j = .c a := fun j hj => by
    simp only [List.mem_cons, List.mem_nil_iff, or_false] at hj
    rcases hj with rfl | rfl
    · exact .inl ht.1
    · exact .inr ht.2
  have hT : ExtT tg tg := fun _ _ => rfl
  have hlo := h.lo
  have hle := hk.le
  have hne : ∀ t, t ≠ .w a → t ≠ .c a → ∀ j ∈ [w.1, w.2], tg j ≠ t := fun t h1 h2 j hj he => by
    rcases hx j hj with h3 | h3
    · exact h1 (he.symm.trans h3)
    · exact h2 (he.symm.trans h3)
  exact {
    wf := hk.wf
    rng := fun j hj => by have := h.rng j hj; omega
    lo := by omega
    sc := h.script hk (hne .no (by simp) (by simp))
    scl := h.scl
    aw := h.aw.keep (by simp) hT hk (hne _ (by simp) (by simp))
    af := h.af.keep (by simp) hT hk (hne _ (by simp) (by simp))
    asv := h.asv.keep (by simp) hT hk (hne _ (by simp) (by simp))
    am := h.am.keep (by simp) hT hk (hne _ (by simp) (by simp))
    cw := by
      refine ⟨⟨by simp [h.cw.pl.1], fun i v b hi hb => ?_⟩, h.cw.tag⟩
      by_cases hia : a = i
      · subst hia
        rw [ha] at hi
        cases hi
        have : a < fs.length := by rw [← h.cw.pl.1]; exact (List.getElem?_eq_some_iff.1 ha).1
        rw [List.getElem?_set_self this] at hb
        cases hb
        exact hW
      · rw [List.getElem?_set_ne hia] at hb
        have ht2 := h.cw.tag i v hi
        refine (h.cw.pl.2 i v b hi hb).keep hk (fun hm => ?_) (fun hm => ?_)
        · rcases hx _ hm with h3 | h3
          · rw [ht2.1] at h3; cases h3; exact hia rfl
          · rw [ht2.1] at h3; cases h3
        · rcases hx _ hm with h3 | h3
          · rw [ht2.2] at h3; cases h3
          · rw [ht2.2] at h3; cases h3; exact hia rfl
    cs := fun k s hs => (h.cs k s hs).keep hT hk (fun j hj => ⟨hne _ (by simp) (by simp) j hj, hne _ (by simp) (by simp) j hj, hne _ (by simp) (by simp) j hj⟩) }
/-- A set and the document's set, each with one more. -/
theorem Inv.addS (h : Inv n0 av rows tg g wv pw fv pf sv ps mv pm ws fs ss) {k : Nat} {s : SS} (hs : ss[k]? = some s) {g1 g2 : Heap} (hk1 : Keep [] g g1) (hk2 : Keep (s.S :: (idOf s.hv).toList) g1 g2)
    {hv' held' : AV} {mem' : List Nat} (hS : SetAt g2 s.S s.most hv' (pickW ws mem')) (hv : hv' = s.hv ∨ ∀ j, idOf hv' = some j → g1.next ≤ j) (hm : Sl g1 held' (ints (natI mem'))) (hd : held' = s.held ∨ ∀ j, idOf held' = some j → g.next ≤ j) (hlt : ∀ a ∈ mem', a < ws.length) :
    ∃ tg', Inv n0 av rows tg' g2 wv pw fv pf sv ps mv pm ws fs (ss.set k { s with hv := hv', held := held', mem := mem' }) := by
  have hc := h.cs k s hs
  have hk : Keep (s.S :: (idOf s.hv).toList) g g2 := (hk1.more (by simp)).trans hk2
  have hx : ∀ j ∈ s.S :: (idOf s.hv).toList, tg j = .S k ∨ tg j = .hv k := fun j hj => by
    rcases List.mem_cons.1 hj with rfl | hj
    · exact .inl hc.tS
    · exact .inr (hc.tv j (by simpa using hj))
  have hne : ∀ t, t ≠ .S k → t ≠ .hv k → ∀ j ∈ s.S :: (idOf s.hv).toList, tg j ≠ t := fun t h1 h2 j hj he => by
    rcases hx j hj with h3 | h3
    · exact h1 (he.symm.trans h3)
    · exact h2 (he.symm.trans h3)
  have hle1 := hk1.le
  have hle2 := hk2.le
  have hlo := h.lo
  -- the document's set, where it holds any
  have hdt : mem' ≠ [] → ∀ j, idOf held' = some j → tg j = .held k ∨ (g.next ≤ j ∧ j < g1.next) := fun hne' j hj => by
    have hlt' : j < g1.next := hm.lt hk1.wf (by simpa [ints, natI] using hne') hj
    rcases hd with rfl | hd
    · refine .inl (hc.td (fun hz => hne' ?_) j hj)
      obtain ⟨l1, c1, e1⟩ := hm.slice
      obtain ⟨l2, c2, e2⟩ := hc.sl.slice
      rw [e1] at e2
      simp only [AV.slice.injEq] at e2
      have := e2.2.1
      simp only [ints, natI, List.length_map, hz, List.length_nil] at this
      exact List.length_eq_zero_iff.1 this
    · exact .inr ⟨hd j hj, hlt'⟩
  obtain ⟨o2, ho2⟩ : ∃ o, o = (if mem' = [] then none else idOf held') := ⟨_, rfl⟩
  have hvl : ∀ j, idOf hv' = some j → tg j = .hv k ∨ (g1.next ≤ j ∧ j < g2.next) := fun j hj => by
    rcases hv with rfl | hv
    · exact .inl (hc.tv j hj)
    · exact .inr ⟨hv j hj, hS.2.lt hk2.wf hj⟩
  have hT1 : ExtT tg (tagAdd tg o2 (.held k)) := tagAdd_ext
  have hT2 : ExtT (tagAdd tg o2 (.held k)) (tagAdd (tagAdd tg o2 (.held k)) (idOf hv') (.hv k)) := tagAdd_ext
  have hT : ExtT tg (tagAdd (tagAdd tg o2 (.held k)) (idOf hv') (.hv k)) := fun j hj => by
    have h1 := hT1 j hj
    rw [hT2 j (by rw [h1]; exact hj), h1]
  have ho2' : ∀ j, o2 = some j → mem' ≠ [] ∧ idOf held' = some j := fun j hj => by
    rw [ho2] at hj
    split at hj
    · cases hj
    · exact ⟨by assumption, hj⟩
  have hth : mem' ≠ [] → ∀ j, idOf held' = some j → tagAdd tg o2 (.held k) j = .held k := fun hne' j hj => by
    rcases hdt hne' j hj with h1 | h1
    · rw [hT1 j (by rw [h1]; simp), h1]
    · have : o2 = some j := by rw [ho2, if_neg hne', hj]
      rw [this]; exact tagAdd_new (h.fresh h1.1)
  have htv : ∀ j, idOf hv' = some j → tagAdd (tagAdd tg o2 (.held k)) (idOf hv') (.hv k) j = .hv k := fun j hj => by
    rcases hvl j hj with h1 | h1
    · rw [hT j (by rw [h1]; simp), h1]
    · rw [hj]
      refine tagAdd_new ?_
      rw [tagAdd_ne]
      · exact h.fresh (by omega)
      · intro hj2
        obtain ⟨h3, h4⟩ := ho2' j hj2
        rcases hdt h3 j h4 with h5 | h5
        · have := h.rng j (by rw [h5]; simp); omega
        · omega
  have hrng := tagAdd_rng (t := .hv k) (o := idOf hv') (tagAdd_rng (t := .held k) (o := o2) (n' := g2.next) h.rng (by omega) (fun j hj => by
      obtain ⟨h3, h4⟩ := ho2' j hj
      rcases hdt h3 j h4 with h5 | h5
      · have := h.rng j (by rw [h5]; simp); omega
      · omega)) (Nat.le_refl _) (fun j hj => by
      rcases hvl j hj with h5 | h5
      · have := h.rng j (by rw [h5]; simp); omega
      · omega)
  have hth' : mem' ≠ [] → ∀ j, idOf held' = some j → tagAdd (tagAdd tg o2 (.held k)) (idOf hv') (.hv k) j = .held k := fun hne' j hj => by
    have h1 := hth hne' j hj
    rw [hT2 j (by rw [h1]; simp), h1]
  generalize tagAdd (tagAdd tg o2 (.held k)) (idOf hv') (.hv k) = tg' at hT htv hrng hth'
  refine ⟨tg', ?_⟩
  exact {
    wf := hk.wf
    rng := hrng
    lo := by omega
    sc := h.script hk (hne .no (by simp) (by simp))
    scl := h.scl
    aw := h.aw.keep (by simp) hT hk (hne _ (by simp) (by simp))
    af := h.af.keep (by simp) hT hk (hne _ (by simp) (by simp))
    asv := h.asv.keep (by simp) hT hk (hne _ (by simp) (by simp))
    am := h.am.keep (by simp) hT hk (hne _ (by simp) (by simp))
    cw := h.cw.keep hT hk (fun j hj i => ⟨hne _ (by simp) (by simp) j hj, hne _ (by simp) (by simp) j hj⟩)
    cs := fun k' s' hs' => by
      by_cases hkk : k = k'
      · subst hkk
        rw [List.getElem?_set_self (List.getElem?_eq_some_iff.1 hs).1] at hs'
        cases hs'
        refine ⟨(hT _ (by rw [hc.tS]; simp)).trans hc.tS, htv, hth', hS, ?_, hlt⟩
        refine hm.keep' hk2 (fun hne' j hj hmm => ?_)
        have hne2 : mem' ≠ [] := fun hz => hne' (by rw [hz]; rfl)
        rcases hdt hne2 j hj with h1 | h1
        · rcases hx j hmm with h3 | h3
          · rw [h1] at h3; cases h3
          · rw [h1] at h3; cases h3
        · have h4 : tg j ≠ .no := by
            rcases hx j hmm with h3 | h3
            · rw [h3]; simp
            · rw [h3]; simp
          have := h.rng j h4; omega
      · rw [List.getElem?_set_ne hkk] at hs'
        have hc' := h.cs k' s' hs'
        refine hc'.keep hT hk (fun j hj => ⟨hne _ (by simp; exact fun hz => hkk hz.symm) (by simp) j hj, hne _ (by simp) (by simp; exact fun hz => hkk hz.symm) j hj, hne _ (by simp) (by simp) j hj⟩) }
end
end Go.Am
