/- A part of the proof by the abstract machine: SRunsP. -/
import Derived.Test.YtehccakjdbapiaaAmSRefN
import Derived.Test.YtehccakjdbapiaaAmSFair
set_option linter.unusedSimpArgs false
namespace Go.Am
open Go.RowKit Go.Proofs

section
variable {P : Program}
/-- What is ahead of a place. -/
theorem Sl.upto {h : Heap} {v : AV} {xs : List AV} (hs : Sl h v xs) {t el : TypeId} (hu : P.underlying t = some (.slice el)) (h1 : sizeA P el = some 1) {k : IntKind} {m : Nat} (hm : m < xs.length) :
    ∃ v', sliceA P t v none (some (.int k (m : Int))) none = some v' ∧ Sl h v' (xs.take m) := by
  match v, hs with
  | .slice none n c, hs => obtain ⟨_, rfl⟩ := hs; simp at hm
  | .slice (some l) n c, hs =>
    obtain ⟨⟨rfl, hcap⟩, h0 | ⟨cs, k', hg, hle, hd⟩⟩ := hs
    · omega
    · have hd' : (cs.drop l.off).take m = xs.take m := by
        rw [← hd, List.take_take, Nat.min_eq_left (by omega)]
      have hb : ∀ y, m ≤ y → boundA (some (.int k (m : Int))) xs.length y = some m := by
        intro y hy
        simp only [boundA]
        rw [if_pos ⟨by omega, by omega⟩]
        rfl
      have b2 : boundA none 0 m = some 0 := rfl
      have hlt : Nat.blt 0 xs.length = true := (blt_iff _ _).2 (by omega)
      have hlen : (xs.take m).length = m := by simp; omega
      simp only [sliceA, hu, sliceOf, h1]
      cases c with
      | exact n =>
        simp only [capOk] at hcap
        rw [hb _ (by simp only [Cap.sure]; omega)]
        simp only [b2]
        have hl : (bif Nat.beq n 0 then l else locAdd l (0 * 1)) = l := by cases n <;> simp [locAdd]
        rw [hl]
        exact ⟨_, rfl, ⟨⟨by rw [hlen]; omega, by simp only [capOk]; omega⟩, .inr ⟨cs, k', hg, by omega, by simpa using hd'⟩⟩⟩
      | tip e =>
        simp only [capOk] at hcap
        subst hcap
        rw [hb _ (by simp only [Cap.sure]; omega)]
        simp only [b2, hlt, cond_true, Trie.beq1, decide_true]
        exact ⟨_, rfl, ⟨⟨by rw [hlen]; omega, rfl⟩, .inr ⟨cs, k', hg, by simp only [locAdd]; omega, by simpa [locAdd] using hd'⟩⟩⟩
      | dim =>
        rw [hb _ (by simp only [Cap.sure]; omega)]
        simp only [b2, hlt, cond_true]
        exact ⟨_, rfl, ⟨⟨by rw [hlen]; omega, trivial⟩, .inr ⟨cs, k', hg, by simp only [locAdd]; omega, by simpa [locAdd] using hd'⟩⟩⟩
end

/-- A chooser that does not use some blocks. -/
def ChXs (ex : List Nat) (h : Heap) (C : Nat) (picks : List Int) (bound : Int) (ages : List Int) (last : Int) : Prop :=
  ∃ pv av, ChAt h C pv av picks bound ages last ∧ (picks ≠ [] → ∀ i, idOf pv = some i → i ∉ ex) ∧ (ages ≠ [] → ∀ i, idOf av = some i → i ∉ ex)
theorem ChXs.ch {ex : List Nat} {h : Heap} {C : Nat} {picks ages : List Int} {bound last : Int} (hC : ChXs ex h C picks bound ages last) : Ch h C picks bound ages last := by
  obtain ⟨p, a, h1, _⟩ := hC; exact ⟨p, a, h1⟩
theorem ChXs.nil {h : Heap} {C : Nat} {picks ages : List Int} {bound last : Int} (hC : Ch h C picks bound ages last) : ChXs [] h C picks bound ages last := by
  obtain ⟨p, a, h1⟩ := hC; exact ⟨p, a, h1, by simp, by simp⟩
theorem ChXs.cons {ex : List Nat} {A : Nat} {h : Heap} (hw : Wf h) {C : Nat} {picks ages : List Int} {bound last : Int} (hC : ChXs ex h C picks bound ages last) (hA : h.next ≤ A) : ChXs (A :: ex) h C picks bound ages last := by
  obtain ⟨p, a, h1, h2, h3⟩ := hC
  refine ⟨p, a, h1, fun hne i hi hm => ?_, fun hne i hi hm => ?_⟩
  · have := h1.2.1.lt hw (by simpa [ints] using hne) hi
    rcases List.mem_cons.1 hm with rfl | hm
    · omega
    · exact h2 hne i hi hm
  · have := h1.2.2.1.lt hw (by simpa [ints] using hne) hi
    rcases List.mem_cons.1 hm with rfl | hm
    · omega
    · exact h3 hne i hi hm
theorem ChXs.less {ex ex' : List Nat} {h : Heap} {C : Nat} {picks ages : List Int} {bound last : Int} (hC : ChXs ex h C picks bound ages last) (hx : ∀ i, i ∈ ex' → i ∈ ex) : ChXs ex' h C picks bound ages last := by
  obtain ⟨p, a, h1, h2, h3⟩ := hC
  exact ⟨p, a, h1, fun hne i hi hm => h2 hne i hi (hx i hm), fun hne i hi hm => h3 hne i hi (hx i hm)⟩
/-- Kept by writes into those blocks. -/
theorem ChXs.keep {ex ex' : List Nat} {h0 h : Heap} (hk : Keep ex' h0 h) {C : Nat} {picks ages : List Int} {bound last : Int} (hC : ChXs ex h0 C picks bound ages last) (hx : ∀ i, i ∈ ex' → i ∈ ex) (hc : C ∉ ex') : ChXs ex h C picks bound ages last := by
  obtain ⟨p, a, hc', h1, h2⟩ := hC
  refine ⟨p, a, ⟨hk.get _ _ hc'.1 hc, hc'.2.1.keep' hk ?_, hc'.2.2.1.keep' hk ?_, hc'.2.2.2⟩, h1, h2⟩
  · intro hne i hi hm
    exact h1 (by simpa [ints] using hne) i hi (hx i hm)
  · intro hne i hi hm
    exact h2 (by simpa [ints] using hne) i hi (hx i hm)
theorem ChXs.keep0 {ex : List Nat} {h0 h : Heap} (hk : Keep [] h0 h) {C : Nat} {picks ages : List Int} {bound last : Int} (hC : ChXs ex h0 C picks bound ages last) : ChXs ex h C picks bound ages last := hC.keep hk (by simp) (by simp)

theorem next_picks_ne {picks : List Int} {b : Int} {ages : List Int} {last : Int} {ready : List Bool} (h : (nextP picks b ages last ready).picks ≠ []) : picks ≠ [] := by
  rintro rfl
  apply h
  by_cases hne : whoFrom ready 0 = []
  · exact (next_none hne).2
  · rcases next_cases (picks := []) (b := b) (ages := ages) (last := last) hne with ⟨_, _, h3⟩ | ⟨_, ⟨p, ps, h1, _⟩ | ⟨_, _, h3⟩⟩
    · exact h3
    · cases h1
    · exact h3
theorem next_last (picks : List Int) (b : Int) (ages : List Int) (last : Int) (ready : List Bool) : (nextP picks b ages last ready).last = if 0 ≤ (nextP picks b ages last ready).chosen then (nextP picks b ages last ready).chosen else last := by
  by_cases hne : whoFrom ready 0 = []
  · simp [nextP, hne]
  · simp only [nextP, if_neg hne]
    rw [if_pos (by omega)]
theorem lastOf_snoc (cs : List (AV × List Bool × Int)) (x : AV × List Bool × Int) : lastOf (cs ++ [x]) = if 0 ≤ x.2.2 then x.2.2 else lastOf cs := by simp [lastOf]
theorem hist_snoc (cs : List (AV × List Bool × Int)) (x : AV × List Bool × Int) : hist (cs ++ [x]) = x.2 :: hist cs := by simp [hist]
/-- Ages in the whole history, one call on. -/
theorem ages_step {cs : List (AV × List Bool × Int)} {picks : List Int} {b : Int} {ages : List Int} {last : Int} {ready : List Bool} (hA : ∀ i, at0 ages i = (ageR (hist cs) i : Int)) (v : AV) (i : Nat) :
    at0 (nextP picks b ages last ready).ages i = (ageR (hist (cs ++ [(v, ready, (nextP picks b ages last ready).chosen)])) i : Int) := by
  rw [nextP_ages, newAges_at, hist_snoc]
  simp only [ageR]
  by_cases h1 : ready.getD i false = true
  · by_cases h2 : (nextP picks b ages last ready).chosen = (i : Int)
    · rw [if_neg (by intro h; exact h.2 h2.symm), if_pos (.inr h2)]; rfl
    · rw [if_pos ⟨h1, fun h => h2 h.symm⟩, if_neg (by rw [h1]; simp [h2]), hA]
      omega
  · rw [if_neg (by intro h; exact h1 h.1), if_pos (.inl (by simpa using h1))]; rfl
theorem CallsAt.keep' {ex : List Nat} {h0 h : Heap} (hk : Keep ex h0 h) {cv : AV} {cs : List (AV × List Bool × Int)} (hc : CallsAt h0 cv cs) (h1 : ∀ i, idOf cv = some i → i ∉ ex) (h2 : ∀ x ∈ cs, x.2.1 ≠ [] → ∀ i, idOf x.1 = some i → i ∉ ex) : CallsAt h cv cs :=
  ⟨hc.1.keep' hk (fun _ => h1), fun x hx => (hc.2 x hx).keep' hk (fun hne => h2 x hx (by simpa [bools] using hne))⟩

section
variable {ov : CallF}
theorem next_okXs (O : OvOk ov) {h : Heap} (hw : Wf h) {ex : List Nat} {C : Nat} (hA : ∀ A ∈ ex, A < h.next) {picks ages : List Int} {bound last : Int} (hC : ChXs ex h C picks bound ages last)
    {v : AV} {ready : List Bool} (hs : Sl h v (bools ready)) (hv : idOf v ≠ some C) (hn : ready.length ≤ 1000000000) (hages : ∀ a ∈ ages, 0 ≤ a ∧ a < 4611686018427387904) :
    ∃ h', callT ov Try.prog 14 [.ptr (some ⟨C, 0⟩), v] h = some (.ret (.tuple [.int .i64 (max (nextP picks bound ages last ready).chosen 0), .bool (decide (0 ≤ (nextP picks bound ages last ready).chosen))]) h') ∧
      ChXs ex h' C (nextP picks bound ages last ready).picks bound (nextP picks bound ages last ready).ages (nextP picks bound ages last ready).last ∧ Keep [C] h h' := by
  obtain ⟨pv, av, hCh, hx1, hx2⟩ := hC
  obtain ⟨h', h1, ⟨pv', av', h2, h3, h4⟩, h5⟩ := next_ok' O.o14 O.o27 O.o28 O.o29 O.o30 hw hCh hs hv hn hages
  refine ⟨h', h1, ⟨pv', av', h2, fun hne => ?_, fun _ i hi hm => ?_⟩, h5⟩
  · obtain ⟨hq1, hq2⟩ := h3 hne
    rw [hq2]; exact hx1 hq1
  · have := h4 _ hi; have := hA _ hm; omega
end
end Go.Am
