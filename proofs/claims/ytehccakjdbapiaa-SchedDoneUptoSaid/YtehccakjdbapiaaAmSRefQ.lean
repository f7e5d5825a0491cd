/- A part of the proof by the abstract machine: SRefQ. -/
import Derived.Test.YtehccakjdbapiaaAmSRefP
namespace Go.Am

theorem agesFor_at (ages : List Int) {n i : Nat} (hi : i < n) : at0 (agesFor ages n) i = at0 ages i := by
  simp only [at0, agesFor, List.getD_eq_getElem?_getD]
  by_cases hl : i < ages.length
  · rw [List.getElem?_append_left (by simp; omega), List.getElem?_take_of_lt hi]
  · rw [List.getElem?_append_right (by simp; omega), List.getElem?_replicate]
    rw [List.getElem?_eq_none (l := ages) (by omega)]
    split <;> rfl
theorem agesOf_for (ages : List Int) (ready : List Bool) : agesOf (agesFor ages ready.length) (whoFrom ready 0) = agesOf ages (whoFrom ready 0) := by
  apply List.map_congr_left
  intro a ha
  have := whoFrom_mem ready 0 a ha
  exact agesFor_at ages (by omega)

theorem next_cases {picks : List Int} {b : Int} {ages : List Int} {last : Int} {ready : List Bool} (hne : whoFrom ready 0 ≠ []) :
    (b ≤ at0 ages (oldF ages (whoFrom ready 0)).toNat ∧ (nextP picks b ages last ready).chosen = oldF ages (whoFrom ready 0) ∧ (nextP picks b ages last ready).picks = picks) ∨
    (¬ b ≤ at0 ages (oldF ages (whoFrom ready 0)).toNat ∧ ((∃ p ps, picks = p :: ps ∧ (nextP picks b ages last ready).chosen = ((whoFrom ready 0).getD (pickAt p (whoFrom ready 0).length).toNat 0 : Nat) ∧ (nextP picks b ages last ready).picks = ps) ∨
      (picks = [] ∧ (nextP picks b ages last ready).chosen = (scan last (whoFrom ready 0) 0 : Nat) ∧ (nextP picks b ages last ready).picks = []))) := by
  have hob := oldF_best ages _ _ rfl hne
  have hbl := best_lt (ws := agesOf ages (whoFrom ready 0)) (by rw [← List.length_pos_iff]; simpa [List.length_pos_iff] using hne) (whoFrom ready 0).length (by simp)
  simp only [agesOf_length] at hbl
  have hgl : (whoFrom ready 0)[best (agesOf ages (whoFrom ready 0)) (whoFrom ready 0).length]? = some _ := List.getElem?_eq_getElem hbl
  have hgd : (whoFrom ready 0).getD (best (agesOf ages (whoFrom ready 0)) (whoFrom ready 0).length) 0 = (whoFrom ready 0)[best (agesOf ages (whoFrom ready 0)) (whoFrom ready 0).length] := by simp [List.getD_eq_getElem?_getD, hgl]
  have hat := agesOf_get (ages := ages) hgl
  simp only [nextP, if_neg hne, chooseP, agesOf_for]
  rw [hob, Int.toNat_natCast, hgd, ← hat]
  by_cases hc : b ≤ at0 (agesOf ages (whoFrom ready 0)) (best (agesOf ages (whoFrom ready 0)) (whoFrom ready 0).length)
  · left
    refine ⟨hc, ?_, ?_⟩
    · simp only [if_pos hc, Int.toNat_natCast, hgd]
    · simp only [if_pos hc]
  · right
    refine ⟨hc, ?_⟩
    simp only [if_neg hc]
    cases picks with
    | cons p ps => left; exact ⟨p, ps, rfl, rfl, rfl⟩
    | nil => right; exact ⟨rfl, by simp [scan], rfl⟩
theorem next_none {picks : List Int} {b : Int} {ages : List Int} {last : Int} {ready : List Bool} (hne : whoFrom ready 0 = []) : (nextP picks b ages last ready).chosen = -1 ∧ (nextP picks b ages last ready).picks = picks := by
  simp [nextP, hne]
end Go.Am
