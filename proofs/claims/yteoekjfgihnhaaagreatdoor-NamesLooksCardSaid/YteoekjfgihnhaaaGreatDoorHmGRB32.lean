/- The seat's first memory: schema.kinds. -/
import Derived.Test.YteoekjfgihnhaaaGreatDoorHmGRB31
import Derived.Test.YteoekjfgihnhaaaGreatDoorHmGRB29
set_option linter.all false
noncomputable section
namespace Go.Am
open Go.RowKit Go.Proofs

theorem globs : Tryz.prog.globals.size = 10 := by kernel_rfl
theorem hHeap_get {i : Nat} {o : Obj} (h : hHeap.get i = some o) : i = 1 ∧ o = kindsO := by
  have h : (T16.put .leaf 1 (some kindsO)).get i = some o := h
  by_cases hi : i = 1
  · subst hi; rw [T16.get_put] at h; exact ⟨rfl, (Option.some.inj h).symm⟩
  · rw [T16.get_put_ne _ (Ne.symm hi), show T16.leaf.get i = none from T16.get_leaf i] at h; cases h
theorem kinds_O {φ φ' : List Emb} {e : Emb} {w : World} (h : O φ e w kindsO) : O φ' e w kindsO := by
  obtain ⟨C, t, fr, h1, h2, h3, h4, h5, h6⟩ := h
  refine ⟨C, t, fr, h1, h2, h3, h4, h5, ?_⟩
  simp only [Vs, V] at h6 ⊢
  exact h6
theorem R.restrict {φ : List Emb} {h : Heap} {w0 w : World} (hR : R Tryz.prog φ h w0 w) (hk : h.get 1 = some kindsO) : R Tryz.prog (φ.take 10) hHeap w w where
  below := Below.refl _ _
  len := by
    obtain ⟨n, hn⟩ := hR.glob 9 (by rw [globs]; omega)
    have := (List.getElem?_eq_some_iff.1 hn).1
    show (φ.take 10).length = Tryz.prog.globals.size
    rw [globs, List.length_take]; omega
  objs := fun i o hi => by
    obtain ⟨rfl, rfl⟩ := hHeap_get hi
    obtain ⟨e, he, hO, _⟩ := hR.objs 1 _ hk
    exact ⟨e, by rw [List.getElem?_take, if_pos (by omega)]; exact he, kinds_O hO, fun hh => by cases hh⟩
  sep := fun i j oi oj ei ej hij hi hj => by
    obtain ⟨rfl, _⟩ := hHeap_get hi
    obtain ⟨rfl, _⟩ := hHeap_get hj
    exact absurd rfl hij
  glob := fun g hg => by
    obtain ⟨n, hn⟩ := hR.glob g hg
    rw [globs] at hg
    exact ⟨n, by rw [List.getElem?_take, if_pos hg]; exact hn⟩

end Go.Am
