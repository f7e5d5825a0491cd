/- Slices of one-cell elements that a call builds from nothing by appending. -/
import Derived.Test.YtcfifjicjpncpaaGreatDoorHmGRHWorst14
set_option linter.all false
noncomputable section
namespace Go.Am
open Go.RowKit

section
variable {P : Program}

/-- What is appended to, from nothing on, in blocks of the call's own. -/
def Acc (n0 : Nat) (el : TypeId) (h : Heap) (v : AV) (xs : List AV) : Prop :=
  (xs = [] ∧ ∃ l, v = .slice l 0 (.exact 0) ∧ ∀ x, l = some x → n0 ≤ x.id ∧ x.off = 0 ∧ ∃ cs k, h.get x.id = some (.cells cs k)) ∨ (∃ i, n0 ≤ i ∧ xs ≠ [] ∧ v = .slice (some ⟨i, 0⟩) xs.length (.tip 1) ∧ h.get i = some (.cells xs (.own (some el))))
theorem Acc.empty {n0 : Nat} {el : TypeId} {h : Heap} {i : Nat} {cs : List AV} {k : Kind} (hi : n0 ≤ i) (hg : h.get i = some (.cells cs k)) : Acc n0 el h (.slice (some ⟨i, 0⟩) 0 (.exact 0)) [] := .inl ⟨rfl, _, rfl, fun _ hx => by cases hx; exact ⟨hi, rfl, cs, k, hg⟩⟩
theorem Acc.sl {n0 : Nat} {el : TypeId} {h : Heap} {v : AV} {xs : List AV} (ha : Acc n0 el h v xs) : Sl h v xs := by
  rcases ha with ⟨rfl, l, rfl, hl⟩ | ⟨i, _, _, rfl, hg⟩
  · cases l with
    | none => exact ⟨rfl, rfl⟩
    | some x => exact ⟨⟨rfl, Nat.le_refl _⟩, .inl rfl⟩
  · exact ⟨⟨rfl, rfl⟩, .inr ⟨xs, _, hg, by simp, by simp⟩⟩
theorem Acc.keep {n0 : Nat} {el : TypeId} {ex : List Nat} {h0 h : Heap} (hk : Keep ex h0 h) {v : AV} {xs : List AV} (hs : Acc n0 el h0 v xs) (hx : ∀ i ∈ ex, i < n0) : Acc n0 el h v xs := by
  rcases hs with ⟨h1, l, h2, h3⟩ | ⟨j, h1, h2, h3, hg⟩
  · refine .inl ⟨h1, l, h2, fun x hx' => ?_⟩
    obtain ⟨h4, h5, cs, k, h6⟩ := h3 x hx'
    exact ⟨h4, h5, cs, k, hk.get _ _ h6 (fun hm => by have := hx _ hm; omega)⟩
  · exact .inr ⟨j, h1, h2, h3, hk.get _ _ hg (fun hm => by have := hx _ hm; omega)⟩
/-- One more is appended. -/
theorem Acc.push {n0 : Nat} {ex : List Nat} {h0 h : Heap} {v : AV} {xs : List AV} {t el : TypeId} (ha : Acc n0 el h v xs) (hk : Keep ex h0 h) (hn : h0.next ≤ n0) (hn' : n0 ≤ h.next) (hu : P.underlying t = some (.slice el)) (h1 : sizeA P el = some 1) (hroom : roomA P el (xs.length + 1) = true)
    {x y : AV} (hy : Sl h y [x]) (hok : cellOk x = true) : ∃ v' h', appendA P h t t v y = some (v', h') ∧ Acc n0 el h' v' (xs ++ [x]) ∧ Keep ex h0 h' ∧ h.next ≤ h'.next := by
  have hsrc := hy.src (P := P) hu (by simp [cellsOk, hok])
  rcases ha with ⟨rfl, l, rfl, hl⟩ | ⟨i, hi, hne, rfl, hg⟩
  · simp only [List.length_nil, Nat.zero_add] at hroom
    refine ⟨.slice (some ⟨h.next, 0⟩) 1 (.tip 1), h.alloc (.cells [x] (.own (some el))), ?_, .inr ⟨h.next, hn', by simp, by simp, Heap.get_alloc _ _⟩, hk.alloc _, by simp [Heap.next_alloc]⟩
    cases l with
    | none => simp only [appendA, appendCore, hu, h1, hsrc, List.length_singleton, Nat.zero_add, hroom, cond_true]
    | some y =>
      obtain ⟨_, hx0, cs, k, hgx⟩ := hl y rfl
      have hb : Nat.ble 1 0 = false := rfl
      have hrd : readA h y (0 * 1) = some [] := by
        have : Nat.ble y.off cs.length = true := by rw [ble_iff, hx0]; omega
        simp [readA, hgx, this]
      simp only [appendA, appendCore, hu, h1, hsrc, List.length_singleton, Nat.zero_add, hroom, cond_true, hb, cond_false, hrd, List.nil_append]
  · refine ⟨.slice (some ⟨h.next, 0⟩) (xs.length + 1) (.tip 1), (h.del i).alloc (.cells (xs ++ [x]) (.own (some el))), ?_, .inr ⟨h.next, hn', by simp, by simp, Heap.get_alloc _ _⟩, (hk.del (.inr (by omega))).alloc _, by simp [Heap.next_alloc, Heap.next_del]⟩
    have hb : Nat.ble (0 + (xs.length + 1) * 1) xs.length = false := by
      cases hb : Nat.ble (0 + (xs.length + 1) * 1) xs.length with
      | false => rfl
      | true => rw [ble_iff] at hb; omega
    have hb2 : Nat.beq (0 + xs.length * 1) xs.length = true := by simp
    have hb4 : Nat.beq 1 1 = true := rfl
    have hb5 : Nat.beq el el = true := Nat.beq_refl _
    have hx : cellsOk [x] = true := by simp [cellsOk, hok]
    simp only [appendA, appendCore, hu, h1, hsrc, List.length_singleton, hroom, cond_true, hg, hb, cond_false, hb4]
    rw [hb2]
    simp only [hx, Bool.and_true, cond_true, List.drop_zero, growK, hb5]
end
end Go.Am
