/- A part of the proof by the abstract machine: WAdd. -/
import Derived.Test.YtobgmjljbdehnaaAmWSet
set_option linter.unusedSimpArgs false
namespace Go.Am
open Go.RowKit Go.Proofs

theorem setAdd_nil {h : Heap} {S : Nat} : callT ov1 Try.prog 17 [.ptr (some ⟨S, 0⟩), .ptr none] h = some (.ret (.bool false) h) := by
  have main : ∃ r g, callT ov1 Try.prog 17 [.ptr (some ⟨S, 0⟩), .ptr none] h = some (.ret r g) ∧ r = .bool false ∧ g = h := by
    refine callT_wp (fn := Try.f17) (ov1_none rfl (by decide) (by decide) _ _) (by kernel_rfl) rfl ?_
    have hl : (frameA Try.f17 [.ptr (some ⟨S, 0⟩), .ptr none]).length = 36 := frameA_length (Nat.le_of_ble_eq_true rfl)
    have h1 : nth (frameA Try.f17 [.ptr (some ⟨S, 0⟩), .ptr none]) 1 = .ptr none := frameA_nth (Nat.le_of_ble_eq_true rfl)
    generalize frameA Try.f17 [.ptr (some ⟨S, 0⟩), .ptr none] = e at hl h1
    repeat apply WP.seq
    apply WP.region; simp [hl]
    repeat apply WP.seq
    apply WP.block
    repeat apply WP.seq
    apply WP.region; simp [hl, h1, bin_ptnil u24]
    apply WP.cond (t := true) (by simp [hl]) ?_ (by simp)
    intro _
    repeat apply WP.seq
    apply WP.region; simp [hl]
    apply WP.ret
    simp [hl, resultsA, resultA, single]
  obtain ⟨_, _, h1, rfl, rfl⟩ := main
  exact h1

/-- What a set comes to by an Add. -/
def addP (ws : List (Nat × Nat)) (most : Int) (w : Nat × Nat) : Bool × List (Nat × Nat) :=
  if 0 ≤ idxP ws w.1 then (true, ws) else if most ≤ (ws.length : Int) then (false, ws) else (true, ws ++ [w])

set_option maxHeartbeats 1000000 in
theorem setAdd_ok {h : Heap} (hw : Wf h) {S : Nat} {most : Int} {hv : AV} {ws : List (Nat × Nat)} {fs : List Bool} (hS : SetAt h S most hv ws) (hSv : ∀ j, idOf hv = some j → j ≠ S) (hW : WsAt h ws fs) {w : Nat × Nat} (hlive : livePtr h ⟨w.1, 0⟩ = true) (hn : ws.length ≤ 100000000) :
    ∃ h' hv', callT ov1 Try.prog 17 [.ptr (some ⟨S, 0⟩), .ptr (some ⟨w.1, 0⟩)] h = some (.ret (.bool (addP ws most w).1) h') ∧ SetAt h' S most hv' (addP ws most w).2 ∧ Keep (S :: (idOf hv).toList) h h' ∧ (hv' = hv ∨ ∀ j, idOf hv' = some j → h.next ≤ j) := by
  have hld : loadA Try.prog h 28 ⟨S, 1⟩ = some hv := load_cell a28 hS.1 rfl
  have hlm : loadA Try.prog h 3 ⟨S, 0⟩ = some (.int .i64 most) := load_cell a3 hS.1 rfl
  have hln : lenA Try.prog h 28 hv = some (.int .i64 (ws.length : Nat)) := by simpa using hS.2.sl.len (P := Try.prog) u28
  have hca : callA (callT ov1 Try.prog) Try.prog h 25 [hv, .ptr (some ⟨w.1, 0⟩)] = _ := contains_ok hS.2.sl hW hlive (by omega)
  have main : ∃ r h', callT ov1 Try.prog 17 [.ptr (some ⟨S, 0⟩), .ptr (some ⟨w.1, 0⟩)] h = some (.ret r h') ∧ r = .bool (addP ws most w).1 ∧ ∃ hv', SetAt h' S most hv' (addP ws most w).2 ∧ Keep (S :: (idOf hv).toList) h h' ∧ (hv' = hv ∨ ∀ j, idOf hv' = some j → h.next ≤ j) := by
    refine callT_wp (fn := Try.f17) (ov1_none rfl (by decide) (by decide) _ _) (by kernel_rfl) rfl ?_
    have hl : (frameA Try.f17 [.ptr (some ⟨S, 0⟩), .ptr (some ⟨w.1, 0⟩)]).length = 36 := frameA_length (Nat.le_of_ble_eq_true rfl)
    have h0 : nth (frameA Try.f17 [.ptr (some ⟨S, 0⟩), .ptr (some ⟨w.1, 0⟩)]) 0 = .ptr (some ⟨S, 0⟩) := frameA_nth (Nat.le_of_ble_eq_true rfl)
    have h1 : nth (frameA Try.f17 [.ptr (some ⟨S, 0⟩), .ptr (some ⟨w.1, 0⟩)]) 1 = .ptr (some ⟨w.1, 0⟩) := frameA_nth (Nat.le_of_ble_eq_true rfl)
    generalize frameA Try.f17 [.ptr (some ⟨S, 0⟩), .ptr (some ⟨w.1, 0⟩)] = e at hl h0 h1
    repeat apply WP.seq
    apply WP.region; simp [hl]
    repeat apply WP.seq
    apply WP.block
    repeat apply WP.seq
    apply WP.region; simp [hl, h1, bin_ptnil u24]
    apply WP.cond (t := false) (by simp [hl]) (by simp)
    intro _
    repeat apply WP.seq
    apply WP.region; simp [hl, h0, h1, fa71, hld, hca]
    apply WP.cond (by simp [hl]; rfl)
    · intro hc
      have hc : 0 ≤ idxP ws w.1 := by simpa using hc
      have hp : addP ws most w = (true, ws) := by simp only [addP, if_pos hc]
      repeat apply WP.seq
      apply WP.region; simp [hl]
      apply WP.ret
      simp [hl, resultsA, resultA, single, hp]
      exact ⟨hv, hS, Keep.refl hw, .inl rfl⟩
    · intro hc
      have hc : ¬ 0 ≤ idxP ws w.1 := by simpa using hc
      repeat apply WP.seq
      apply WP.draw (by kernel_rfl) (by kernel_rfl)
      simp [hl, h0, fa71, hld, hlm, hln]
      apply WP.cond (by simp [hl]; rfl)
      · intro hc2
        have hc2 : most ≤ (ws.length : Int) := by simpa using hc2
        have hp : addP ws most w = (false, ws) := by simp only [addP, if_neg hc, if_pos hc2]
        repeat apply WP.seq
        apply WP.region; simp [hl]
        apply WP.ret
        simp [hl, resultsA, resultA, single, hp]
        exact ⟨hv, hS, Keep.refl hw, .inl rfl⟩
      · intro hc2
        have hc2 : ¬ most ≤ (ws.length : Int) := by simpa using hc2
        have hp : addP ws most w = (true, ws ++ [w]) := by simp only [addP, if_neg hc, if_neg hc2]
        rw [hp]
        have hbs := build28_1 (h := h) (l := some ⟨w.1, 0⟩)
        have hk1 := (Keep.refl (ex := []) hw).alloc (.cells [.ptr (some ⟨w.1, 0⟩)] .own)
        have hg1 := Heap.get_alloc h (.cells [.ptr (some ⟨w.1, 0⟩)] .own)
        generalize h.alloc (.cells [.ptr (some ⟨w.1, 0⟩)] .own) = g1 at hbs hk1 hg1
        have hk1l := hk1.le
        obtain ⟨hv', g2, hap, hacc2, hk2, hid2⟩ := (hS.2.keep2 hk1 (by simp)).pushX (P := Try.prog) (ex := (idOf hv).toList) hk1.wf (by simp) (Nat.zero_le _) u28 s24 (room24 (by simp; omega)) (x := .ptr (some ⟨w.1, 0⟩)) (y := .slice (some ⟨h.next, 0⟩) 1 (.exact 1)) ⟨⟨rfl, by simp [capOk]⟩, .inr ⟨_, .own, hg1, by simp, rfl⟩⟩ rfl
        have hmem : ∀ j, j ∈ (idOf hv).toList → idOf hv = some j := fun j hj => by simpa using hj
        have hS2 := hk2.get _ _ (hk1.get _ _ hS.1 (by simp)) (fun hm => hSv S (hmem S hm) rfl)
        have hSn := hw _ _ hS.1
        have hk2l := hk2.le
        obtain ⟨dl, dc, hvs⟩ := hacc2.sl.slice
        have hst : storeA Try.prog g2 28 ⟨S, 1⟩ hv' = some (g2.set S (.cells [.int .i64 most, hv'] .own)) := store_cell s28 (by rw [hvs]; rfl) (sl_cellOk hacc2.sl) hS2 (by simp) (by simp)
        have hk3 := (Keep.refl (ex := [S]) hk2.wf).set (i := S) (.cells [.int .i64 most, hv'] .own) (by omega) (.inl (by simp))
        have hg3 := Heap.get_set g2 S (.cells [.int .i64 most, hv'] .own)
        generalize g2.set S (.cells [.int .i64 most, hv'] .own) = g3 at hst hk3 hg3
        have hacc3 := hacc2.keep2 hk3 (fun j hj => by have := hid2 j hj; simp; omega)
        have hpt : ptrs ws ++ [.ptr (some ⟨w.1, 0⟩)] = ptrs (ws ++ [w]) := by simp [ptrs]
        rw [hpt] at hacc3
        have hkf : Keep (S :: (idOf hv).toList) h g3 := (hk1.more (by simp)).trans ((hk2.more (fun j hj => .inl (List.mem_cons_of_mem _ hj))).trans (hk3.more (by simp)))
        apply WP.skip; simp
        repeat apply WP.seq
        apply WP.region; simp [hl, h0, h1, fa71, hld, hbs, hap, storeR_ptr hst]
        repeat apply WP.seq
        apply WP.region; simp [hl]
        apply WP.ret
        simp [hl, resultsA, resultA, single]
        exact ⟨hv', ⟨hg3, hacc3⟩, hkf, .inr (fun j hj => by have := hid2 j hj; omega)⟩
  obtain ⟨_, h', h1, rfl, hv', h2⟩ := main
  exact ⟨h', hv', h1, h2⟩
end Go.Am
