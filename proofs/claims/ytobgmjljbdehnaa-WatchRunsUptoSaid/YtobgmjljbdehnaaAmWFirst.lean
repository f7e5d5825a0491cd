/- A part of the proof by the abstract machine: WFirst. -/
import Derived.Test.YtobgmjljbdehnaaAmWAdd
set_option linter.unusedSimpArgs false
namespace Go.Am
open Go.RowKit Go.Proofs

theorem firstT_none {α : Type} {p : α → Bool} : ∀ {ws : List α} {k : Nat}, (∀ w ∈ ws, p w = false) → firstT (ws.map p) k = -1
  | [], _, _ => rfl
  | w :: ws, k, h => by
    simp only [List.map_cons, firstT, h w List.mem_cons_self, Bool.false_eq_true, if_false]
    exact firstT_none (fun v hv => h v (List.mem_cons_of_mem _ hv))
theorem idxP_new {ws : List (Nat × Nat)} {W : Nat} (h : ∀ w ∈ ws, w.1 ≠ W) : idxP ws W = -1 := by
  refine firstT_none fun w hw => ?_
  have := h w hw
  simp; exact fun hh => this hh.symm

/-- Watches one behind the other. -/
def Inc (ws : List (Nat × Nat)) : Prop := ∀ (i j : Nat) (p q : Nat × Nat), ws[i]? = some p → ws[j]? = some q → i < j → p.1 < q.2
theorem Inc.snoc {ws : List (Nat × Nat)} (h : Inc ws) {w : Nat × Nat} (hw : ∀ p ∈ ws, p.1 < w.2) : Inc (ws ++ [w]) := by
  intro i j p q hp hq hij
  by_cases hj : j < ws.length
  · rw [List.getElem?_append_left hj] at hq
    rw [List.getElem?_append_left (by omega)] at hp
    exact h i j p q hp hq hij
  · have hj' : j = ws.length := by
      have := (List.getElem?_eq_some_iff.1 hq).1
      simp at this; omega
    subst hj'
    rw [List.getElem?_append_left (by omega)] at hp
    simp at hq
    subst hq
    exact hw p (List.mem_of_getElem? hp)
/-- One is fired; the others notice nothing. -/
theorem WsAt.fire {h0 h : Heap} {ws : List (Nat × Nat)} {fs : List Bool} (hW : WsAt h0 ws fs) (hI : Inc ws) (hlt : ∀ w ∈ ws, w.2 < w.1) {a : Nat} {w : Nat × Nat} (ha : ws[a]? = some w) (hk : Keep [w.1, w.2] h0 h) (hWa : WAt h w.1 w.2 true) : WsAt h ws (fs.set a true) := by
  refine ⟨by simpa using hW.1, fun i p b hi hb => ?_⟩
  by_cases hia : a = i
  · subst hia
    rw [ha] at hi
    cases hi
    have : a < fs.length := by rw [← hW.1]; exact (List.getElem?_eq_some_iff.1 ha).1
    rw [List.getElem?_set_self this] at hb
    cases hb
    exact hWa
  · rw [List.getElem?_set_ne hia] at hb
    have hp := hlt p (List.mem_of_getElem? hi)
    have hw := hlt w (List.mem_of_getElem? ha)
    refine (hW.2 i p b hi hb).keep hk ?_ ?_
    · simp only [List.mem_cons, List.mem_nil_iff, or_false]
      rcases Nat.lt_or_gt_of_ne hia with h1 | h1
      · have := hI a i w p ha hi h1; omega
      · have := hI i a p w hi ha h1; omega
    · simp only [List.mem_cons, List.mem_nil_iff, or_false]
      rcases Nat.lt_or_gt_of_ne hia with h1 | h1
      · have := hI a i w p ha hi h1; omega
      · have := hI i a p w hi ha h1; omega

set_option maxHeartbeats 4000000 in
theorem first_ok {h : Heap} (hw : Wf h) (n0 : Int) {fv : AV} {fire : List Int} (hfv : Sl h fv (ints fire)) (hfn : fire.length ≤ 9223372036854775807) : ∃ h', callT ov1 Try.prog 6 [.int .i64 n0, fv] h = some (.ret (.bool true) h') := by
  obtain ⟨g0, hal, hk0⟩ := walive_ok hw
  have main : ∃ r h', callT ov1 Try.prog 6 [.int .i64 n0, fv] h = some (.ret r h') ∧ r = .bool true := by
    refine callT_wp (Q := fun r _ => r = .bool true) (fn := Try.f6) (ov1_none rfl (by decide) (by decide) _ _) (by kernel_rfl) rfl ?_
    have hl : (frameA Try.f6 [.int .i64 n0, fv]).length = 83 := frameA_length (Nat.le_of_ble_eq_true rfl)
    have h0 : nth (frameA Try.f6 [.int .i64 n0, fv]) 0 = .int .i64 n0 := frameA_nth (Nat.le_of_ble_eq_true rfl)
    have h1 : nth (frameA Try.f6 [.int .i64 n0, fv]) 1 = fv := frameA_nth (Nat.le_of_ble_eq_true rfl)
    generalize frameA Try.f6 [.int .i64 n0, fv] = e at hl h0 h1
    have hlenf : ∀ h, lenA Try.prog h 37 fv = some (.int .i64 (fire.length : Nat)) := by
      intro h; obtain ⟨l, c, rfl⟩ := hfv.slice; simpa using lenA_slice (P := Try.prog) u37
    have hca8 : callA (callT ov1 Try.prog) Try.prog h 8 [] = _ := hal
    repeat apply WP.seq
    apply WP.region; simp [hl]
    repeat apply WP.seq
    apply WP.region; simp [hl, hca8]
    repeat apply WP.seq
    apply WP.cond (t := false) (by simp [hl]) (by simp)
    intro _
    apply WP.skip; simp
    repeat apply WP.seq
    by_cases hbad : n0 < 0 ∨ 200 < n0
    · apply WP.region
      by_cases hneg : n0 < 0
      · simp [hl, h0, guardA, hneg]
        repeat apply WP.seq
        apply WP.cond (t := true) (by simp [hl]) ?_ (by simp)
        intro _
        repeat apply WP.seq
        apply WP.region; simp [hl]
        apply WP.ret
        simp [hl, resultsA, resultA, single]
      · have hbig : 200 < n0 := by omega
        simp [hl, h0, guardA, hneg, hbig]
        repeat apply WP.seq
        apply WP.cond (t := true) (by simp [hl]) ?_ (by simp)
        intro _
        repeat apply WP.seq
        apply WP.region; simp [hl]
        apply WP.ret
        simp [hl, resultsA, resultA, single]
    · obtain ⟨n, rfl⟩ := Int.eq_ofNat_of_zero_le (show 0 ≤ n0 by omega)
      have hn : n ≤ 200 := by omega
      have hneg : ¬ ((n : Nat) : Int) < 0 := by omega
      have hbig : ¬ (200 : Int) < (n : Nat) := by omega
      apply WP.region; simp [hl, h0, guardA, hneg, hbig]
      repeat apply WP.seq
      apply WP.cond (t := false) (by simp [hl]) (by simp)
      intro _
      apply WP.skip; simp
      repeat apply WP.seq
      obtain ⟨S, g1, hset, hS1, hk1, hSh, hSn⟩ := newSet_ok hk0.wf (n : Int)
      have hmx : max ((n : Nat) : Int) 0 = n := by omega
      rw [hmx] at hS1
      have hca13 : callA (callT ov1 Try.prog) Try.prog g0 13 [.int .i64 (n : Nat)] = _ := hset
      have hk0l := hk0.le
      apply WP.region; simp [hl, h0, hca13]
      repeat apply WP.seq
      apply WP.region; simp [hl, bin_ptnil u34]
      repeat apply WP.seq
      apply WP.cond (t := false) (by simp [hl]) (by simp)
      intro _
      apply WP.skip; simp
      repeat apply WP.seq
      have hk2 := (Keep.refl (ex := []) hk1.wf).alloc (.cells [] .own)
      have hV2 := Heap.get_alloc g1 (.cells [] .own)
      have hbs := build28 (h := g1)
      generalize g1.alloc (.cells [] .own) = g2 at hk2 hV2 hbs
      have hacc2 : Acc 0 g2 (.slice (some ⟨g1.next, 0⟩) 0 (.exact 0)) (ptrs []) := Acc.empty (Nat.zero_le _) hV2
      have hid2 : ∀ j, idOf (.slice (some ⟨g1.next, 0⟩) 0 (.exact 0)) = some j → j = g1.next := by intro j hj; cases hj; rfl
      generalize AV.slice (some ⟨g1.next, 0⟩) 0 (.exact 0) = wv0 at hbs hacc2 hid2
      have hfv2 : Sl g2 fv (ints fire) := (hfv.keep (hk0.trans hk1) (by simp)).keep hk2 (by simp)
      have hfid : ints fire ≠ [] → ∀ j, idOf fv = some j → j < h.next := fun hne j hj => hfv.lt hw hne hj
      apply WP.region; simp [hl, hbs]
      repeat apply WP.seq
      apply WP.region; simp [hl]
      repeat apply WP.seq
      apply WP.block
      refine WP.loop (fun k e g => e.length = 83 ∧ nth e 0 = .int .i64 n ∧ nth e 1 = fv ∧ nth e 5 = .ptr (some ⟨S, 0⟩) ∧ Wf g ∧ S < g.next ∧ h.next ≤ g.next ∧ Sl g fv (ints fire) ∧ ∃ i, i ≤ n ∧ k = n - i ∧ nth e 7 = .int .i64 (i : Nat) ∧ ∃ (ws : List (Nat × Nat)) (hv wv : AV), nth e 6 = wv ∧ ws.length = i ∧ SetAt g S n hv ws ∧ Acc 0 g wv (ptrs ws) ∧ WsAt g ws (List.replicate i false) ∧ Inc ws ∧ (∀ w ∈ ws, S < w.2 ∧ w.2 < w.1 ∧ w.1 < g.next) ∧
        (∀ j, idOf hv = some j → j ≠ S ∧ h.next ≤ j ∧ idOf wv ≠ some j) ∧ (∀ j, idOf wv = some j → j ≠ S ∧ h.next ≤ j) ∧ (∀ w ∈ ws, ∀ j, idOf hv = some j ∨ idOf wv = some j → w.1 ≠ j ∧ w.2 ≠ j)) ?_ n _ _ ?_
      · rintro k e g ⟨hl, h0, h1, h5, hwg, hSg, hhg, hfg, i, hi, rfl, h7, ws, hv, wv, h6, hwl, hS, hacc, hW, hI, hwr, hvx, hwvx, hdis⟩
        have hvlt := fun j (hj : idOf hv = some j) => hS.2.lt hwg hj
        have hwlt := fun j (hj : idOf wv = some j) => hacc.lt hwg hj
        repeat apply WP.seq
        apply WP.region; simp [hl, h0, h7]
        repeat apply WP.seq
        apply WP.cond (by simp [hl]; rfl)
        · intro hlt1
          have hlt1 : i < n := by simpa using hlt1
          apply WP.skip; simp
          repeat apply WP.seq
          apply WP.block
          repeat apply WP.seq
          obtain ⟨W, c, g3, hnew, hWn, hk3, hc3, hcW, hWg3⟩ := wnew_ok hwg
          have hk3l := hk3.le
          have hca9 : callA (callT ov1 Try.prog) Try.prog g 9 [] = _ := hnew
          have hlive : livePtr g3 ⟨W, 0⟩ = true := by simp [livePtr, hWn.1]
          have hS3 := hS.keep hk3 (by simp) (by simp)
          have hW3 := hW.keep hk3 (by simp)
          obtain ⟨g4, hv4, hadd, hS4, hk4, hvid4⟩ := setAdd_ok hk3.wf hS3 (fun j hj => (hvx j hj).1) hW3 (w := (W, c)) hlive (by omega)
          have hix : idxP ws W = -1 := idxP_new fun w hm => by have := hwr w hm; omega
          have hp : addP ws (n : Int) (W, c) = (true, ws ++ [(W, c)]) := by
            simp only [addP, hix]
            rw [if_neg (by omega), if_neg (by omega)]
          rw [hp] at hadd hS4
          have hk4l := hk4.le
          have hmem : ∀ j, j ∈ S :: (idOf hv).toList → j = S ∨ idOf hv = some j := by
            intro j hj
            rcases List.mem_cons.1 hj with h1 | h1
            · exact .inl h1
            · exact .inr (by simpa using h1)
          have hca17 : callA (callT ov1 Try.prog) Try.prog g3 17 [.ptr (some ⟨S, 0⟩), .ptr (some ⟨W, 0⟩)] = _ := hadd
          have hacc4 := (hacc.keep2 hk3 (by simp)).keep2 hk4 (fun j hj hm => by
            rcases hmem j hm with h1 | h1
            · exact (hwvx j hj).1 h1
            · exact (hvx j h1).2.2 hj)
          have hvlt4 : ∀ j, idOf hv4 = some j → (idOf hv = some j) ∨ g3.next ≤ j := by
            rcases hvid4 with rfl | h1
            · exact fun j hj => .inl hj
            · exact fun j hj => .inr (h1 j hj)
          have hWnx : W ∉ S :: (idOf hv).toList := fun hm => by
            rcases hmem W hm with h1 | h1
            · omega
            · have := hvlt W h1; omega
          have hcnx : c ∉ S :: (idOf hv).toList := fun hm => by
            rcases hmem c hm with h1 | h1
            · omega
            · have := hvlt c h1; omega
          have hWn4 := hWn.keep hk4 hWnx hcnx
          have hW4 := hW3.keep hk4 (fun w hm => by
            have h2 := hwr w hm
            refine ⟨fun h3 => ?_, fun h3 => ?_⟩
            · rcases hmem _ h3 with h1 | h1
              · omega
              · exact (hdis w hm _ (.inl h1)).1 rfl
            · rcases hmem _ h3 with h1 | h1
              · omega
              · exact (hdis w hm _ (.inl h1)).2 rfl)
          -- the second list
          have hbs4 := build28_1 (h := g4) (l := some ⟨W, 0⟩)
          have hk5 := (Keep.refl (ex := []) hk4.wf).alloc (.cells [.ptr (some ⟨W, 0⟩)] .own)
          have hg5 := Heap.get_alloc g4 (.cells [.ptr (some ⟨W, 0⟩)] .own)
          generalize g4.alloc (.cells [.ptr (some ⟨W, 0⟩)] .own) = g5 at hbs4 hk5 hg5
          have hk5l := hk5.le
          obtain ⟨wv6, g6, hap, hacc6, hk6, hid6⟩ := (hacc4.keep2 hk5 (by simp)).pushX (P := Try.prog) (ex := (idOf wv).toList) hk5.wf (by simp) (Nat.zero_le _) u28 s24 (room24 (by simp; omega)) (x := .ptr (some ⟨W, 0⟩)) (y := .slice (some ⟨g4.next, 0⟩) 1 (.exact 1)) ⟨⟨rfl, by simp [capOk]⟩, .inr ⟨_, .own, hg5, by simp, rfl⟩⟩ rfl
          have hk6l := hk6.le
          have hpt : ptrs ws ++ [.ptr (some ⟨W, 0⟩)] = ptrs (ws ++ [(W, c)]) := by simp [ptrs]
          rw [hpt] at hacc6
          have hmem6 : ∀ j, j ∈ (idOf wv).toList → idOf wv = some j := fun j hj => by simpa using hj
          have hk46 : Keep (idOf wv).toList g4 g6 := (hk5.more (by simp)).trans hk6
          have hS6 := hS4.keep hk46 (fun hm => (hwvx S (hmem6 S hm)).1 rfl) (fun j hj hm => by
            rcases hvlt4 j hj with h1 | h1
            · exact (hvx j h1).2.2 (hmem6 j hm)
            · have := hwlt j (hmem6 j hm); omega)
          have hWn6 := hWn4.keep hk46 (fun hm => by have := hwlt W (hmem6 W hm); omega) (fun hm => by have := hwlt c (hmem6 c hm); omega)
          have hW6 := hW4.keep hk46 (fun w hm => ⟨fun h3 => (hdis w hm _ (.inr (hmem6 _ h3))).1 rfl, fun h3 => (hdis w hm _ (.inr (hmem6 _ h3))).2 rfl⟩)
          have hWs6 : WsAt g6 (ws ++ [(W, c)]) (List.replicate (i + 1) false) := by
            refine ⟨by simp [hwl], fun j p b hp hb => ?_⟩
            by_cases hj : j < ws.length
            · rw [List.getElem?_append_left hj] at hp
              refine hW6.2 j p b hp ?_
              rw [List.getElem?_replicate] at hb ⊢
              rw [if_pos (by omega)] at hb ⊢
              exact hb
            · have hj' : j = ws.length := by
                have := (List.getElem?_eq_some_iff.1 hp).1
                simp at this; omega
              subst hj'
              simp at hp
              subst hp
              rw [List.getElem?_replicate, if_pos (by omega)] at hb
              cases hb
              exact hWn6
          have hfg6 : Sl g6 fv (ints fire) := ((hfg.keep hk3 (by simp)).keep' hk4 (fun hne j hj hm => by
            have h2 := hfid hne j hj
            rcases hmem j hm with h1 | h1
            · omega
            · have := (hvx j h1).2.1; omega)).keep' hk46 (fun hne j hj hm => by
            have h2 := hfid hne j hj
            have := (hwvx j (hmem6 j hm)).2; omega)
          apply WP.region; simp [hl, hca9]
          repeat apply WP.seq
          apply WP.region; simp [hl, h5, bin_ptnil u24, guardA, hca17]
          repeat apply WP.seq
          apply WP.cond (t := false) (by simp [hl]) (by simp)
          intro _
          apply WP.skip; simp
          apply WP.region; simp [hl, h6, hbs4, hap]
          apply WP.region; simp [hl, h7, int_wrap (show i < 9223372036854775807 by omega)]
          refine ⟨n - (i + 1), by omega, h0, h1, h5, hk6.wf, by omega, by omega, hfg6, i + 1, by omega, rfl, by simp, ws ++ [(W, c)], by simp [hwl], hv4, hS6, hacc6, hWs6, hI.snoc (fun p hm => by have := hwr p hm; omega), ?_, ?_, ?_, ?_⟩
          · intro a b hm
            rcases List.mem_append.1 hm with h | h
            · have := hwr (a, b) h; simp only at this; omega
            · simp only [List.mem_singleton, Prod.mk.injEq] at h
              obtain ⟨rfl, rfl⟩ := h
              omega
          · intro j hj
            rcases hvlt4 j hj with h1 | h1
            · have h2 := hvx j h1
              exact ⟨h2.1, h2.2.1, fun h3 => by have := hid6 j h3; have := hvlt j h1; omega⟩
            · refine ⟨by omega, by omega, fun h3 => ?_⟩
              have h4 := hid6 j h3
              have := hS4.2.lt hk4.wf hj
              omega
          · intro j hj
            have := hid6 j hj
            omega
          · intro a b hm j hj
            have hlt : a < g3.next ∧ b < g3.next := by
              rcases List.mem_append.1 hm with h | h
              · have := hwr (a, b) h; simp only at this; omega
              · simp only [List.mem_singleton, Prod.mk.injEq] at h
                obtain ⟨rfl, rfl⟩ := h
                omega
            rcases hj with hj | hj
            · rcases hvlt4 j hj with h1 | h1
              · rcases List.mem_append.1 hm with h | h
                · exact hdis (a, b) h j (.inl h1)
                · simp only [List.mem_singleton, Prod.mk.injEq] at h
                  obtain ⟨rfl, rfl⟩ := h
                  have := hvlt j h1
                  omega
              · omega
            · have := hid6 j hj
              omega
        · intro hge
          have hge : ¬ i < n := by simpa using hge
          apply WP.exit
          simp
          have hii : i = n := by omega
          subst hii
          repeat apply WP.seq
          -- one too many
          obtain ⟨W, c, g3, hnew, hWn, hk3, hc3, hcW, hWg3⟩ := wnew_ok hwg
          have hk3l := hk3.le
          have hca9 : callA (callT ov1 Try.prog) Try.prog g 9 [] = _ := hnew
          have hlive : livePtr g3 ⟨W, 0⟩ = true := by simp [livePtr, hWn.1]
          have hS3 := hS.keep hk3 (by simp) (by simp)
          have hW3 := hW.keep hk3 (by simp)
          obtain ⟨g4, hv4, hadd, hS4, hk4, hvid4⟩ := setAdd_ok hk3.wf hS3 (fun j hj => (hvx j hj).1) hW3 (w := (W, c)) hlive (by omega)
          have hix : idxP ws W = -1 := idxP_new fun w hm => by have := hwr w hm; omega
          have hp : addP ws (i : Int) (W, c) = (false, ws) := by
            simp only [addP, hix]
            rw [if_neg (by omega), if_pos (by omega)]
          rw [hp] at hadd hS4
          have hmem : ∀ j, j ∈ S :: (idOf hv).toList → j = S ∨ idOf hv = some j := by
            intro j hj
            rcases List.mem_cons.1 hj with h1 | h1
            · exact .inl h1
            · exact .inr (by simpa using h1)
          have hvlt4 : ∀ j, idOf hv4 = some j → (idOf hv = some j) ∨ g3.next ≤ j := by
            rcases hvid4 with rfl | h1
            · exact fun j hj => .inl hj
            · exact fun j hj => .inr (h1 j hj)
          have hca17 : callA (callT ov1 Try.prog) Try.prog g3 17 [.ptr (some ⟨S, 0⟩), .ptr (some ⟨W, 0⟩)] = _ := hadd
          have hca14 : callA (callT ov1 Try.prog) Try.prog g4 14 [.ptr (some ⟨S, 0⟩)] = _ := setLen_ok hS4
          have hacc4 := (hacc.keep2 hk3 (by simp)).keep2 hk4 (fun j hj hm => by
            rcases hmem j hm with h1 | h1
            · exact (hwvx j hj).1 h1
            · exact (hvx j h1).2.2 hj)
          have hW4 := hW3.keep hk4 (fun w hm => by
            have h2 := hwr w hm
            refine ⟨fun h3 => ?_, fun h3 => ?_⟩
            · rcases hmem _ h3 with h1 | h1
              · omega
              · exact (hdis w hm _ (.inl h1)).1 rfl
            · rcases hmem _ h3 with h1 | h1
              · omega
              · exact (hdis w hm _ (.inl h1)).2 rfl)
          have hfg4 : Sl g4 fv (ints fire) := (hfg.keep hk3 (by simp)).keep' hk4 (fun hne j hj hm => by
            have h2 := hfid hne j hj
            rcases hmem j hm with h1 | h1
            · omega
            · have := (hvx j h1).2.1; omega)
          have hdis4 : ∀ w ∈ ws, ∀ j, idOf hv4 = some j ∨ idOf wv = some j ∨ j = S → w.1 ≠ j ∧ w.2 ≠ j := by
            intro w hm j hj
            have h2 := hwr w hm
            rcases hj with hj | hj | hj
            · rcases hvlt4 j hj with h1 | h1
              · exact hdis w hm j (.inl h1)
              · omega
            · exact hdis w hm j (.inr hj)
            · omega
          have hwge : ∀ w ∈ ws, h.next ≤ w.1 ∧ h.next ≤ w.2 := fun w hm => by
            have := hwr w hm
            omega
          apply WP.region; simp [hl, h0, h5, hca9, hca17, hca14, hwl, guardA]
          repeat apply WP.seq
          apply WP.cond (t := false) (by simp [hl]) (by simp)
          intro _
          apply WP.skip; simp
          repeat apply WP.seq
          apply WP.region; simp [hl]
          repeat apply WP.seq
          apply WP.region; simp [hl, h1, hlenf]
          repeat apply WP.seq
          apply WP.block
          refine WP.loop (fun k e g => e.length = 83 ∧ nth e 0 = .int .i64 i ∧ nth e 5 = .ptr (some ⟨S, 0⟩) ∧ nth e 6 = wv ∧ nth e 52 = fv ∧ nth e 53 = .int .i64 fire.length ∧ Wf g ∧ Sl g fv (ints fire) ∧ SetAt g S i hv4 ws ∧ Acc 0 g wv (ptrs ws) ∧ ∃ x, x ≤ fire.length ∧ k = fire.length - x ∧ nth e 54 = .int .i64 (x : Nat) ∧ ∃ fs : List Bool, nth e 9 = .int .i64 (firstT fs 0) ∧ WsAt g ws fs) ?_ fire.length _ _ ?_
          · clear hl h0 h1 h5 h6 h7
            rintro k e g5 ⟨hl, h0, h5, h6, h52, h53, hw5, hf5, hS5, hacc5, x, hx, rfl, h54, fs, h9, hW5⟩
            repeat apply WP.seq
            apply WP.region; simp [hl, h53, h54]
            repeat apply WP.seq
            apply WP.cond (by simp [hl]; rfl)
            · intro hlt1
              have hlt1 : x < fire.length := by simpa using hlt1
              apply WP.skip; simp
              repeat apply WP.seq
              apply WP.block
              repeat apply WP.seq
              have hfx : fire[x]? = some fire[x] := List.getElem?_eq_getElem hlt1
              generalize fire[x] = f at hfx
              obtain ⟨l1, hl1, hl1', _⟩ := hf5.at (P := Try.prog) u37 s3 a3 (ints_get hfx) (k := .i64)
              apply WP.region; simp [hl, h52, h54, hl1, hl1']
              repeat apply WP.seq
              refine WP.mono (K := fun out e g' => out = .normal ∧ g5 = g' ∧ e.length = 83 ∧ nth e 0 = .int .i64 i ∧ nth e 5 = .ptr (some ⟨S, 0⟩) ∧ nth e 6 = wv ∧ nth e 52 = fv ∧ nth e 53 = .int .i64 fire.length ∧ nth e 54 = .int .i64 (x : Nat) ∧ nth e 9 = .int .i64 (firstT fs 0) ∧ nth e 11 = .int .i64 f ∧ nth e 64 = .bool (decide (0 ≤ f ∧ f < i))) ?_ ?_
              · apply WP.region
                by_cases hf0 : 0 ≤ f
                · simp [hl, h0, h5, h6, h52, h53, h54, h9, guardA, hf0]
                · simp [hl, h0, h5, h6, h52, h53, h54, h9, guardA, hf0]
              clear hl h0 h5 h6 h52 h53 h54 h9
              rintro _ e _ ⟨rfl, rfl, hl, h0, h5, h6, h52, h53, h54, h9, h11, h64⟩
              simp
              repeat apply WP.seq
              refine WP.mono (K := fun out e g' => out = .normal ∧ e.length = 83 ∧ nth e 0 = .int .i64 i ∧ nth e 5 = .ptr (some ⟨S, 0⟩) ∧ nth e 6 = wv ∧ nth e 52 = fv ∧ nth e 53 = .int .i64 fire.length ∧ nth e 54 = .int .i64 (x : Nat) ∧ Wf g' ∧ Sl g' fv (ints fire) ∧ SetAt g' S i hv4 ws ∧ Acc 0 g' wv (ptrs ws) ∧ ∃ fs : List Bool, nth e 9 = .int .i64 (firstT fs 0) ∧ WsAt g' ws fs) ?_ ?_
              · apply WP.cond (by simp [h64]; rfl)
                · intro hc
                  have hc : 0 ≤ f ∧ f < i := by simpa using hc
                  obtain ⟨a, rfl⟩ := Int.eq_ofNat_of_zero_le hc.1
                  have ha : a < ws.length := by omega
                  have hwa : ws[a]? = some ws[a] := List.getElem?_eq_getElem ha
                  generalize ws[a] = w at hwa
                  have hwm := List.mem_of_getElem? hwa
                  have haf : a < fs.length := by rw [← hW5.1]; exact ha
                  have hfa : fs[a]? = some fs[a] := List.getElem?_eq_getElem haf
                  generalize fs[a] = b at hfa
                  obtain ⟨l2, hl2, hl2', _⟩ := hacc5.sl.at (P := Try.prog) u28 s24 a24 (ptrs_get hwa) (k := .i64)
                  obtain ⟨g6, hfire, hWa6, hk6⟩ := fire_ok hw5 (hW5.2 a w b hwa hfa)
                  have hca10 : callA (callT ov1 Try.prog) Try.prog g5 10 [.ptr (some ⟨w.1, 0⟩)] = _ := hfire
                  have hW6 := hW5.fire hI (fun v hm => (hwr v hm).2.1) hwa hk6 hWa6
                  have hfst := firstT_set fs a 0 haf
                  rw [Nat.zero_add] at hfst
                  have hnx : ∀ j, idOf hv4 = some j ∨ idOf wv = some j ∨ j = S → j ∉ [w.1, w.2] := fun j hj hm => by
                    have := hdis4 w hwm j hj
                    simp only [List.mem_cons, List.mem_nil_iff, or_false] at hm
                    rcases hm with h | h
                    · exact this.1 h.symm
                    · exact this.2 h.symm
                  have hS6 := hS5.keep hk6 (hnx S (.inr (.inr rfl))) (fun j hj => hnx j (.inl hj))
                  have hacc6 := hacc5.keep2 hk6 (fun j hj => hnx j (.inr (.inl hj)))
                  have hf6 : Sl g6 fv (ints fire) := hf5.keep' hk6 (fun hne j hj hm => by
                    have h2 := hfid hne j hj
                    have := hwge w hwm
                    simp only [List.mem_cons, List.mem_nil_iff, or_false] at hm
                    omega)
                  repeat apply WP.seq
                  apply WP.region; simp [hl, h6, h11, hl2, hl2', hca10]
                  repeat apply WP.seq
                  refine WP.mono (K := fun out e g' => out = .normal ∧ g6 = g' ∧ e.length = 83 ∧ nth e 0 = .int .i64 i ∧ nth e 5 = .ptr (some ⟨S, 0⟩) ∧ nth e 6 = wv ∧ nth e 52 = fv ∧ nth e 53 = .int .i64 fire.length ∧ nth e 54 = .int .i64 (x : Nat) ∧ nth e 9 = .int .i64 (firstT fs 0) ∧ nth e 11 = .int .i64 a ∧ nth e 76 = .bool (decide (firstT fs 0 < 0 ∨ (a : Int) < firstT fs 0))) ?_ ?_
                  · apply WP.region
                    by_cases hf0 : firstT fs 0 < 0
                    · simp [hl, h0, h5, h6, h52, h53, h54, h9, h11, guardA, hf0]
                    · simp [hl, h0, h5, h6, h52, h53, h54, h9, h11, guardA, hf0]
                  clear hl h0 h5 h6 h52 h53 h54 h9 h11 h64
                  rintro _ e _ ⟨rfl, rfl, hl, h0, h5, h6, h52, h53, h54, h9, h11, h76⟩
                  apply WP.cond (by simp [h76]; rfl)
                  · intro hc2
                    have hc2 : firstT fs 0 < 0 ∨ (a : Int) < firstT fs 0 := by simpa using hc2
                    rw [if_pos hc2] at hfst
                    apply WP.region; simp [hl, h11]
                    exact ⟨h0, h5, h6, h52, h53, h54, hk6.wf, hf6, hS6, hacc6, fs.set a true, by rw [hfst], hW6⟩
                  · intro hc2
                    have hc2 : ¬ (firstT fs 0 < 0 ∨ (a : Int) < firstT fs 0) := by simpa using hc2
                    rw [if_neg hc2] at hfst
                    apply WP.skip
                    exact ⟨rfl, hl, h0, h5, h6, h52, h53, h54, hk6.wf, hf6, hS6, hacc6, fs.set a true, by rw [hfst]; exact h9, hW6⟩
                · intro hc
                  apply WP.skip
                  exact ⟨rfl, hl, h0, h5, h6, h52, h53, h54, hw5, hf5, hS5, hacc5, fs, h9, hW5⟩
              clear hl h0 h5 h6 h52 h53 h54 h9 h11 h64
              rintro _ e g6 ⟨rfl, hl, h0, h5, h6, h52, h53, h54, hw6, hf6, hS6, hacc6, fs', h9, hW6⟩
              have hca15 : callA (callT ov1 Try.prog) Try.prog g6 15 [.ptr (some ⟨S, 0⟩)] = _ := setFirst_ok hS6 hW6 (by omega)
              simp
              repeat apply WP.seq
              apply WP.region; simp [hl, h5, h9, hca15]
              repeat apply WP.seq
              apply WP.cond (t := false) (by simp [hl]) (by simp)
              intro _
              apply WP.skip; simp
              apply WP.region; simp [hl, h54, int_wrap (show x < 9223372036854775807 by omega)]
              exact ⟨fire.length - (x + 1), by omega, h0, h5, h6, h52, h53, hw6, hf6, hS6, hacc6, x + 1, by omega, rfl, by simp, fs', h9, hW6⟩
            · intro hge
              apply WP.exit
              simp
              repeat apply WP.seq
              apply WP.region; simp [hl]
              apply WP.ret
              simp [hl, resultsA, resultA, single]
          · exact ⟨by simp [hl], by simp [hl, h0], by simp [hl, h5], by simp [hl, h6], by simp [hl, h1], by simp [hl], hk4.wf, hfg4, hS4, hacc4, 0, by omega, by omega, by simp [hl], List.replicate i false, by simp [hl, firstT_false], hW4⟩
      · refine ⟨by simp [hl], by simp [hl, h0], by simp [hl, h1], by simp [hl], hk2.wf, by have := hk2.le; omega, by have := hk2.le; have := hk1.le; omega, hfv2, 0, by omega, by omega, by simp [hl], [], .slice none 0 (.exact 0), wv0, by simp [hl], rfl, hS1.keep hk2 (by simp) (by simp), hacc2, ⟨rfl, by simp⟩, by simp [Inc], by simp, by simp [idOf], fun j hj => by have := hid2 j hj; have := hk1.le; omega, by simp⟩
  obtain ⟨_, h', h1, rfl⟩ := main
  exact ⟨h', h1⟩
end Go.Am
