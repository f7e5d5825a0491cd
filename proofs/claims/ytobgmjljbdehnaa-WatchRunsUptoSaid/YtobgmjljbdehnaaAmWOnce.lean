/- A part of the proof by the abstract machine: WOnce. -/
import Derived.Test.YtobgmjljbdehnaaAmWNew
set_option linter.unusedSimpArgs false
namespace Go.Am
open Go.RowKit Go.Proofs

theorem walive_ok {h : Heap} (hw : Wf h) : ∃ h', callT ov1 Try.prog 8 [] h = some (.ret (.bool true) h') ∧ Keep [] h h' := by
  obtain ⟨W, c, g1, hnew, hW1, hk1, hc, hcW, hWn⟩ := wnew_ok hw
  have hf1 := fired_ok hW1
  obtain ⟨g2, hfire2, hW2, hk2⟩ := fire_ok hk1.wf hW1
  have hf2 := fired_ok hW2
  obtain ⟨g3, hfire3, hW3, hk3⟩ := fire_ok hk2.wf hW2
  have hk : Keep [] h g3 := ((hk1.more (ex' := [W, c]) (by simp)).trans (hk2.trans hk3)).more (by simp; omega)
  have main : ∃ r h', callT ov1 Try.prog 8 [] h = some (.ret r h') ∧ r = .bool true ∧ h' = g3 := by
    refine callT_wp (fn := Try.f8) (ov1_none rfl (by decide) (by decide) _ _) (by kernel_rfl) rfl ?_
    have hl : (frameA Try.f8 []).length = 23 := frameA_length (Nat.le_of_ble_eq_true rfl)
    generalize frameA Try.f8 [] = e at hl
    have hca9 : callA (callT ov1 Try.prog) Try.prog h 9 [] = _ := hnew
    have hca11 : callA (callT ov1 Try.prog) Try.prog g1 11 [.ptr (some ⟨W, 0⟩)] = _ := hf1
    have hca10 : callA (callT ov1 Try.prog) Try.prog g1 10 [.ptr (some ⟨W, 0⟩)] = _ := hfire2
    have hca11' : callA (callT ov1 Try.prog) Try.prog g2 11 [.ptr (some ⟨W, 0⟩)] = _ := hf2
    have hca10' : callA (callT ov1 Try.prog) Try.prog g2 10 [.ptr (some ⟨W, 0⟩)] = _ := hfire3
    repeat apply WP.seq
    apply WP.region; simp [hl]
    repeat apply WP.seq
    apply WP.region; simp [hl, hca9]
    repeat apply WP.seq
    apply WP.region; simp [hl, bin_ptnil' u24, guardA, hca11, hca10, hca11', hca10']
    apply WP.ret
    simp [hl, resultsA, resultA, single]
  obtain ⟨_, _, h1, rfl, rfl⟩ := main
  exact ⟨_, h1, hk⟩

theorem names_ok {h : Heap} (hw : Wf h) : ∃ h', callT ov1 Try.prog 3 [] h = some (.ret (.bool true) h') := by
  obtain ⟨g, hal, _⟩ := walive_ok hw
  have main : ∃ r h', callT ov1 Try.prog 3 [] h = some (.ret r h') ∧ r = .bool true := by
    refine callT_wp (Q := fun r _ => r = .bool true) (fn := Try.f3) (ov1_none rfl (by decide) (by decide) _ _) (by kernel_rfl) rfl ?_
    have hl : (frameA Try.f3 []).length = 6 := frameA_length (Nat.le_of_ble_eq_true rfl)
    generalize frameA Try.f3 [] = e at hl
    have hca8 : callA (callT ov1 Try.prog) Try.prog h 8 [] = _ := hal
    repeat apply WP.seq
    apply WP.region; simp [hl]
    repeat apply WP.seq
    apply WP.region; simp [hl, hca8]
    apply WP.ret
    simp [hl, resultsA, resultA, single]
  obtain ⟨_, h', h1, rfl⟩ := main
  exact ⟨h', h1⟩

theorem ptr_ne {h : Heap} {a b : Loc} {xo yo : Operand} (ha : livePtr h a = true) (hb : livePtr h b = true) (hn : a.id ≠ b.id) : binA Try.prog h .eql 24 xo yo (.ptr (some a)) (.ptr (some b)) = some (.bool false) := by
  have hf : (Nat.beq a.id b.id && Nat.beq a.off b.off) = false := by
    rw [Trie.beq1]; simp [hn]
  simp [binA, eqA, u24, s68, ha, hb, hf]

set_option maxHeartbeats 4000000 in
theorem once_ok {h : Heap} (hw : Wf h) {cv : AV} {calls : List Bool} (hs : Sl h cv (bools calls)) (hn : calls.length ≤ 9223372036854775807) : ∃ h', callT ov1 Try.prog 4 [cv] h = some (.ret (.bool true) h') := by
  obtain ⟨g0, hal, hk0⟩ := walive_ok hw
  obtain ⟨W1, c1, g1, hnew1, hW1, hk1, hc1, hcW1, hWn1⟩ := wnew_ok hk0.wf
  obtain ⟨W2, c2, g2, hnew2, hW2, hk2, hc2, hcW2, hWn2⟩ := wnew_ok hk1.wf
  have hW1' := hW1.keep hk2 (by simp) (by simp)
  have main : ∃ r h', callT ov1 Try.prog 4 [cv] h = some (.ret r h') ∧ r = .bool true := by
    refine callT_wp (Q := fun r _ => r = .bool true) (fn := Try.f4) (ov1_none rfl (by decide) (by decide) _ _) (by kernel_rfl) rfl ?_
    have hl : (frameA Try.f4 [cv]).length = 45 := frameA_length (Nat.le_of_ble_eq_true rfl)
    have h0 : nth (frameA Try.f4 [cv]) 0 = cv := frameA_nth (Nat.le_of_ble_eq_true rfl)
    generalize frameA Try.f4 [cv] = e at hl h0
    have hlen : ∀ h, lenA Try.prog h 23 cv = some (.int .i64 (calls.length : Nat)) := by
      intro h; obtain ⟨l, c, rfl⟩ := hs.slice; simpa using lenA_slice (P := Try.prog) u23
    have hca8 : callA (callT ov1 Try.prog) Try.prog h 8 [] = _ := hal
    have hca9 : callA (callT ov1 Try.prog) Try.prog g0 9 [] = _ := hnew1
    have hca9' : callA (callT ov1 Try.prog) Try.prog g1 9 [] = _ := hnew2
    have hl1 : livePtr g2 ⟨W1, 0⟩ = true := by simp [livePtr, hW1'.1, wcell]
    have hl2 : livePtr g2 ⟨W2, 0⟩ = true := by simp [livePtr, hW2.1, wcell]
    have hpe : ∀ xo yo, binA Try.prog g2 .eql 24 xo yo (.ptr (some ⟨W1, 0⟩)) (.ptr (some ⟨W2, 0⟩)) = some (.bool false) := fun xo yo => ptr_ne hl1 hl2 (by simp only []; omega)
    repeat apply WP.seq
    apply WP.region; simp [hl]
    repeat apply WP.seq
    apply WP.region; simp [hl, hca8]
    repeat apply WP.seq
    apply WP.cond (t := false) (by simp [hl]) (by simp)
    intro _
    apply WP.skip; simp
    repeat apply WP.seq
    apply WP.region; simp [hl, hca9, hca9']
    repeat apply WP.seq
    apply WP.region; simp [hl, bin_ptnil u24, guardA, hpe]
    repeat apply WP.seq
    apply WP.cond (t := false) (by simp [hl]) (by simp)
    intro _
    apply WP.skip; simp
    repeat apply WP.seq
    apply WP.region; simp [hl]
    repeat apply WP.seq
    apply WP.region; simp [hl, h0, hlen]
    repeat apply WP.seq
    apply WP.block
    refine WP.loop (fun k e g => e.length = 45 ∧ nth e 3 = .ptr (some ⟨W1, 0⟩) ∧ nth e 4 = .ptr (some ⟨W2, 0⟩) ∧ nth e 23 = cv ∧ nth e 24 = .int .i64 calls.length ∧ Keep [W1, c1] g2 g ∧ WAt g W2 c2 false ∧ ∃ i, i ≤ calls.length ∧ k = calls.length - i ∧ nth e 25 = .int .i64 (i : Nat) ∧ ∃ b, nth e 5 = .bool b ∧ WAt g W1 c1 b) ?_ calls.length _ _ ?_
    · rintro k e g ⟨hl, h3, h4, h23, h24, hk, hW2g, i, hi, rfl, h25, b, h5, hW1g⟩
      have hsg : Sl g cv (bools calls) := hs.keep' (((hk0.trans (hk1.trans hk2)).more (ex' := [W1, c1]) (by simp)).trans hk) (fun hne j hj hm => by
        have := hs.lt hw hne hj
        have := hk0.le
        simp only [List.mem_cons, List.mem_nil_iff, or_false] at hm
        rcases hm with rfl | rfl <;> omega)
      repeat apply WP.seq
      apply WP.region; simp [hl, h24, h25]
      repeat apply WP.seq
      apply WP.cond (by simp [hl]; rfl)
      · intro hlt1
        have hlt1 : i < calls.length := by simpa using hlt1
        apply WP.skip; simp
        repeat apply WP.seq
        apply WP.block
        repeat apply WP.seq
        obtain ⟨f, hcf⟩ : ∃ f, calls[i]? = some f := ⟨calls[i], by simp [hlt1]⟩
        obtain ⟨l1, hl1, hl1', _⟩ := hsg.at (P := Try.prog) u23 s4 a4 (bools_get hcf) (k := .i64)
        apply WP.region; simp [hl, h23, h25, hl1, hl1']
        repeat apply WP.seq
        apply WP.region; simp [hl]
        repeat apply WP.seq
        -- fired, or not
        refine WP.mono (K := fun out e g' => out = .normal ∧ e.length = 45 ∧ nth e 3 = .ptr (some ⟨W1, 0⟩) ∧ nth e 4 = .ptr (some ⟨W2, 0⟩) ∧ nth e 23 = cv ∧ nth e 24 = .int .i64 calls.length ∧ nth e 25 = .int .i64 (i : Nat) ∧ Keep [W1, c1] g g' ∧ ∃ b, nth e 5 = .bool b ∧ WAt g' W1 c1 b) ?_ ?_
        · apply WP.cond (by simp [hl]; rfl)
          · intro hf
            obtain ⟨g3, hfire, hW3, hk3⟩ := fire_ok hk.wf hW1g
            have hca10 : callA (callT ov1 Try.prog) Try.prog g 10 [.ptr (some ⟨W1, 0⟩)] = _ := hfire
            have hbb : (!b == b) = false := by cases b <;> rfl
            repeat apply WP.seq
            apply WP.region; simp [hl, h3, h5, hca10, bin_beq u4, hbb]
            repeat apply WP.seq
            apply WP.cond (t := false) (by simp [hl]) (by simp)
            intro _
            apply WP.skip; simp
            apply WP.region; simp [hl, h3, h4, h23, h24, h25, hk3, hW3]
          · intro hf
            apply WP.skip
            exact ⟨rfl, by simp [hl], by simp [h3], by simp [h4], by simp [h23], by simp [h24], by simp [h25], Keep.refl hk.wf, b, by simp [h5], hW1g⟩
        rintro _ e g3 ⟨rfl, hl, h3, h4, h23, h24, h25, hk3, b3, h5, hW3⟩
        have hW23 := hW2g.keep hk3 (by simp; omega) (by simp; omega)
        have hca11 : callA (callT ov1 Try.prog) Try.prog g3 11 [.ptr (some ⟨W1, 0⟩)] = _ := fired_ok hW3
        have hca11' : callA (callT ov1 Try.prog) Try.prog g3 11 [.ptr (some ⟨W2, 0⟩)] = _ := fired_ok hW23
        simp
        repeat apply WP.seq
        apply WP.region; simp [hl, h3, h4, h5, hca11, hca11', bin_bne u4, guardA]
        repeat apply WP.seq
        apply WP.cond (t := false) (by simp [hl]) (by simp)
        intro _
        apply WP.skip; simp
        apply WP.region; simp [hl, h25, int_wrap (show i < 9223372036854775807 by omega)]
        exact ⟨calls.length - (i + 1), by omega, h3, h4, h23, h24, hk.trans hk3, hW23, i + 1, by omega, rfl, by simp, by cases b3 <;> simp [h5, hW3]⟩
      · intro hge
        apply WP.exit
        simp
        obtain ⟨g3, hfire, _, _⟩ := fire_ok hk.wf hW2g
        have hca10 : callA (callT ov1 Try.prog) Try.prog g 10 [.ptr (some ⟨W2, 0⟩)] = _ := hfire
        repeat apply WP.seq
        apply WP.region; simp [hl, h4, hca10]
        apply WP.ret
        simp [hl, resultsA, resultA, single]
    · exact ⟨by simp [hl], by simp [hl], by simp [hl], by simp [hl, h0], by simp [hl], Keep.refl hk2.wf, hW2, 0, by omega, by omega, by simp [hl], false, by simp [hl], hW1'⟩
  obtain ⟨_, h', h1, rfl⟩ := main
  exact ⟨h', h1⟩
end Go.Am
