/- A part of the proof by the abstract machine: SPlays. -/
import Derived.Test.YtehccakjdbapiaaAmSPlayQ
set_option linter.unusedSimpArgs false
namespace Go.Am
open Go.RowKit Go.Proofs

theorem playN_len {jobs : List (Int × Int)} {b : Int} : ∀ (n : Nat) (s : PS), (playN jobs b n s).out.length ≤ s.out.length + n
  | 0, s => by simp [playN]
  | n + 1, s => by
    simp only [playN]
    split
    · omega
    · have := playN_len (jobs := jobs) (b := b) n (moved s (nextS jobs b s))
      simp only [moved, List.length_append, List.length_singleton] at this
      simp only [moved]
      omega
theorem playOut_len (jobs : List (Int × Int)) (picks : List Int) (b steps : Int) : (playOut jobs picks b steps).length ≤ steps.toNat := by
  have := playN_len (jobs := jobs) (b := max b 1) steps.toNat (startP jobs picks)
  simpa [playOut, startP] using this
theorem fa43 {l : Loc} : fieldAddrA Try.prog 43 (.ptr (some l)) 0 = some (.ptr (some ⟨l.id, l.off + 0⟩)) ∧ fieldAddrA Try.prog 43 (.ptr (some l)) 1 = some (.ptr (some ⟨l.id, l.off + 1⟩)) ∧
    fieldAddrA Try.prog 43 (.ptr (some l)) 2 = some (.ptr (some ⟨l.id, l.off + 2⟩)) ∧ fieldAddrA Try.prog 43 (.ptr (some l)) 3 = some (.ptr (some ⟨l.id, l.off + 3⟩)) := by
  refine ⟨?_, ?_, ?_, ?_⟩ <;> kernel_rfl

structure PlayOv (ov : CallF) : Prop where
  o12 : ∀ a h, ov 12 a h = none
  o13 : ∀ a h, ov 13 a h = none
  o17 : ∀ a h, ov 17 a h = none
  o18 : ∀ a h, ov 18 a h = none
  o19 : ∀ a h, ov 19 a h = none
  o20 : ∀ a h, ov 20 a h = none
  o21 : ∀ a h, ov 21 a h = none
  o22 : ∀ a h, ov 22 a h = none
  o23 : ∀ a h, ov 23 a h = none
  o24 : ∀ a h, ov 24 a h = none
  o26 : ∀ a h, ov 26 a h = none
  o46 : ∀ a h, ov 46 a h = none
  o47 : ∀ a h, ov 47 a h = none

section
variable {ov : CallF}

set_option maxHeartbeats 4000000 in
theorem plays_ok (O : OvOk ov) (Q : PlayOv ov) (o7 : ∀ a h, ov 7 a h = none) {h : Heap} (hw : Wf h) {jv pv : AV} {js : List (Int × Int)} (hj : Slr h 2 jv (rowsJ js)) (hjn : js.length ≤ 2000000)
    {picks : List Int} (hp : Sl h pv (ints picks)) (hpn : picks.length ≤ 2000000) (b steps : Int) (hst' : -9223372036854775808 ≤ steps) :
    ∃ h', callT ov Try.prog 7 [.agg [jv, pv, .int .i64 b, .int .i64 steps]] h = some (.ret (.bool true) h') := by
  have main : ∃ u h', callT ov Try.prog 7 [.agg [jv, pv, .int .i64 b, .int .i64 steps]] h = some (.ret u h') ∧ u = .bool true := by
    refine callT_wp (fn := Try.f7) (Q := fun u _ => u = .bool true) (o7 _ _) (by kernel_rfl) rfl ?_
    have hl : (frameA Try.f7 [.agg [jv, pv, .int .i64 b, .int .i64 steps]]).length = 59 := frameA_length (Nat.le_of_ble_eq_true rfl)
    have h0 : nth (frameA Try.f7 [.agg [jv, pv, .int .i64 b, .int .i64 steps]]) 0 = .agg [jv, pv, .int .i64 b, .int .i64 steps] := frameA_nth (Nat.le_of_ble_eq_true rfl)
    generalize frameA Try.f7 [.agg [jv, pv, .int .i64 b, .int .i64 steps]] = e at hl h0
    have hca10 : ∀ h, callA (callT ov Try.prog) Try.prog h 10 [] = some (.ret (.bool true) h) := fun h => (callA_of (fn := Try.f10) (by kernel_rfl) rfl).trans (callT_ov _ _ (O.o10 h))
    have hca17 : ∀ args h, callA (callT ov Try.prog) Try.prog h 17 args = callT ov Try.prog 17 args h := fun args h => callA_of (fn := Try.f17) (by kernel_rfl) rfl
    have hca18 : ∀ args h, callA (callT ov Try.prog) Try.prog h 18 args = callT ov Try.prog 18 args h := fun args h => callA_of (fn := Try.f18) (by kernel_rfl) rfl
    have hca19 : ∀ args h, callA (callT ov Try.prog) Try.prog h 19 args = callT ov Try.prog 19 args h := fun args h => callA_of (fn := Try.f19) (by kernel_rfl) rfl
    have hca20 : ∀ args h, callA (callT ov Try.prog) Try.prog h 20 args = callT ov Try.prog 20 args h := fun args h => callA_of (fn := Try.f20) (by kernel_rfl) rfl
    have hbx := box_agg (h := h) (vs := [jv, pv, .int .i64 b, .int .i64 steps]) rfl
    have hk1 := (Keep.refl (ex := []) hw).alloc (.cells [jv, pv, .int .i64 b, .int .i64 steps] .own)
    have hg1 := Heap.get_alloc h (.cells [jv, pv, .int .i64 b, .int .i64 steps] .own)
    generalize h.alloc (.cells [jv, pv, .int .i64 b, .int .i64 steps] .own) = g1 at hbx hk1 hg1
    generalize h.next = B at hbx hg1
    have hl0 : loadA Try.prog g1 41 ⟨B, 0⟩ = some jv := load_cell a41 hg1 rfl
    have hl1 : loadA Try.prog g1 22 ⟨B, 1⟩ = some pv := load_cell a22 hg1 rfl
    have hl2 : loadA Try.prog g1 3 ⟨B, 2⟩ = some (.int .i64 b) := load_cell a3 hg1 rfl
    have hl3 : loadA Try.prog g1 3 ⟨B, 3⟩ = some (.int .i64 steps) := load_cell a3 hg1 rfl
    obtain ⟨cv, g2, hcut, hcj, hk2⟩ := cut_ok Q.o17 hk1.wf (hj.keep' hk1 (by simp)) hjn
    have hg2 := hk2.get _ _ hg1 (by simp)
    have hm1 : loadA Try.prog g2 22 ⟨B, 1⟩ = some pv := load_cell a22 hg2 rfl
    have hm2 : loadA Try.prog g2 3 ⟨B, 2⟩ = some (.int .i64 b) := load_cell a3 hg2 rfl
    have hm3 : loadA Try.prog g2 3 ⟨B, 3⟩ = some (.int .i64 steps) := load_cell a3 hg2 rfl
    have hp2 := (hp.keep hk1 (by simp)).keep hk2 (by simp)
    have hjl : (js.take 20).length ≤ 20 := by simp; omega
    repeat apply WP.seq
    apply WP.region; simp [hl, h0, hbx]
    repeat apply WP.seq
    apply WP.region; simp [hl, hca10]
    repeat apply WP.seq
    apply WP.cond (t := false) (by simp [hl]) (by simp)
    intro _
    apply WP.skip; simp
    repeat apply WP.seq
    refine WP.mono (K := fun out e g' => out = .normal ∧ g2 = g' ∧ e.length = 59 ∧ nth e 3 = cv ∧ nth e 4 = pv ∧ nth e 5 = .int .i64 b ∧ nth e 6 = .int .i64 steps) ?_ ?_
    · refine WP.drawDyn (by kernel_rfl) (dynOk_tw (pl := [(1, 2), (4, 2), (4, 13), (6, 2), (6, 13), (8, 2), (8, 13)]) (by kernel_rfl) ?_) ?_
      · simp [hl, fa43, hl0, hl1, hl2, hl3, hca17, hcut, hm1, hm2, hm3, loadSame]
      · simp [hl, fa43, hl0, hl1, hl2, hl3, hca17, hcut, hm1, hm2, hm3]
    clear hl h0 hl0 hl1 hl2 hl3 hm1 hm2 hm3 hg1 hg2 hbx
    rintro _ e _ ⟨rfl, rfl, hl, h3, h4, h5, h6⟩
    simp
    repeat apply WP.seq
    apply WP.region; simp [hl, h6]
    repeat apply WP.seq
    refine WP.mono (K := fun out e g' => out = .normal ∧ g2 = g' ∧ e.length = 59 ∧ nth e 3 = cv ∧ nth e 4 = pv ∧ nth e 5 = .int .i64 b ∧ nth e 6 = .int .i64 (min steps 400)) ?_ ?_
    · apply WP.cond (by simp [hl]; rfl)
      · intro hc
        have hc : 400 < steps := by simpa using hc
        have hm : min steps 400 = 400 := by omega
        apply WP.region; simp [hl, h3, h4, h5, hm]
      · intro hc
        have hc : ¬ 400 < steps := by simpa using hc
        have hm : min steps 400 = steps := by omega
        apply WP.skip; simp [hl, h3, h4, h5, h6, hm]
    clear hl h3 h4 h5 h6
    rintro _ e _ ⟨rfl, rfl, hl, h3, h4, h5, h6⟩
    have hst : min steps 400 ≤ 400 ∧ -9223372036854775808 ≤ min steps 400 := by omega
    generalize min steps 400 = st at h6 hst
    simp
    repeat apply WP.seq
    -- the document's answer
    obtain ⟨wv, g3, hwant, hws, _, hk3⟩ := refPlay_ok Q.o12 Q.o13 Q.o18 Q.o26 hk2.wf hcj (by omega) hp2 b st (by omega)
    have hol := playOut_len (js.take 20) picks b st
    have hcc : (js.take 20).take 20 = js.take 20 := by rw [List.take_take, Nat.min_self]
    -- a play
    have play : ∀ {g : Heap}, Wf g → Slr g 2 cv (rowsJ (js.take 20)) → Sl g pv (ints picks) → ∃ c1 g4 g5 g6 v1 v2, callT ov Try.prog 17 [cv] g = some (.ret c1 g4) ∧ appendA Try.prog (g4.alloc (.cells [] .own)) 22 22 (.slice (some ⟨g4.next, 0⟩) 0 (.exact 0)) pv = some (v1, g5) ∧
        callT ov Try.prog 19 [c1, v1, .int .i64 b, .int .i64 st] g5 = some (.ret v2 g6) ∧ Sl g6 v2 (ints (playOut (js.take 20) picks b st)) ∧ (playOut (js.take 20) picks b st ≠ [] → ∃ i, Own g6 v2 i (ints (playOut (js.take 20) picks b st)) ∧ g.next ≤ i) ∧ Keep [] g g6 := by
      intro g hwg hcg hpg
      obtain ⟨c1, g4, hc1, hcj4, hk4⟩ := cut_ok Q.o17 hwg hcg (by omega)
      rw [hcc] at hcj4
      obtain ⟨v1, g5, B1, hap, hown1, _, hk5⟩ := (hpg.keep hk4 (by simp)).clone (P := Try.prog) hk4.wf u22 s3 (fun _ => room3 (by simp; omega)) ints_ok
      obtain ⟨v2, g6, hpl, hs6, hown6, hk6⟩ := splay_ok O Q.o19 Q.o21 Q.o22 Q.o23 Q.o24 Q.o46 Q.o47 hk5.wf (hcj4.keep' hk5 (by simp)) (by omega) hown1.sl (by omega) b st (by omega) (by omega) (by omega)
      refine ⟨c1, g4, g5, g6, v1, v2, hc1, hap, hpl, hs6, fun hne => ?_, (hk4.trans hk5).trans hk6⟩
      obtain ⟨i, q1, q2⟩ := hown6 hne
      have := hk4.le
      have := hk5.le
      exact ⟨i, q1, by omega⟩
    generalize playOut (js.take 20) picks b st = F at *
    have hp3 := hp2.keep hk3 (by simp)
    have hcj3 : Slr g3 2 cv (rowsJ (js.take 20)) := hcj.keep' hk3 (by simp)
    obtain ⟨c1, g4, g5, g6, v1, gv, hc1, hap, hpl, hgs, hgown, hk6⟩ := play hk3.wf hcj3 hp3
    have hws6 := hws.keep hk6 (by simp)
    have hsame := same_ok Q.o20 hgs hws6 (by omega) rfl
    have hleng : ∀ g, lenA Try.prog g 22 gv = some (.int .i64 (F.length : Nat)) := by
      intro g; obtain ⟨l, c, rfl⟩ := hgs.slice; simpa using lenA_slice (P := Try.prog) u22
    obtain ⟨I, hI, hIn⟩ : ∃ I, (F ≠ [] → Own g6 gv I (ints F)) ∧ g3.next ≤ I := by
      by_cases hF : F = []
      · exact ⟨g3.next, fun h => absurd hF h, Nat.le_refl _⟩
      · obtain ⟨i, q1, q2⟩ := hgown hF
        exact ⟨i, fun _ => q1, q2⟩
    apply WP.region; simp [hl, h3, h4, h5, h6, hca18, hwant]
    repeat apply WP.seq
    apply WP.region; simp [hl, h3, h4, h5, h6, hca17, hc1, build22, hap, hca19, hpl]
    repeat apply WP.seq
    apply WP.region; simp [hl, hca20, hsame]
    repeat apply WP.seq
    apply WP.cond (t := false) (by simp [hl]) (by simp)
    intro _
    apply WP.skip; simp
    repeat apply WP.seq
    apply WP.region; simp [hl, hleng]
    repeat apply WP.seq
    apply WP.block
    refine WP.loop (fun k e g' => e.length = 59 ∧ nth e 3 = cv ∧ nth e 4 = pv ∧ nth e 5 = .int .i64 b ∧ nth e 6 = .int .i64 st ∧ nth e 7 = wv ∧ nth e 8 = gv ∧ nth e 41 = .int .i64 F.length ∧ Keep [I] g6 g' ∧ ∃ i, i ≤ F.length ∧ k = F.length - i ∧ nth e 42 = .int .i64 (i : Nat) ∧ ∃ xs : List Int, xs.length = F.length ∧ (F ≠ [] → Own g' gv I (ints xs))) ?_ F.length _ _ ?_
    · rintro k e g' ⟨hl, h3, h4, h5, h6, h7, h8, h41, hk7, i, hi, rfl, h42, xs, hxl, hown⟩
      repeat apply WP.seq
      apply WP.region; simp [hl, h41, h42]
      repeat apply WP.seq
      apply WP.cond (by simp [hl]; rfl)
      · intro hlt1
        have hlt1 : i < F.length := by simpa using hlt1
        have hne : F ≠ [] := by intro hh; rw [hh] at hlt1; simp at hlt1
        have hown := hown hne
        apply WP.skip; simp
        repeat apply WP.seq
        apply WP.block
        repeat apply WP.seq
        have haddr := hown.addr (P := Try.prog) u22 s3 (i := i) (by simp; omega) (k := .i64)
        obtain ⟨hst8, hown'⟩ := hown.store (P := Try.prog) s3 (i := i) (by simp; omega) (x := .int .i64 (-1)) rfl rfl
        rw [ints_set] at hst8 hown'
        have hI5 : I < g'.next := hk7.wf _ _ hown.choose_spec.2
        have hk' := hk7.set (.cells (ints (xs.set i (-1))) .own) hI5 (.inl (by simp))
        apply WP.region; simp [hl, h42]
        apply WP.region; simp [hl, h8, haddr, storeR_ptr hst8]
        apply WP.region; simp [hl, h42, int_wrap (show i < 9223372036854775807 by omega)]
        exact ⟨F.length - (i + 1), by omega, h3, h4, h5, h6, h7, h8, h41, hk', i + 1, by omega, rfl, by simp, _, by simpa using hxl, fun _ => hown'⟩
      · intro hge
        apply WP.exit
        simp
        have hIx : ∀ {v : AV} {xs : List AV}, Sl g3 v xs → Sl g' v xs := fun hs => (hs.keep hk6 (by simp)).keep' hk7 (fun hne j hj hm => by
          have := hs.lt hk3.wf hne hj
          simp only [List.mem_singleton] at hm
          omega)
        have hcj7 : Slr g' 2 cv (rowsJ (js.take 20)) := Slr.keep' hk7 (hcj3.keep' hk6 (by simp)) (fun hne j hj hm => by
          have := hcj3.lt hk3.wf hne hj
          simp only [List.mem_singleton] at hm
          omega)
        obtain ⟨c2, g8, g9, ga, v2, gv2, hc2, hap2, hpl2, hgs2, _, hka⟩ := play hk7.wf hcj7 (hIx hp3)
        have hsame2 := same_ok Q.o20 hgs2 ((hIx hws).keep hka (by simp)) (by omega) rfl
        repeat apply WP.seq
        apply WP.region; simp [hl, h3, h4, h5, h6, h7, hca17, hc2, build22, hap2, hca19, hpl2, hca20, hsame2]
        apply WP.ret
        simp [hl, resultsA, resultA, single]
    · refine ⟨by simp [hl], by simp [hl, h3], by simp [hl, h4], by simp [hl, h5], by simp [hl, h6], by simp [hl], by simp [hl], by simp [hl], Keep.refl hk6.wf, 0, by omega, by omega, by simp [hl], F, rfl, hI⟩
  obtain ⟨_, h', h1, rfl⟩ := main
  exact ⟨h', h1⟩
end
end Go.Am
