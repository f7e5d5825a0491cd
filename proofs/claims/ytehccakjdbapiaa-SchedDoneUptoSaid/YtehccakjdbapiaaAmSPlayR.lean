/- A part of the proof by the abstract machine: SPlayR. -/
import Derived.Test.YtehccakjdbapiaaAmSPlayF
set_option linter.unusedSimpArgs false
namespace Go.Am
open Go.RowKit Go.Proofs

theorem Acc.lt {n0 : Nat} {h : Heap} (hw : Wf h) {v : AV} {xs : List AV} (ha : Acc n0 h v xs) {i : Nat} (hi : idOf v = some i) : i < h.next := by
  rcases ha with ⟨_, l, rfl, hl⟩ | ⟨j, _, _, rfl, hg⟩
  · cases l with
    | none => cases hi
    | some x =>
      cases hi
      obtain ⟨_, _, cs, hg⟩ := hl x rfl
      exact hw _ _ hg
  · cases hi; exact hw _ _ hg
theorem Acc.keep2 {n0 : Nat} {ex : List Nat} {h0 h : Heap} (hk : Keep ex h0 h) {v : AV} {xs : List AV} (hs : Acc n0 h0 v xs) (hx : ∀ i, idOf v = some i → i ∉ ex) : Acc n0 h v xs := by
  rcases hs with ⟨h1, l, h2, h3⟩ | ⟨j, h1, h2, h3, hg⟩
  · refine .inl ⟨h1, l, h2, fun x hx' => ?_⟩
    obtain ⟨h4, h5, cs, h6⟩ := h3 x hx'
    exact ⟨h4, h5, cs, hk.get _ _ h6 (hx _ (by rw [h2, hx']; rfl))⟩
  · exact .inr ⟨j, h1, h2, h3, hk.get _ _ hg (hx _ (by rw [h3]; rfl))⟩
theorem readyAt_eq {jobs : List (Int × Int)} {s : PS} {i : Nat} {j : Int × Int} (h : jobs[i]? = some j) : readyAt jobs s i = (decide (j.1 ≤ (s.out.length : Int)) && decide (at0 s.cnt i < j.2)) := by
  simp [readyAt, List.getD_eq_getElem?_getD, h]
theorem at0_nonneg {xs : List Int} {M : Int} (h : ∀ a ∈ xs, 0 ≤ a ∧ a ≤ M) (hM : 0 ≤ M) (i : Nat) : 0 ≤ at0 xs i ∧ at0 xs i ≤ M := at0_le hM h i
theorem set_le {xs : List Int} {M : Int} (h : ∀ a ∈ xs, 0 ≤ a ∧ a ≤ M) {i : Nat} {x : Int} (hx : 0 ≤ x ∧ x ≤ M + 1) : ∀ a ∈ xs.set i x, 0 ≤ a ∧ a ≤ M + 1 := by
  intro a ha
  rcases List.mem_or_eq_of_mem_set ha with h1 | h1
  · have := h a h1; omega
  · omega
theorem bools_append (a b : List Bool) : bools (a ++ b) = bools a ++ bools b := by simp [bools]

section
variable {ov : CallF}

set_option maxHeartbeats 4000000 in
theorem refPlay_ok (o12 : ∀ a h, ov 12 a h = none) (o13 : ∀ a h, ov 13 a h = none) (o18 : ∀ a h, ov 18 a h = none) (o26 : ∀ a h, ov 26 a h = none) {h : Heap} (hw : Wf h) {jv pv : AV} {jobs : List (Int × Int)} (hj : Slr h 2 jv (rowsJ jobs)) (hjn : jobs.length ≤ 1000000)
    {picks : List Int} (hp : Sl h pv (ints picks)) (b steps : Int) (hst : steps ≤ 1000000) :
    ∃ v' h', callT ov Try.prog 18 [jv, pv, .int .i64 b, .int .i64 steps] h = some (.ret v' h') ∧ Sl h' v' (ints (playOut jobs picks b steps)) ∧ (∃ l c, v' = .slice l (playOut jobs picks b steps).length c) ∧ Keep [] h h' := by
  have main : ∃ u h', callT ov Try.prog 18 [jv, pv, .int .i64 b, .int .i64 steps] h = some (.ret u h') ∧ Sl h' u (ints (playOut jobs picks b steps)) ∧ Keep [] h h' := by
    refine callT_wp (fn := Try.f18) (o18 _ _) (by kernel_rfl) rfl ?_
    have hl : (frameA Try.f18 [jv, pv, .int .i64 b, .int .i64 steps]).length = 73 := frameA_length (Nat.le_of_ble_eq_true rfl)
    have h0 : nth (frameA Try.f18 [jv, pv, .int .i64 b, .int .i64 steps]) 0 = jv := frameA_nth (Nat.le_of_ble_eq_true rfl)
    have h1 : nth (frameA Try.f18 [jv, pv, .int .i64 b, .int .i64 steps]) 1 = pv := frameA_nth (Nat.le_of_ble_eq_true rfl)
    have h2 : nth (frameA Try.f18 [jv, pv, .int .i64 b, .int .i64 steps]) 2 = .int .i64 b := frameA_nth (Nat.le_of_ble_eq_true rfl)
    have h3 : nth (frameA Try.f18 [jv, pv, .int .i64 b, .int .i64 steps]) 3 = .int .i64 steps := frameA_nth (Nat.le_of_ble_eq_true rfl)
    generalize frameA Try.f18 [jv, pv, .int .i64 b, .int .i64 steps] = e at hl h0 h1 h2 h3
    have hca12 : ∀ args h, callA (callT ov Try.prog) Try.prog h 12 args = callT ov Try.prog 12 args h := fun args h => callA_of (fn := Try.f12) (by kernel_rfl) rfl
    have hca13 : ∀ args h, callA (callT ov Try.prog) Try.prog h 13 args = callT ov Try.prog 13 args h := fun args h => callA_of (fn := Try.f13) (by kernel_rfl) rfl
    have hlenj : ∀ h, lenA Try.prog h 41 jv = some (.int .i64 (jobs.length : Nat)) := fun h' => by simpa [rowsJ_length] using hj.len (P := Try.prog) h' u41
    unfold playOut
    repeat apply WP.seq
    apply WP.region; simp [hl]
    repeat apply WP.seq
    -- the reference's chooser
    obtain ⟨pl, pc, hpv⟩ := hp.slice
    rw [ints_length] at hpv
    obtain ⟨g1, href, hk1⟩ := refNew_ok o12 hw (l := pl) (n := picks.length) (c := pc) b
    rw [← hpv] at href
    have hal2 := alloc29 (h := g1)
    have hk2 := (Keep.refl (ex := []) hk1.wf).alloc (.cells [.slice none 0 (.exact 0), .int .i64 0, .slice none 0 (.exact 0)] .own)
    have hg2 := Heap.get_alloc g1 (.cells [.slice none 0 (.exact 0), .int .i64 0, .slice none 0 (.exact 0)] .own)
    generalize g1.alloc (.cells [.slice none 0 (.exact 0), .int .i64 0, .slice none 0 (.exact 0)] .own) = g2 at hal2 hk2 hg2
    have hk1l := hk1.le
    have hM1 : h.next ≤ g1.next := by omega
    have hMk : g1.next ≤ g1.next := Nat.le_refl _
    generalize hMd : g1.next = M at hal2 hg2 hM1 hMk
    have hst2 := store_whole (P := Try.prog) s29 hg2 rfl (ds := [pv, .int .i64 (max b 1), .slice none 0 (.exact 0)]) rfl (by rw [hpv]; rfl)
    have hMn : M < g2.next := hk2.wf _ _ hg2
    have hg3 := Heap.get_set g2 M (.cells [pv, .int .i64 (max b 1), .slice none 0 (.exact 0)] .own)
    have hk3 := hk2.set (.cells [pv, .int .i64 (max b 1), .slice none 0 (.exact 0)] .own) hMn (.inr (by omega))
    generalize g2.set M (.cells [pv, .int .i64 (max b 1), .slice none 0 (.exact 0)] .own) = g3 at hst2 hg3 hk3
    have hkh3 := hk1.trans hk3
    have hM3 : M < g3.next := hk3.wf _ _ hg3
    generalize max b 1 = bb at *
    apply WP.region; simp [hl, h1, h2, hca12, href, hal2, storeR_ptr hst2]
    repeat apply WP.seq
    -- the steps
    have hbs := build22 (h := g3)
    have hk4 := (Keep.refl (ex := []) hk3.wf).alloc (.cells [] .own)
    have hg4 := Heap.get_alloc g3 (.cells [] .own)
    generalize g3.alloc (.cells [] .own) = g4 at hbs hk4 hg4
    have hO4 := hk4.wf _ _ hg4
    have hO3 : M < g3.next := hM3
    have hacc4 : Acc h.next g4 (.slice (some ⟨g3.next, 0⟩) 0 (.exact 0)) [] := Acc.empty (by have := hkh3.le; omega) hg4
    have hidO : ∀ j, idOf (.slice (some ⟨g3.next, 0⟩) 0 (.exact 0)) = some j → j = g3.next := by intro j hj; cases hj; rfl
    generalize AV.slice (some ⟨g3.next, 0⟩) 0 (.exact 0) = ov0 at hbs hacc4 hidO
    apply WP.region; simp [hl, hbs]
    repeat apply WP.seq
    -- what is done
    have hmk : makeSliceA Try.prog g4 22 (.int .i64 (jobs.length : Nat)) (.int .i64 (jobs.length : Nat)) = _ := make22 (by omega)
    have hk5 := (Keep.refl (ex := []) hk4.wf).alloc (.cells (List.replicate jobs.length (.int .i64 0)) .own)
    have hg5 := Heap.get_alloc g4 (.cells (List.replicate jobs.length (.int .i64 0)) .own)
    generalize g4.alloc (.cells (List.replicate jobs.length (.int .i64 0)) .own) = g5 at hmk hk5 hg5
    have hK5 := hk5.wf _ _ hg5
    have hown5 : Own g5 (.slice (some ⟨g4.next, 0⟩) jobs.length (.exact jobs.length)) g4.next (ints (List.replicate jobs.length 0)) := ⟨.exact jobs.length, ⟨by simp, by simp [capOk]⟩, by rw [hg5]; simp [ints]⟩
    have hKn : g3.next < g4.next := hO4
    generalize AV.slice (some ⟨g4.next, 0⟩) jobs.length (.exact jobs.length) = kv at hmk hown5
    generalize g4.next = K at hmk hg5 hK5 hown5 hKn
    apply WP.region; simp [hl, h0, hlenj, hmk]
    repeat apply WP.seq
    have hacc5 := hacc4.keep hk5 (by simp)
    have hkh5 : Keep [] h g5 := hkh3.trans (hk4.trans hk5)
    have hgM5 := hk5.get _ _ (hk4.get _ _ hg3 (by simp)) (by simp)
    have hp5 := hp.keep hkh5 (by simp)
    have hidw : picks ≠ [] → ∀ j, idOf pv = some j → j < h.next := fun hne j hj => hp.lt hw (by simpa [ints] using hne) hj
    have hOMK : ∀ j, idOf ov0 = some j → j ≠ M ∧ j ≠ K := fun j hj => by have := hidO j hj; omega
    have hMK : M ≠ K ∧ M < g5.next ∧ K < g5.next ∧ h.next ≤ M ∧ h.next ≤ K := by have := hk5.le; have := hkh3.le; omega
    clear hk1 hk2 hk3 hk4 hk5 hkh3 hg2 hg3 hg4 hg5 href hal2 hst2 hbs hmk hacc4 hMd hk1l hM1 hMk hMn hM3 hO4 hO3 hK5 hKn hidO
    generalize hF : (playN jobs bb steps.toNat (startP jobs picks)).out = F
    have hwf5 := hkh5.wf
    have hle5 := hkh5.le
    apply WP.block
    refine WP.loop (fun k e g' => e.length = 73 ∧ nth e 0 = jv ∧ nth e 3 = .int .i64 steps ∧ nth e 9 = .ptr (some ⟨M, 0⟩) ∧ nth e 11 = kv ∧ g5.next ≤ g'.next ∧ Keep [] h g' ∧ ∃ (s : PS) (pv cv2 outv : AV) (cs : List (AV × List Bool × Int)), k = steps.toNat - s.out.length ∧ nth e 10 = outv ∧ s.out.length ≤ steps.toNat ∧ (playN jobs bb (steps.toNat - s.out.length) s).out = F ∧
      (∀ a ∈ s.cnt, 0 ≤ a ∧ a ≤ (s.out.length : Int)) ∧ s.cnt.length = jobs.length ∧ cs.length = s.out.length ∧ Own g' kv K (ints s.cnt) ∧ Acc h.next g' outv (ints s.out) ∧ (∀ j, idOf outv = some j → j ≠ M ∧ j ≠ K ∧ idOf cv2 ≠ some j ∧ ∀ x ∈ cs, x.2.1 ≠ [] → idOf x.1 ≠ some j) ∧
      g'.get M = some (.cells [pv, .int .i64 bb, cv2] .own) ∧ Sl g' pv (ints s.picks) ∧ (s.picks ≠ [] → ∀ j, idOf pv = some j → j < h.next) ∧ CallsAt g' cv2 cs ∧
            (∀ j, idOf cv2 = some j → g5.next ≤ j) ∧ (∀ y ∈ cs, ∀ j, idOf y.1 = some j → g5.next ≤ j) ∧ (∀ i, at0 s.ages i = (ageR (hist cs) i : Int)) ∧ s.last = lastOf cs) ?_ steps.toNat _ _ ?_
    · rintro k e g' ⟨hl, h0, h3, h9, h11, hle', hkh, s, pv, cv2, outv, cs, rfl, h10, hol, hF, hcok, hcl, hcsl, hown, hacc, hsep, hgM, hp, hpid, hca, hcid, hcsid, hA, hlast⟩
      have hlo := hacc.sl.len (P := Try.prog) u22
      rw [ints_length] at hlo
      repeat apply WP.seq
      apply WP.region; simp [hl, h3, h10, hlo]
      repeat apply WP.seq
      apply WP.cond (by simp [hl]; rfl)
      · intro hlt1
        have hlt1 : (s.out.length : Int) < steps := by simpa using hlt1
        apply WP.skip; simp
        repeat apply WP.seq
        apply WP.block
        repeat apply WP.seq
        have hwf' := hkh.wf
        have hbs := build31 (h := g')
        have hk1 := (Keep.refl (ex := []) hwf').alloc (.cells [] .own)
        have hacc1 : Acc g'.next (g'.alloc (.cells [] .own)) (.slice (some ⟨g'.next, 0⟩) 0 (.exact 0)) (bools ((readyP jobs s).take 0)) := Acc.empty (Nat.le_refl _) (Heap.get_alloc _ _)
        generalize g'.alloc (.cells [] .own) = g1 at hbs hk1 hacc1
        apply WP.region; simp [hl, hbs]
        repeat apply WP.seq
        apply WP.region; simp [hl, h0, hlenj]
        repeat apply WP.seq
        apply WP.block
        refine WP.loop (fun k e g2 => e.length = 73 ∧ nth e 0 = jv ∧ nth e 3 = .int .i64 steps ∧ nth e 9 = .ptr (some ⟨M, 0⟩) ∧ nth e 10 = outv ∧ nth e 11 = kv ∧ nth e 28 = jv ∧ nth e 29 = .int .i64 jobs.length ∧ Keep [] g' g2 ∧ ∃ i, i ≤ jobs.length ∧ k = jobs.length - i ∧ nth e 30 = .int .i64 (i : Nat) ∧ Acc g'.next g2 (nth e 12) (bools ((readyP jobs s).take i))) ?_ jobs.length _ _ ?_
        · rintro k e g2 ⟨hl, h0, h3, h9, h10, h11, h28, h29, hk2, i, hi, rfl, h30, hacc2⟩
          repeat apply WP.seq
          apply WP.region; simp [hl, h29, h30]
          repeat apply WP.seq
          apply WP.cond (by simp [hl]; rfl)
          · intro hlt2
            have hlt2 : i < jobs.length := by simpa using hlt2
            apply WP.skip; simp
            repeat apply WP.seq
            apply WP.block
            repeat apply WP.seq
            have hji : jobs[i]? = some jobs[i] := List.getElem?_eq_getElem hlt2
            generalize jobs[i] = j at hji
            obtain ⟨l1, hl1, hl1', _⟩ := (hj.keep' (hkh.trans hk2) (by simp)).at (P := Try.prog) u41 s49 a49 (rowsJ_get hji) (k := .i64)
            obtain ⟨B, ga, g3, hal, hst3, hk3, hg3, hB, hB', _⟩ := fresh49 hk2.wf j.1 j.2
            have hacc3 := hacc2.keep hk3 (by simp)
            have hown3 := (hown.keep hk2 (by simp)).keep hk3 (by simp)
            have hlo3 := ((hacc.sl.keep hk2 (by simp)).keep hk3 (by simp)).len (P := Try.prog) u22
            rw [ints_length] at hlo3
            have hld0 : loadA Try.prog g3 3 ⟨B, 0⟩ = some (.int .i64 j.1) := load_cell a3 hg3 rfl
            have hld1 : loadA Try.prog g3 3 ⟨B, 1⟩ = some (.int .i64 j.2) := load_cell a3 hg3 rfl
            have hci : s.cnt[i]? = some (at0 s.cnt i) := at0_get (by omega)
            have hka := hown3.addr (P := Try.prog) u22 s3 (i := i) (by simp; omega) (k := .i64)
            have hkl := hown3.load (P := Try.prog) a3 (ints_get hci)
            apply WP.region; simp [hl, h28, h30, hl1, hl1', hal, storeR_ptr hst3]
            repeat apply WP.seq
            have htake : (readyP jobs s).take (i + 1) = (readyP jobs s).take i ++ [readyAt jobs s i] := by
              rw [List.take_add_one, readyP_get hlt2]; rfl
            have hrd := readyAt_eq (s := s) hji
            have hlen3 : ((readyP jobs s).take i).length ≤ jobs.length := by simp [readyP_length]; omega
            have hk23 := hk2.trans hk3
            -- append
            have happ : ∀ bb : Bool, bb = readyAt jobs s i → ∃ v' g5, appendA Try.prog (g3.alloc (.cells [.bool bb] .own)) 31 31 (nth e 12) (.slice (some ⟨g3.next, 0⟩) 1 (.exact 1)) = some (v', g5) ∧ Acc g'.next g5 v' (bools ((readyP jobs s).take (i + 1))) ∧ Keep [] g' g5 := by
              intro bb hbb
              have hk4 := (Keep.refl (ex := []) hk3.wf).alloc (.cells [.bool bb] .own)
              have hg4 := Heap.get_alloc g3 (.cells [.bool bb] .own)
              obtain ⟨v', g5, hap, hacc5, hk5, _⟩ := (hacc3.keep hk4 (by simp)).push (P := Try.prog) (hk23.trans hk4) (Nat.le_refl _) (hk23.trans hk4).le u31 s4 (room4 (by rw [bools_length]; omega)) (x := .bool bb) (y := .slice (some ⟨g3.next, 0⟩) 1 (.exact 1)) ⟨⟨rfl, by simp [capOk]⟩, .inr ⟨_, .own, hg4, by simp, rfl⟩⟩ rfl
              refine ⟨v', g5, hap, ?_, hk5⟩
              rw [htake, bools_append, ← hbb]; exact hacc5
            by_cases hc : j.1 ≤ (s.out.length : Int)
            · have hrd' : decide (at0 s.cnt i < j.2) = readyAt jobs s i := by rw [hrd]; simp [hc]
              obtain ⟨v', g5', hap, hacc5, hk5⟩ := happ _ hrd'
              apply WP.draw (by kernel_rfl) (by kernel_rfl)
              simp [hl, h10, h11, h30, hlo3, fa49, hld0, hld1, hka, hkl, hc, guardA, build31_b, hap]
              apply WP.region; simp [hl, h30, int_wrap (show i < 9223372036854775807 by omega)]
              exact ⟨jobs.length - (i + 1), by omega, h0, h3, h9, h10, h11, h28, h29, hk5, i + 1, by omega, rfl, by simp, hacc5⟩
            · have hrd' : false = readyAt jobs s i := by rw [hrd]; simp [hc]
              obtain ⟨v', g5', hap, hacc5, hk5⟩ := happ _ hrd'
              apply WP.draw (by kernel_rfl) (by kernel_rfl)
              simp [hl, h10, h11, h30, hlo3, fa49, hld0, hld1, hka, hkl, hc, guardA, build31_b, hap]
              apply WP.region; simp [hl, h30, int_wrap (show i < 9223372036854775807 by omega)]
              exact ⟨jobs.length - (i + 1), by omega, h0, h3, h9, h10, h11, h28, h29, hk5, i + 1, by omega, rfl, by simp, hacc5⟩
          · intro hge
            have hge : ¬ i < jobs.length := by simpa using hge
            apply WP.exit
            simp
            have hrt : (readyP jobs s).take i = readyP jobs s := List.take_of_length_le (by rw [readyP_length]; omega)
            rw [hrt] at hacc2
            -- the choice
            have hp2 := hp.keep hk2 (by simp)
            have hca2 : CallsAt g2 cv2 cs := hca.keep' hk2 (by simp) (by simp)
            have hgM2 := hk2.get _ _ hgM (by simp)
            have hown2 := hown.keep hk2 (by simp)
            have haccO := hacc.keep2 hk2 (by simp)
            have hld2 := load_whole (P := Try.prog) a29 s29 hgM2 rfl
            have hk2l := hk2.le
            have hM2 : M < g'.next := by omega
            obtain ⟨g3, pv3, cv3, rv3, hcall3, hk3, hp3, hca3, hpid3, hcid3, hrid3⟩ := refNext_ok o13 o26 hk2.wf hp2 (b := bb) hca2 (by omega) hacc2.sl (by rw [readyP_length]; omega) hA hlast
            have hk3l := hk3.le
            have hgM3 := hk3.get _ _ hgM2 (by simp)
            have hown3 := hown2.keep hk3 (by simp)
            have haccO3 := haccO.keep2 hk3 (by simp)
            have hstep := ages_step (picks := s.picks) (b := bb) (last := s.last) (ready := readyP jobs s) hA rv3
            have hlst := next_last s.picks bb s.ages s.last (readyP jobs s)
            have hpne := fun h => next_picks_ne (picks := s.picks) (b := bb) (ages := s.ages) (last := s.last) (ready := readyP jobs s) h
            have hchl := fun (_ : Unit) h => next_chosen_lt (jobs := jobs) (b := bb) (s := s) h
            have hstop := fun h => playN_stop (jobs := jobs) (b := bb) (s := s) h
            have hpos : 0 < steps.toNat - s.out.length := by omega
            have hgo : ¬ (nextS jobs bb s).chosen < 0 → playN jobs bb (steps.toNat - s.out.length) s = playN jobs bb (steps.toNat - s.out.length - 1) (moved s (nextS jobs bb s)) := fun h => playN_go h hpos
            have hNS : nextS jobs bb s = nextP s.picks bb s.ages s.last (readyP jobs s) := rfl
            rw [← hNS] at hcall3 hp3 hca3 hstep hlst hpne
            generalize nextS jobs bb s = N at hcall3 hp3 hca3 hstep hlst hpne hchl hstop hgo
            have hst4 := store_whole (P := Try.prog) s29 hgM3 rfl (ds := [pv3, .int .i64 bb, cv3]) rfl (by
              have h1 := sl_cellOk hp3
              obtain ⟨l2, c2, h2⟩ := hca3.1.slice
              simp only [cellsOk, h1, h2, Bool.true_and]; rfl)
            have hg4 := Heap.get_set g3 M (.cells [pv3, .int .i64 bb, cv3] .own)
            have hk4 := (Keep.refl (ex := [M]) hk3.wf).set (i := M) (.cells [pv3, .int .i64 bb, cv3] .own) (by omega) (.inl (by simp))
            generalize g3.set M (.cells [pv3, .int .i64 bb, cv3] .own) = g4 at hst4 hg4 hk4
            have hk4l := hk4.le
            have hkh4 : Keep [] h g4 := (((hkh.trans hk2).trans hk3).more (ex' := [M]) (by simp)).trans hk4 |>.more (by simp; omega)
            have hKM : K ∉ [M] := by simp only [List.mem_singleton]; exact fun h => hMK.1 h.symm
            have hown4 := hown3.keep hk4 hKM
            have haccO4 := haccO3.keep2 hk4 (fun j hj => by have := hsep j hj; simp; omega)
            have hOlt := fun j (hj : idOf outv = some j) => hacc.lt hwf' hj
            have hp4 : Sl g4 pv3 (ints N.picks) := hp3.keep' hk4 (fun hne j hj hm => by
              have := hpid (hpne (by simpa [ints] using hne)) j (hpid3 j hj)
              simp only [List.mem_singleton] at hm
              omega)
            have hcid4 : ∀ j, idOf cv3 = some j → g2.next ≤ j := hcid3
            have hcsid4 : ∀ y ∈ cs ++ [(rv3, readyP jobs s, N.chosen)], ∀ j, idOf y.1 = some j → g5.next ≤ j := by
              intro y hy j hj
              rcases List.mem_append.1 hy with hy | hy
              · exact hcsid y hy j hj
              · simp only [List.mem_singleton] at hy
                subst hy
                have := hrid3 j hj
                omega
            have hca4 : CallsAt g4 cv3 (cs ++ [(rv3, readyP jobs s, N.chosen)]) := hca3.keep' hk4 (fun j hj hm => by
                have := hcid3 j hj
                simp only [List.mem_singleton] at hm
                omega) (fun y hy hne j hj hm => by
                have := hcsid4 y hy j hj
                simp only [List.mem_singleton] at hm
                omega)
            have hsep4 : ∀ j, idOf outv = some j → idOf cv3 ≠ some j ∧ ∀ x ∈ cs ++ [(rv3, readyP jobs s, N.chosen)], x.2.1 ≠ [] → idOf x.1 ≠ some j := by
              intro j hj
              have h1 := hOlt j hj
              refine ⟨fun hc => by have := hcid3 j hc; omega, fun x hx hne hc => ?_⟩
              rcases List.mem_append.1 hx with hx | hx
              · exact (hsep j hj).2.2.2 x hx hne hc
              · simp only [List.mem_singleton] at hx
                subst hx
                have := hrid3 j hc
                omega
            have hrs := hacc2.sl
            repeat apply WP.seq
            apply WP.region; simp [hl]
            repeat apply WP.seq
            apply WP.region; simp [hl, h9, hld2, hca13, hcall3, extractA, storeR_ptr hst4]
            repeat apply WP.seq
            apply WP.region; simp [hl]
            repeat apply WP.seq
            apply WP.cond (by simp [hl]; rfl)
            · intro hc
              have hc : N.chosen < 0 := by simpa using hc
              have hF' := hstop hc (steps.toNat - s.out.length)
              rw [hF'] at hF
              subst hF
              obtain ⟨ol, oc, rfl⟩ := haccO4.sl.slice
              repeat apply WP.seq
              apply WP.region; simp [hl, h10]
              apply WP.ret
              simp [hl, resultsA, resultA, single]
              exact ⟨by simpa using haccO4.sl, hkh4⟩
            · intro hc
              have hc : ¬ N.chosen < 0 := by simpa using hc
              obtain ⟨c, hNc, hcj, hrc⟩ := hchl () hc
              have hci : s.cnt[c]? = some (at0 s.cnt c) := at0_get (by omega)
              have hcle := at0_nonneg hcok (by omega) c
              have hF' := hgo hc
              rw [hF'] at hF
              apply WP.skip; simp
              repeat apply WP.seq
              have hka := hown4.addr (P := Try.prog) u22 s3 (i := c) (by simp; omega) (k := .i64)
              have hkl := hown4.load (P := Try.prog) a3 (ints_get hci)
              obtain ⟨hst5, hown5'⟩ := hown4.store (P := Try.prog) s3 (i := c) (by simp; omega) (x := .int .i64 (at0 s.cnt c + 1)) rfl rfl
              rw [ints_set] at hst5 hown5'
              have hK4 := hk4.wf _ _ hown4.choose_spec.2
              have hk5 := (Keep.refl (ex := [K]) hk4.wf).set (i := K) (.cells (ints (s.cnt.set c (at0 s.cnt c + 1))) .own) hK4 (.inl (by simp))
              generalize g4.set K (.cells (ints (s.cnt.set c (at0 s.cnt c + 1))) .own) = g6 at hst5 hown5' hk5
              have hk5l := hk5.le
              -- the step is written down
              have hbs6 := build22_i (h := g6) (k := .i64) (n := N.chosen)
              have hk6 := (Keep.refl (ex := []) hk5.wf).alloc (.cells [.int .i64 N.chosen] .own)
              have hg6 := Heap.get_alloc g6 (.cells [.int .i64 N.chosen] .own)
              generalize g6.alloc (.cells [.int .i64 N.chosen] .own) = g7 at hbs6 hk6 hg6
              have hk6l := hk6.le
              have hk46 : Keep [K] g4 g7 := hk5.trans (hk6.more (by simp))
              have haccO7 := haccO4.keep2 hk46 (fun j hj => by have := hsep j hj; simp; omega)
              obtain ⟨outv', g8, hap, hacc8, hk8, hid8⟩ := haccO7.pushX (P := Try.prog) (ex := (idOf outv).toList) hk6.wf (by simp) (by have := hkh.le; omega) u22 s3 (room3 (by simp; omega)) (x := .int .i64 N.chosen) (y := .slice (some ⟨g6.next, 0⟩) 1 (.exact 1)) ⟨⟨rfl, by simp [capOk]⟩, .inr ⟨_, .own, hg6, by simp, rfl⟩⟩ rfl
              have hk8l := hk8.le
              have hmem : ∀ j, j ∈ (idOf outv).toList → idOf outv = some j := fun j hj => by simpa using hj
              have hk48 : Keep (K :: (idOf outv).toList) g4 g8 := (hk46.more (by simp)).trans (hk8.more (fun j hj => .inl (List.mem_cons_of_mem _ hj)))
              have hdO : ∀ j, idOf outv = some j → h.next ≤ j := fun j hj => hacc.id hj
              have hown8 := (hown5'.keep hk6 (by simp)).keep hk8 (fun hm => (hsep K (hmem K hm)).2.1 rfl)
              have hgM8 := hk48.get _ _ hg4 (fun hm => by
                rcases List.mem_cons.1 hm with h1 | h1
                · exact hMK.1 h1
                · exact (hsep M (hmem M h1)).1 rfl)
              have hkh8 : Keep [] h g8 := ((hkh4.more (ex' := K :: (idOf outv).toList) (by simp)).trans hk48).more (fun j hj => by
                rcases List.mem_cons.1 hj with h1 | h1
                · right; omega
                · right; exact hdO j (hmem j h1))
              have hp8 : Sl g8 pv3 (ints N.picks) := hp4.keep' hk48 (fun hne j hj hm => by
                have h2 := hpid (hpne (by simpa [ints] using hne)) j (hpid3 j hj)
                rcases List.mem_cons.1 hm with h1 | h1
                · omega
                · have := hdO j (hmem j h1); omega)
              have hca8 : CallsAt g8 cv3 (cs ++ [(rv3, readyP jobs s, N.chosen)]) := hca4.keep' hk48 (fun j hj hm => by
                rcases List.mem_cons.1 hm with h1 | h1
                · have := hcid3 j hj; omega
                · exact (hsep4 j (hmem j h1)).1 hj) (fun y hy hne j hj hm => by
                rcases List.mem_cons.1 hm with h1 | h1
                · have := hcsid4 y hy j hj; omega
                · exact (hsep4 j (hmem j h1)).2 y hy hne hj)
              have hsep8 : ∀ j, idOf outv' = some j → j ≠ M ∧ j ≠ K ∧ idOf cv3 ≠ some j ∧ ∀ x ∈ cs ++ [(rv3, readyP jobs s, N.chosen)], x.2.1 ≠ [] → idOf x.1 ≠ some j := by
                intro j hj
                have h1 := hid8 j hj
                refine ⟨by omega, by omega, fun h2 => ?_, fun x hx hne h2 => ?_⟩
                · have := hca4.1.lt hk4.wf (by simp [rowsOf]) h2; omega
                · have := (hca4.2 x hx).lt hk4.wf (by simpa [bools] using hne) h2; omega
              have hl8 : N.last = lastOf (cs ++ [(rv3, readyP jobs s, N.chosen)]) := by rw [hlst, lastOf_snoc, hlast]
              have hints : ints s.out ++ [.int .i64 N.chosen] = ints (s.out ++ [N.chosen]) := by simp [ints]
              rw [hints] at hacc8
              have hset := set_le hcok (i := c) (x := at0 s.cnt c + 1) (by omega)
              have hka' : indexAddrA Try.prog 22 kv (.int .i64 N.chosen) = some (.ptr (some ⟨K, c⟩)) := by rw [hNc]; exact hka
              apply WP.region; simp [hl, h11, hka', hkl, wrap_small (show -9223372036854775808 ≤ at0 s.cnt c + 1 by omega) (by omega), storeR_ptr hst5]
              apply WP.region; simp [hl, h10, hbs6, hap]
              have hm : moved s N = ⟨N.picks, N.ages, N.last, s.cnt.set c (at0 s.cnt c + 1), s.out ++ [N.chosen]⟩ := by simp only [moved, hNc, Int.toNat_natCast]
              rw [hm] at hF
              have hsub : steps.toNat - s.out.length - 1 = steps.toNat - (s.out ++ [N.chosen]).length := by rw [List.length_append, List.length_singleton]; omega
              rw [hsub] at hF
              refine ⟨steps.toNat - (s.out ++ [N.chosen]).length, by rw [← hsub]; omega, h0, h3, h9, h11, by omega, hkh8, ⟨N.picks, N.ages, N.last, s.cnt.set c (at0 s.cnt c + 1), s.out ++ [N.chosen]⟩, rfl, by simp; omega, hF, ?_, by simpa using hcl, pv3, cv3, cs ++ [(rv3, readyP jobs s, N.chosen)], by simp [hcsl], hown8, hacc8, ?_, hgM8, hp8, ?_, hca8, fun j hj => by have := hcid3 j hj; omega, ?_, hstep, hl8⟩
              · intro a ha
                have := hset a ha
                simp only [List.length_append, List.length_singleton]
                omega
              · intro j hj
                obtain ⟨q1, q2, q3, q4⟩ := hsep8 j hj
                exact ⟨q1, q2, q3, fun a r x hx hne => q4 _ hx hne⟩
              · intro hne j hj
                exact hpid (hpne hne) j (hpid3 j hj)
              · intro a r x hx j hj
                exact hcsid4 _ hx j hj
        · refine ⟨by simp [hl], by simp [hl, h0], by simp [hl, h3], by simp [hl, h9], by simp [hl, h10], by simp [hl, h11], by simp [hl], by simp [hl], hk1, 0, by omega, by omega, by simp [hl], by simpa [hl] using hacc1⟩
      · intro hge
        have hge : ¬ (s.out.length : Int) < steps := by simpa using hge
        apply WP.exit
        simp
        repeat apply WP.seq
        have hz : steps.toNat - s.out.length = 0 := by omega
        rw [hz] at hF
        simp only [playN] at hF
        subst hF
        obtain ⟨ol, oc, rfl⟩ := hacc.sl.slice
        apply WP.region; simp [hl, h10]
        apply WP.ret
        simp [hl, resultsA, resultA, single]
        exact ⟨by simpa using hacc.sl, hkh⟩
    · refine ⟨by simp [hl], by simp [hl, h0], by simp [hl, h3], by simp [hl], by simp [hl], Nat.le_refl _, hkh5, startP jobs picks, pv, .slice none 0 (.exact 0), ov0, [], by simp [startP], by simp [hl], by simp [startP], by simpa [startP] using hF, by simp [startP], by simp [startP], rfl, hown5, by simpa [startP, ints] using hacc5, fun j hj => ⟨(hOMK j hj).1, (hOMK j hj).2, by simp [idOf], by simp⟩, hgM5, hp5, hidw, ⟨⟨by simp [rowsOf], rfl, rfl⟩, by simp⟩, by simp [idOf], by simp, by simp [startP, at0, hist, ageR], by simp [startP, lastOf]⟩
  obtain ⟨u, h', h1, h2, h3⟩ := main
  obtain ⟨l, c, rfl⟩ := h2.slice
  exact ⟨_, h', h1, h2, ⟨l, c, by simp⟩, h3⟩
end
end Go.Am
