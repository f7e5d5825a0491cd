/- A part of the proof by the abstract machine: SPicks. -/
import Derived.Test.YtehccakjdbapiaaAmSLeft
set_option linter.unusedSimpArgs false
namespace Go.Am
open Go.RowKit Go.Proofs

section
variable {ov : CallF}

theorem Ch.keep {ex : List Nat} {h0 h : Heap} (hk : Keep ex h0 h) (hex : ex = []) {C : Nat} {picks ages : List Int} {bound last : Int} (hC : Ch h0 C picks bound ages last) : Ch h C picks bound ages last := by
  subst hex
  obtain ⟨p, a, hc⟩ := hC
  exact ⟨p, a, hc.keep hk (by simp) (by simp) (by simp)⟩
theorem Ch.lt {h : Heap} (hw : Wf h) {C : Nat} {picks ages : List Int} {bound last : Int} (hC : Ch h C picks bound ages last) : C < h.next := by
  obtain ⟨p, a, hc⟩ := hC; exact hw _ _ hc.1
/-- A chooser stands where another block is written that it does not use. -/
theorem Ch.keep1 {A : Nat} {h0 h : Heap} (hk : Keep [A] h0 h) {C : Nat} {picks ages : List Int} {bound last : Int} (hC : Ch h0 C picks bound ages last) (hA : A ≠ C)
    (hx : ∀ pv av, ChAt h0 C pv av picks bound ages last → (picks ≠ [] → idOf pv ≠ some A) ∧ (ages ≠ [] → idOf av ≠ some A)) : Ch h C picks bound ages last := by
  obtain ⟨p, a, hc⟩ := hC
  obtain ⟨h1, h2⟩ := hx p a hc
  refine ⟨p, a, hk.get _ _ hc.1 (by simp; omega), hc.2.1.keep' hk ?_, hc.2.2.1.keep' hk ?_, hc.2.2.2⟩
  · intro hne i hi hm
    simp only [List.mem_singleton] at hm
    exact h1 (by simpa [ints] using hne) (by rw [hi, hm])
  · intro hne i hi hm
    simp only [List.mem_singleton] at hm
    exact h2 (by simpa [ints] using hne) (by rw [hi, hm])

set_option maxHeartbeats 4000000 in
theorem picks_ok (O : OvOk ov) (o6 : ∀ a h, ov 6 a h = none) (o15 : ∀ a h, ov 15 a h = none) (o16 : ∀ a h, ov 16 a h = none) {h : Heap} (hw : Wf h) {wv : AV} {want : List Int} (hs : Sl h wv (ints want)) (hL : want.length ≤ 2000000) (n0 : Int) :
    ∃ h', callT ov Try.prog 6 [wv, .int .i64 n0] h = some (.ret (.bool true) h') := by
  have main : ∃ u h', callT ov Try.prog 6 [wv, .int .i64 n0] h = some (.ret u h') ∧ u = .bool true := by
    refine callT_wp (fn := Try.f6) (Q := fun u _ => u = .bool true) (o6 _ _) (by kernel_rfl) rfl ?_
    have hl : (frameA Try.f6 [wv, .int .i64 n0]).length = 75 := frameA_length (Nat.le_of_ble_eq_true rfl)
    have h0 : nth (frameA Try.f6 [wv, .int .i64 n0]) 0 = wv := frameA_nth (Nat.le_of_ble_eq_true rfl)
    have h1 : nth (frameA Try.f6 [wv, .int .i64 n0]) 1 = .int .i64 n0 := frameA_nth (Nat.le_of_ble_eq_true rfl)
    generalize frameA Try.f6 [wv, .int .i64 n0] = e at hl h0 h1
    have hca10 : ∀ h, callA (callT ov Try.prog) Try.prog h 10 [] = some (.ret (.bool true) h) := fun h => (callA_of (fn := Try.f10) (by kernel_rfl) rfl).trans (callT_ov _ _ (O.o10 h))
    have hca11 : ∀ args h, callA (callT ov Try.prog) Try.prog h 11 args = callT ov Try.prog 11 args h := fun args h => callA_of (fn := Try.f11) (by kernel_rfl) rfl
    have hca14 : ∀ args h, callA (callT ov Try.prog) Try.prog h 14 args = callT ov Try.prog 14 args h := fun args h => callA_of (fn := Try.f14) (by kernel_rfl) rfl
    have hca15 : ∀ args h, callA (callT ov Try.prog) Try.prog h 15 args = callT ov Try.prog 15 args h := fun args h => callA_of (fn := Try.f15) (by kernel_rfl) rfl
    have hca16 : ∀ args h, callA (callT ov Try.prog) Try.prog h 16 args = callT ov Try.prog 16 args h := fun args h => callA_of (fn := Try.f16) (by kernel_rfl) rfl
    have hlenw : ∀ h, lenA Try.prog h 22 wv = some (.int .i64 (want.length : Nat)) := by
      intro h; obtain ⟨l, c, rfl⟩ := hs.slice; simpa using lenA_slice (P := Try.prog) u22
    repeat apply WP.seq
    apply WP.region; simp [hl]
    repeat apply WP.seq
    apply WP.region; simp [hl, hca10]
    repeat apply WP.seq
    apply WP.cond (t := false) (by simp [hl]) (by simp)
    intro _
    apply WP.skip; simp
    repeat apply WP.seq
    by_cases hin : 1 ≤ n0 ∧ n0 ≤ 50
    rotate_left
    · apply WP.region
      by_cases c1 : n0 < 1
      · simp [hl, h1, guardA, c1]
        repeat apply WP.seq
        apply WP.cond (t := true) (by simp [hl]) ?_ (by simp)
        intro _
        repeat apply WP.seq
        apply WP.region; simp [hl]
        apply WP.ret
        simp [hl, resultsA, resultA, single]
      · have c2 : 50 < n0 := by omega
        simp [hl, h1, guardA, c1, c2]
        repeat apply WP.seq
        apply WP.cond (t := true) (by simp [hl]) ?_ (by simp)
        intro _
        repeat apply WP.seq
        apply WP.region; simp [hl]
        apply WP.ret
        simp [hl, resultsA, resultA, single]
    · obtain ⟨n, rfl⟩ := Int.eq_ofNat_of_zero_le (show 0 ≤ n0 by omega)
      have c1 : ¬ (n : Int) < 1 := by omega
      have c2 : ¬ 50 < (n : Int) := by omega
      have hn1 : 1 ≤ n ∧ n ≤ 50 := by omega
      apply WP.region; simp [hl, h1, guardA, c1, c2]
      repeat apply WP.seq
      apply WP.cond (t := false) (by simp [hl]) (by simp)
      intro _
      apply WP.skip; simp
      repeat apply WP.seq
      obtain ⟨cv, gc, B, hap, hownc, hB, hkc⟩ := hs.clone (P := Try.prog) hw u22 s3 (fun _ => room3 (by simp; omega)) ints_ok
      obtain ⟨C, g, pv, hnew, hgC, hpv, hidp, hCn, hk⟩ := new_ok O.o25 O.o11 hkc.wf hownc.sl (by omega) ((want.length : Int) + 1)
      have hmax : max ((want.length : Int) + 1) 1 = (want.length : Int) + 1 := by omega
      rw [hmax] at hgC
      have hC : Ch g C want ((want.length : Int) + 1) [] (-1) := ⟨_, _, hgC, hpv, ⟨rfl, rfl⟩, fun hi => (hidp _ hi).2 rfl, by simp [idOf]⟩
      have hwr : IntKind.wrap .i64 ((want.length : Int) + 1) = (want.length : Int) + 1 := wrap_small (by omega) (by omega)
      apply WP.region; simp [hl, h0, h1, hlenw, build22, hap, hwr, hca11, hnew]
      repeat apply WP.seq
      apply WP.region; simp [hl, bin_ptnil u25]
      repeat apply WP.seq
      apply WP.cond (t := false) (by simp [hl]) (by simp)
      intro _
      apply WP.skip; simp
      repeat apply WP.seq
      have hsg := hs.keep (hkc.trans hk) (by simp)
      have hidw : ints want ≠ [] → ∀ i, idOf wv = some i → i ∉ [C] := by
        intro hne i hi hm
        have h3 := hs.lt hw hne hi
        have h4 := hkc.le
        simp only [List.mem_singleton] at hm
        omega
      clear hgC hpv hidp hnew hap hownc
      have hmk : makeSliceA Try.prog g 31 (.int .i64 (n : Nat)) (.int .i64 (n : Nat)) = _ := make31 (by omega)
      have hk2 : Keep [] g (g.alloc (.cells (List.replicate n (.bool false)) .own)) := (Keep.refl hk.wf).alloc _
      have hg2 : (g.alloc (.cells (List.replicate n (.bool false)) .own)).get g.next = some (.cells (List.replicate n (.bool false)) .own) := Heap.get_alloc _ _
      have hCg : C < g.next := hC.lt hk.wf
      generalize g.alloc (.cells (List.replicate n (.bool false)) .own) = g2 at hk2 hg2 hmk
      have hown : Own g2 (.slice (some ⟨g.next, 0⟩) n (.exact n)) g.next (bools (List.replicate 0 true ++ List.replicate (n - 0) false)) :=
        ⟨.exact n, ⟨by simp, by simp [capOk]⟩, by simpa [bools] using hg2⟩
      have hAC : g.next ≠ C := by omega
      have hAg : g.next ≤ g.next := Nat.le_refl _
      generalize hA : g.next = A at hown hmk hAC
      rw [hA] at hAg
      have hlenr : ∀ g, lenA Try.prog g 31 (.slice (some ⟨A, 0⟩) n (.exact n)) = some (.int .i64 (n : Nat)) := fun g => lenA_slice u31
      generalize hrs : AV.slice (some ⟨A, 0⟩) n (.exact n) = rs at hown hmk hlenr
      apply WP.region; simp [hl, h1, hmk]
      repeat apply WP.seq
      apply WP.region; simp [hl, hlenr]
      repeat apply WP.seq
      apply WP.block
      refine WP.loop (fun k e g' => e.length = 75 ∧ nth e 0 = wv ∧ nth e 1 = .int .i64 n ∧ nth e 5 = .ptr (some ⟨C, 0⟩) ∧ nth e 6 = rs ∧ nth e 32 = .int .i64 n ∧ Keep [] g g' ∧ ∃ i, i ≤ n ∧ k = n - i ∧ nth e 33 = .int .i64 (i : Nat) ∧ Own g' rs A (bools (List.replicate i true ++ List.replicate (n - i) false))) ?_ n _ _ ?_
      · rintro k e g' ⟨hl, h0, h1, h5, h6, h32, hkg, i, hi, rfl, h33, hown⟩
        repeat apply WP.seq
        apply WP.region; simp [hl, h32, h33]
        repeat apply WP.seq
        apply WP.cond (by simp [hl]; rfl)
        · intro hlt1
          have hlt1 : i < n := by simpa using hlt1
          apply WP.skip; simp
          repeat apply WP.seq
          apply WP.block
          repeat apply WP.seq
          have hle : i < (bools (List.replicate i true ++ List.replicate (n - i) false)).length := by simp; omega
          have haddr := hown.addr (P := Try.prog) u31 s4 hle (k := .i64)
          obtain ⟨hst, hown'⟩ := hown.store (P := Try.prog) s4 hle (x := .bool true) rfl rfl
          rw [bools_set, fill_set hlt1] at hst hown'
          have hAg' : A < g'.next := hkg.wf _ _ hown.choose_spec.2
          have hk' := hkg.set (.cells (bools (List.replicate (i + 1) true ++ List.replicate (n - (i + 1)) false)) .own) hAg' (.inr (by omega))
          apply WP.region; simp [hl, h33]
          repeat apply WP.seq
          apply WP.region; simp [hl, h6, haddr, storeR_ptr hst]
          apply WP.region; simp [hl, h33, int_wrap (show i < 9223372036854775807 by omega)]
          exact ⟨n - (i + 1), by omega, h0, h1, h5, h6, h32, hk', i + 1, by omega, rfl, by simp, hown'⟩
        · intro hge
          have hge : ¬ i < n := by simpa using hge
          have hi' : i = n := by omega
          subst hi'
          apply WP.exit
          simp
          rw [Nat.sub_self, List.replicate_zero, List.append_nil] at hown
          have hC2 := hC.keep hkg rfl
          have hs2 := hsg.keep hkg (by simp)
          repeat apply WP.seq
          apply WP.region; simp [hl, h0, hlenw]
          repeat apply WP.seq
          apply WP.block
          refine WP.loop (fun k e g'' => e.length = 75 ∧ nth e 0 = wv ∧ nth e 1 = .int .i64 i ∧ nth e 5 = .ptr (some ⟨C, 0⟩) ∧ nth e 6 = rs ∧ nth e 40 = wv ∧ nth e 41 = .int .i64 want.length ∧ Keep [C] g' g'' ∧ ∃ x, x ≤ want.length ∧ k = want.length - x ∧ nth e 42 = .int .i64 (x : Int) ∧ ∃ ages last, (∀ a ∈ ages, 0 ≤ a ∧ a ≤ (x : Int)) ∧ Ch g'' C (want.drop x) ((want.length : Int) + 1) ages last) ?_ want.length _ _ ?_
          · rintro k e g'' ⟨hl, h0, h1, h5, h6, h40, h41, hkc'', x, hx, rfl, h42, ages, last, haok, hC⟩
            repeat apply WP.seq
            apply WP.region; simp [hl, h41, h42]
            repeat apply WP.seq
            apply WP.cond (by simp [hl]; rfl)
            · intro hlt1
              have hlt1 : x < want.length := by simpa using hlt1
              apply WP.skip; simp
              repeat apply WP.seq
              apply WP.block
              repeat apply WP.seq
              obtain ⟨p, hwp⟩ : ∃ p, want[x]? = some p := ⟨want[x], by simp [hlt1]⟩
              have hdrop : want.drop x = p :: want.drop (x + 1) := by
                rw [List.drop_eq_getElem_cons hlt1]
                congr 1
                have := List.getElem?_eq_getElem hlt1
                rw [this] at hwp
                exact Option.some.inj hwp
              have hsw := hs2.keep' hkc'' hidw
              obtain ⟨l1, hl1, hl1', _⟩ := hsw.at u22 s3 a3 (ints_get hwp) (k := .i64)
              have hown2 := hown.keep hkc'' (by simp [hAC])
              obtain ⟨v', g3, B', hap, hown3, hB', hk3⟩ := hown2.sl.clone (P := Try.prog) hkc''.wf u31 s4 (fun _ => room4 (by simp; omega)) bools_ok
              have hC3 := hC.keep hk3 rfl
              have hCl := hC.lt hkc''.wf
              have hvC : idOf v' ≠ some C := by rw [hown3.id]; simp; omega
              obtain ⟨g4, hcall, hC4, hk4⟩ := next_ok O.o14 O.o27 O.o28 O.o29 O.o30 hk3.wf hC3 hown3.sl hvC (by simp; omega) (fun a ha => by have := haok a ha; omega)
              obtain ⟨ages', haok', hN⟩ := picks_next (n := i) (by omega) (p := p) (ps := want.drop (x + 1)) (last := last) (bound := (want.length : Int) + 1) (M := (x : Int)) (by omega) (by omega) haok
              rw [hdrop, hN] at hcall hC4
              simp only at hcall hC4
              have hr := pickAt_range p (n := i) (by omega)
              have hmx : max (pickAt p i) 0 = pickAt p i := by omega
              rw [hmx] at hcall
              simp only [hr.1, decide_true] at hcall
              have hpl := place_ok o16 (h := g4) p (n := i) (by omega) (by omega)
              have hlf := left_ok o15 hC4
              have hsub : IntKind.wrap .i64 ((want.length : Int) - x) = (want.length : Int) - x := wrap_small (by omega) (by omega)
              have hsub2 : IntKind.wrap .i64 ((want.length : Int) - x - 1) = ((want.drop (x + 1)).length : Int) := by rw [wrap_small (by omega) (by omega), List.length_drop]; omega
              rw [List.length_drop] at hlf hsub2
              apply WP.region; simp [hl, h40, h42, hl1, hl1']
              repeat apply WP.seq
              apply WP.region; simp [hl, h5, h6, build31, hap, hca14, hcall, extractA]
              repeat apply WP.seq
              apply WP.region; simp [hl, h0, h1, h5, guardA, hca15, hca16, hpl, hlf, hlenw, hsub, hsub2]
              repeat apply WP.seq
              apply WP.cond (t := false) (by simp [hl]) (by simp)
              intro _
              apply WP.skip; simp
              apply WP.region; simp [hl, h42, int_wrap (show x < 9223372036854775807 by omega)]
              refine ⟨want.length - (x + 1), by omega, h0, h1, h5, h6, h40, h41, (hkc''.trans (hk3.more (by simp))).trans hk4, x + 1, by omega, rfl, by simp, ages', fun a ha => ?_, _, hC4⟩
              have := haok' a ha
              omega
            · intro hge
              apply WP.exit
              simp
              repeat apply WP.seq
              apply WP.region; simp [hl]
              apply WP.ret
              simp [hl, resultsA, resultA, single]
          · refine ⟨by simp [hl], by simp [h0], by simp [h1], by simp [h5], by simp [h6], by simp [hl], by simp [hl], Keep.refl hkg.wf, 0, by omega, by omega, by simp [hl], [], -1, by simp, hC2⟩
      · refine ⟨by simp [hl], by simp [h0], by simp [h1], by simp [hl], by simp [hl], by simp [hl], hk2, 0, by omega, by omega, by simp [hl], hown⟩
  obtain ⟨_, h', h1, rfl⟩ := main
  exact ⟨h', h1⟩
end
end Go.Am
