/- A part of the proof by the abstract machine: STurns. -/
import Derived.Test.YtehccakjdbapiaaAmSTurnsP
import Derived.Test.YtehccakjdbapiaaAmSAlive
set_option linter.unusedSimpArgs false
namespace Go.Am
open Go.RowKit Go.Proofs

section
variable {ov : CallF}

structure OvOk (ov : CallF) : Prop where
  o11 : ∀ a h, ov 11 a h = none
  o14 : ∀ a h, ov 14 a h = none
  o25 : ∀ a h, ov 25 a h = none
  o27 : ∀ a h, ov 27 a h = none
  o28 : ∀ a h, ov 28 a h = none
  o29 : ∀ a h, ov 29 a h = none
  o30 : ∀ a h, ov 30 a h = none
  o10 : ∀ h, ov 10 [] h = some (.ret (.bool true) h)

/-- A list of bools, copied and shown to a chooser. -/
theorem bools_set {xs : List Bool} {i : Nat} {b : Bool} : (bools xs).set i (.bool b) = bools (xs.set i b) := by simp [bools, List.map_set]
theorem fill_set {n i : Nat} (h : i < n) : (List.replicate i true ++ List.replicate (n - i) false).set i true = List.replicate (i + 1) true ++ List.replicate (n - (i + 1)) false := by
  rw [List.set_append_right _ _ (by simp)]
  simp only [List.length_replicate, Nat.sub_self]
  rw [show n - i = (n - (i + 1)) + 1 from by omega, List.replicate_succ, List.set_cons_zero, List.replicate_succ', List.append_assoc]
  rfl

set_option maxHeartbeats 4000000 in
theorem turns_ok (O : OvOk ov) (o5 : ∀ a h, ov 5 a h = none) {h : Heap} (hw : Wf h) (n0 r0 b0 : Int) : ∃ h', callT ov Try.prog 5 [.int .i64 n0, .int .i64 r0, .int .i64 b0] h = some (.ret (.bool true) h') := by
  have main : ∃ u h', callT ov Try.prog 5 [.int .i64 n0, .int .i64 r0, .int .i64 b0] h = some (.ret u h') ∧ u = .bool true := by
    refine callT_wp (fn := Try.f5) (Q := fun u _ => u = .bool true) (o5 _ _) (by kernel_rfl) rfl ?_
    have hl : (frameA Try.f5 [.int .i64 n0, .int .i64 r0, .int .i64 b0]).length = 68 := frameA_length (Nat.le_of_ble_eq_true rfl)
    have h0 : nth (frameA Try.f5 [.int .i64 n0, .int .i64 r0, .int .i64 b0]) 0 = .int .i64 n0 := frameA_nth (Nat.le_of_ble_eq_true rfl)
    have h1 : nth (frameA Try.f5 [.int .i64 n0, .int .i64 r0, .int .i64 b0]) 1 = .int .i64 r0 := frameA_nth (Nat.le_of_ble_eq_true rfl)
    have h2 : nth (frameA Try.f5 [.int .i64 n0, .int .i64 r0, .int .i64 b0]) 2 = .int .i64 b0 := frameA_nth (Nat.le_of_ble_eq_true rfl)
    generalize frameA Try.f5 [.int .i64 n0, .int .i64 r0, .int .i64 b0] = e at hl h0 h1 h2
    have hca10 : ∀ h, callA (callT ov Try.prog) Try.prog h 10 [] = some (.ret (.bool true) h) := fun h => (callA_of (fn := Try.f10) (by kernel_rfl) rfl).trans (callT_ov _ _ (O.o10 h))
    have hca11 : ∀ args h, callA (callT ov Try.prog) Try.prog h 11 args = callT ov Try.prog 11 args h := fun args h => callA_of (fn := Try.f11) (by kernel_rfl) rfl
    have hca14 : ∀ args h, callA (callT ov Try.prog) Try.prog h 14 args = callT ov Try.prog 14 args h := fun args h => callA_of (fn := Try.f14) (by kernel_rfl) rfl
    repeat apply WP.seq
    apply WP.region; simp [hl]
    repeat apply WP.seq
    apply WP.region; simp [hl, hca10]
    repeat apply WP.seq
    apply WP.cond (t := false) (by simp [hl]) (by simp)
    intro _
    apply WP.skip; simp
    repeat apply WP.seq
    by_cases hin : 1 ≤ n0 ∧ n0 ≤ 40 ∧ 0 ≤ r0 ∧ r0 ≤ 20
    rotate_left
    · apply WP.region
      by_cases c1 : n0 < 1
      · simp [hl, h0, h1, guardA, c1]
        repeat apply WP.seq
        apply WP.cond (t := true) (by simp [hl]) ?_ (by simp)
        intro _
        repeat apply WP.seq
        apply WP.region; simp [hl]
        apply WP.ret
        simp [hl, resultsA, resultA, single]
      · by_cases c2 : 40 < n0
        · simp [hl, h0, h1, guardA, c1, c2]
          repeat apply WP.seq
          apply WP.cond (t := true) (by simp [hl]) ?_ (by simp)
          intro _
          repeat apply WP.seq
          apply WP.region; simp [hl]
          apply WP.ret
          simp [hl, resultsA, resultA, single]
        · by_cases c3 : r0 < 0
          · simp [hl, h0, h1, guardA, c1, c2, c3]
            repeat apply WP.seq
            apply WP.cond (t := true) (by simp [hl]) ?_ (by simp)
            intro _
            repeat apply WP.seq
            apply WP.region; simp [hl]
            apply WP.ret
            simp [hl, resultsA, resultA, single]
          · have c4 : 20 < r0 := by omega
            simp [hl, h0, h1, guardA, c1, c2, c3, c4]
            repeat apply WP.seq
            apply WP.cond (t := true) (by simp [hl]) ?_ (by simp)
            intro _
            repeat apply WP.seq
            apply WP.region; simp [hl]
            apply WP.ret
            simp [hl, resultsA, resultA, single]
    · obtain ⟨n, rfl⟩ := Int.eq_ofNat_of_zero_le (show 0 ≤ n0 by omega)
      obtain ⟨r, rfl⟩ := Int.eq_ofNat_of_zero_le (show 0 ≤ r0 by omega)
      have c1 : ¬ (n : Int) < 1 := by omega
      have c2 : ¬ 40 < (n : Int) := by omega
      have c3 : ¬ (r : Int) < 0 := by omega
      have c4 : ¬ 20 < (r : Int) := by omega
      have hn1 : 1 ≤ n ∧ n ≤ 40 ∧ r ≤ 20 := by omega
      have hnr : n * r ≤ 800 := Nat.le_trans (Nat.mul_le_mul hn1.2.1 hn1.2.2) (by omega)
      have hwr : IntKind.wrap .i64 ((n : Int) * r) = ((n * r : Nat) : Int) := by
        rw [← Int.natCast_mul, wrap_small (by omega) (by omega)]
      apply WP.region; simp [hl, h0, h1, guardA, c1, c2, c3, c4]
      repeat apply WP.seq
      apply WP.cond (t := false) (by simp [hl]) (by simp)
      intro _
      apply WP.skip; simp
      repeat apply WP.seq
      obtain ⟨C, g, pv, hnew, hgC, hpv, hidp, hCn, hk⟩ := new_ok O.o25 O.o11 hw (v := .slice none 0 (.exact 0)) (xs := []) ⟨rfl, rfl⟩ (by simp) b0
      have hC : Ch g C [] (max b0 1) [] (-1) := ⟨_, _, hgC, hpv, ⟨rfl, rfl⟩, fun hi => (hidp _ hi).2 rfl, by simp [idOf]⟩
      apply WP.region; simp [hl, h2, hca11, hnew]
      repeat apply WP.seq
      apply WP.region; simp [hl, bin_ptnil u25]
      repeat apply WP.seq
      apply WP.cond (t := false) (by simp [hl]) (by simp)
      intro _
      apply WP.skip; simp
      repeat apply WP.seq
      have hmk : makeSliceA Try.prog g 31 (.int .i64 (n : Nat)) (.int .i64 (n : Nat)) = _ := make31 (by omega)
      have hk2 : Keep [] g (g.alloc (.cells (List.replicate n (.bool false)) .own)) := (Keep.refl hk.wf).alloc _
      have hg2 : (g.alloc (.cells (List.replicate n (.bool false)) .own)).get g.next = some (.cells (List.replicate n (.bool false)) .own) := Heap.get_alloc _ _
      have hCg : C < g.next := hk.wf _ _ hgC
      have hn2 : (g.alloc (.cells (List.replicate n (.bool false)) .own)).next = g.next + 1 := rfl
      generalize g.alloc (.cells (List.replicate n (.bool false)) .own) = g2 at hk2 hg2 hmk hn2
      have hown : Own g2 (.slice (some ⟨g.next, 0⟩) n (.exact n)) g.next (bools (List.replicate 0 true ++ List.replicate (n - 0) false)) :=
        ⟨.exact n, ⟨by simp, by simp [capOk]⟩, by simpa [bools] using hg2⟩
      have hAC : g.next ≠ C := by omega
      have hA2 : g.next < g2.next := by omega
      generalize g.next = A at hown hmk hAC hA2
      have hlenr : ∀ g, lenA Try.prog g 31 (.slice (some ⟨A, 0⟩) n (.exact n)) = some (.int .i64 (n : Nat)) := fun g => lenA_slice u31
      generalize hrs : AV.slice (some ⟨A, 0⟩) n (.exact n) = rs at hown hmk hlenr
      have hC2 : Ch g2 C [] (max b0 1) [] (-1) := by
        obtain ⟨p, a, hc⟩ := hC
        exact ⟨p, a, hc.keep hk2 (by simp) (by simp) (by simp)⟩
      have hwf2 := hk2.wf
      clear hk hk2 hC hgC hpv hidp hnew hg2 hn2 hCn hCg
      apply WP.region; simp [hl, h0, hmk]
      repeat apply WP.seq
      apply WP.region; simp [hl, hlenr]
      repeat apply WP.seq
      apply WP.block
      refine WP.loop (fun k e g => e.length = 68 ∧ nth e 0 = .int .i64 n ∧ nth e 1 = .int .i64 r ∧ nth e 7 = .ptr (some ⟨C, 0⟩) ∧ nth e 8 = rs ∧ nth e 36 = .int .i64 n ∧ Wf g ∧ Ch g C [] (max b0 1) [] (-1) ∧ ∃ i, i ≤ n ∧ k = n - i ∧ nth e 37 = .int .i64 (i : Nat) ∧ Own g rs A (bools (List.replicate i true ++ List.replicate (n - i) false))) ?_ n _ _ ?_
      · rintro k e g ⟨hl, h0, h1, h7, h8, h36, hwf, hC, i, hi, rfl, h37, hown⟩
        repeat apply WP.seq
        apply WP.region; simp [hl, h36, h37]
        repeat apply WP.seq
        apply WP.cond (by simp [hl]; rfl)
        · intro hlt1
          have hlt1 : i < n := by simpa using hlt1
          apply WP.skip; simp
          repeat apply WP.seq
          apply WP.block
          repeat apply WP.seq
          have hle : i < (bools (List.replicate i true ++ List.replicate (n - i) false)).length := by simp; omega
          have haddr := hown.addr (P := Try.prog) u31 s4 hle (k := .i64)
          obtain ⟨hst, hown'⟩ := hown.store (P := Try.prog) s4 hle (x := .bool true) rfl rfl
          rw [bools_set, fill_set hlt1] at hst hown'
          have hAg : A < g.next := hwf _ _ hown.choose_spec.2
          have hk' : Keep [A] g (g.set A (.cells (bools (List.replicate (i + 1) true ++ List.replicate (n - (i + 1)) false)) .own)) := (Keep.refl hwf).set _ hAg (.inl (by simp))
          have hC' : Ch (g.set A (.cells (bools (List.replicate (i + 1) true ++ List.replicate (n - (i + 1)) false)) .own)) C [] (max b0 1) [] (-1) := by
            obtain ⟨p, a, hc⟩ := hC
            exact ⟨p, a, hk'.get _ _ hc.1 (by simp; omega), hc.2.1.keep' hk' (by simp [ints]), hc.2.2.1.keep' hk' (by simp [ints]), hc.2.2.2⟩
          have hwf' := hk'.wf
          apply WP.region; simp [hl, h37]
          repeat apply WP.seq
          apply WP.region; simp [hl, h8, haddr, storeR_ptr hst]
          apply WP.region; simp [hl, h37, int_wrap (show i < 9223372036854775807 by omega)]
          exact ⟨n - (i + 1), by omega, h0, h1, h7, h8, h36, hwf', hC', i + 1, by omega, rfl, by simp, hown'⟩
        · intro hge
          have hge : ¬ i < n := by simpa using hge
          have hi' : i = n := by omega
          subst hi'
          apply WP.exit
          simp
          rw [Nat.sub_self, List.replicate_zero, List.append_nil] at hown
          repeat apply WP.seq
          apply WP.region; simp [hl]
          repeat apply WP.seq
          apply WP.block
          generalize hy : i * r = y at hwr hnr
          refine WP.loop (fun k e g => e.length = 68 ∧ nth e 0 = .int .i64 i ∧ nth e 1 = .int .i64 r ∧ nth e 7 = .ptr (some ⟨C, 0⟩) ∧ nth e 8 = rs ∧ Wf g ∧ Own g rs A (bools (List.replicate i true)) ∧ ∃ x q m ages, m < i ∧ x = i * q + m ∧ x ≤ y ∧ k = y - x ∧ nth e 10 = .int .i64 (x : Int) ∧ agesFor ages i = turnAges i q m ∧ (∀ a ∈ ages, 0 ≤ a ∧ a < 4611686018427387904) ∧ Ch g C [] (max b0 1) ages (turnLast i q m)) ?_ y _ _ ?_
          · rintro k e g ⟨hl, h0, h1, h7, h8, hwf, hown, x, q, m, ages, hm, hx, hxy, rfl, h10, hag, haok, hC⟩
            repeat apply WP.seq
            apply WP.region; simp [hl, h0, h1, h10, hwr]
            repeat apply WP.seq
            apply WP.cond (by simp [hl]; rfl)
            · intro hlt1
              have hlt1 : x < y := by simpa using hlt1
              apply WP.skip; simp
              repeat apply WP.seq
              apply WP.block
              repeat apply WP.seq
              obtain ⟨v', g', B, hap, hown', hB, hk'⟩ := hown.sl.clone (P := Try.prog) hwf u31 s4 (fun _ => room4 (by simp; omega)) bools_ok
              have hC' : Ch g' C [] (max b0 1) ages (turnLast i q m) := by
                obtain ⟨p, a, hc⟩ := hC
                exact ⟨p, a, hc.keep hk' (by simp) (by simp) (by simp)⟩
              have hCg : C < g.next := by obtain ⟨p, a, hc⟩ := hC; exact hwf _ _ hc.1
              have hvC : idOf v' ≠ some C := by rw [hown'.id]; simp; omega
              obtain ⟨g'', hcall, hC'', hk''⟩ := next_ok O.o14 O.o27 O.o28 O.o29 O.o30 hk'.wf hC' hown'.sl hvC (by simp; omega) haok
              obtain ⟨q', m', hm', hqm, hN⟩ := turn_next hm hag (bound := max b0 1)
              rw [hN] at hcall hC''
              simp only at hcall hC''
              have hmx : max (m : Int) 0 = m := by omega
              have hm0 : (0 : Int) ≤ m := by omega
              rw [hmx] at hcall
              simp only [hm0, decide_true] at hcall
              have hown2 := (hown.keep hk' (by simp)).keep hk'' (by simp; omega)
              have hmod : (x : Int).tmod i = m := by
                rw [hx, ← Int.ofNat_tmod, Nat.mul_add_mod, Nat.mod_eq_of_lt hm]
              have hi0 : (i : Int) ≠ 0 := by omega
              apply WP.region; simp [hl, h7, h8, build31, hap, hca14, hcall, extractA]
              repeat apply WP.seq
              apply WP.region; simp [hl, h0, h10, guardA, bin_rem hi0, hmod]
              repeat apply WP.seq
              apply WP.cond (t := false) (by simp [hl]) (by simp)
              intro _
              apply WP.skip; simp
              apply WP.region; simp [hl, h10, int_wrap (show x < 9223372036854775807 by omega)]
              refine ⟨y - (x + 1), by omega, h0, h1, h7, h8, hk''.wf, hown2, x + 1, q', m', hm', by omega, by omega, rfl, by simp, turnAges i q' m', agesFor_self (turnAges_length _ _ _), turnAges_ok hm' hn1.2.1, hC''⟩
            · intro hge
              apply WP.exit
              simp
              repeat apply WP.seq
              apply WP.region; simp [hl]
              apply WP.ret
              simp [hl, resultsA, resultA, single]
          · refine ⟨by simp [hl], by simp [h0], by simp [h1], by simp [h7], by simp [h8], hwf, hown, 0, 0, 0, [], by omega, by omega, by omega, by omega, by simp [hl], turnAges_zero i, by simp, ?_⟩
            simpa [turnLast] using hC
      · refine ⟨by simp [hl], by simp [h0], by simp [h1], by simp [hl], by simp [hl], by simp [hl], hwf2, hC2, 0, by omega, by omega, by simp [hl], hown⟩
  obtain ⟨_, h', h1, rfl⟩ := main
  exact ⟨h', h1⟩
end
end Go.Am
