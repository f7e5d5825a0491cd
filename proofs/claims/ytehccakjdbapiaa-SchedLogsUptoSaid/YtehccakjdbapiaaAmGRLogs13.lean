/- Parts of the proof by the abstract machine: SAlive, STurns, SLeft, SFairP, SRefP, SRefQ, SRefB, SRefN, SPicks. -/
import Derived.Test.YtehccakjdbapiaaAmGRLogs11
import Derived.Test.YtehccakjdbapiaaAmGRLogs12
import Derived.Test.YtehccakjdbapiaaAmGRLogs9
namespace Go.Am
open Go.RowKit Go.Proofs
theorem alive_run : isTrue (callN (drawA Try.prog) (fun _ _ _ => none) Try.prog 100 10 10 [] (heap0 Try.prog)) = true := by kernel_rfl
theorem alive_ok : CallsOk Try.prog (ovTrue 10) := ovTrue_ok fns_ok mixed_ok alive_run
theorem calls_ok : CallsOk Try.prog (callT (ovTrue 10) Try.prog) := callT_ok _ _ fns_ok mixed_ok alive_ok
end Go.Am

set_option linter.unusedSimpArgs false
namespace Go.Am
open Go.RowKit Go.Proofs

section
variable {ov : CallF}

structure OvOk (ov : CallF) : Prop where
  o11 : ∀ a h, ov 11 a h = none
  o14 : ∀ a h, ov 14 a h = none
  o25 : ∀ a h, ov 25 a h = none
  o27 : ∀ a h, ov 27 a h = none
  o28 : ∀ a h, ov 28 a h = none
  o29 : ∀ a h, ov 29 a h = none
  o30 : ∀ a h, ov 30 a h = none
  o10 : ∀ h, ov 10 [] h = some (.ret (.bool true) h)

/-- A list of bools, copied and shown to a chooser. -/
theorem bools_set {xs : List Bool} {i : Nat} {b : Bool} : (bools xs).set i (.bool b) = bools (xs.set i b) := by simp [bools, List.map_set]
theorem fill_set {n i : Nat} (h : i < n) : (List.replicate i true ++ List.replicate (n - i) false).set i true = List.replicate (i + 1) true ++ List.replicate (n - (i + 1)) false := by
  rw [List.set_append_right _ _ (by simp)]
  simp only [List.length_replicate, Nat.sub_self]
  rw [show n - i = (n - (i + 1)) + 1 from by omega, List.replicate_succ, List.set_cons_zero, List.replicate_succ', List.append_assoc]
  rfl

set_option maxHeartbeats 4000000 in
theorem turns_ok (O : OvOk ov) (o5 : ∀ a h, ov 5 a h = none) {h : Heap} (hw : Wf h) (n0 r0 b0 : Int) : ∃ h', callT ov Try.prog 5 [.int .i64 n0, .int .i64 r0, .int .i64 b0] h = some (.ret (.bool true) h') := by
  have main : ∃ u h', callT ov Try.prog 5 [.int .i64 n0, .int .i64 r0, .int .i64 b0] h = some (.ret u h') ∧ u = .bool true := by
    refine callT_wp (fn := Try.f5) (Q := fun u _ => u = .bool true) (o5 _ _) (by kernel_rfl) rfl ?_
    have hl : (frameA Try.f5 [.int .i64 n0, .int .i64 r0, .int .i64 b0]).length = 68 := frameA_length (Nat.le_of_ble_eq_true rfl)
    have h0 : nth (frameA Try.f5 [.int .i64 n0, .int .i64 r0, .int .i64 b0]) 0 = .int .i64 n0 := frameA_nth (Nat.le_of_ble_eq_true rfl)
    have h1 : nth (frameA Try.f5 [.int .i64 n0, .int .i64 r0, .int .i64 b0]) 1 = .int .i64 r0 := frameA_nth (Nat.le_of_ble_eq_true rfl)
    have h2 : nth (frameA Try.f5 [.int .i64 n0, .int .i64 r0, .int .i64 b0]) 2 = .int .i64 b0 := frameA_nth (Nat.le_of_ble_eq_true rfl)
    generalize frameA Try.f5 [.int .i64 n0, .int .i64 r0, .int .i64 b0] = e at hl h0 h1 h2
    have hca10 : ∀ h, callA (callT ov Try.prog) Try.prog h 10 [] = some (.ret (.bool true) h) := fun h => (callA_of (fn := Try.f10) (by kernel_rfl) rfl).trans (callT_ov _ _ (O.o10 h))
    have hca11 : ∀ args h, callA (callT ov Try.prog) Try.prog h 11 args = callT ov Try.prog 11 args h := fun args h => callA_of (fn := Try.f11) (by kernel_rfl) rfl
    have hca14 : ∀ args h, callA (callT ov Try.prog) Try.prog h 14 args = callT ov Try.prog 14 args h := fun args h => callA_of (fn := Try.f14) (by kernel_rfl) rfl
    repeat apply WP.seq
    apply WP.region; simp [hl]
    repeat apply WP.seq
    apply WP.region; simp [hl, hca10]
    repeat apply WP.seq
    apply WP.cond (t := false) (by simp [hl]) (by simp)
    intro _
    apply WP.skip; simp
    repeat apply WP.seq
    by_cases hin : 1 ≤ n0 ∧ n0 ≤ 40 ∧ 0 ≤ r0 ∧ r0 ≤ 20
    rotate_left
    · apply WP.region
      by_cases c1 : n0 < 1
      · simp [hl, h0, h1, guardA, c1]
        repeat apply WP.seq
        apply WP.cond (t := true) (by simp [hl]) ?_ (by simp)
        intro _
        repeat apply WP.seq
        apply WP.region; simp [hl]
        apply WP.ret
        simp [hl, resultsA, resultA, single]
      · by_cases c2 : 40 < n0
        · simp [hl, h0, h1, guardA, c1, c2]
          repeat apply WP.seq
          apply WP.cond (t := true) (by simp [hl]) ?_ (by simp)
          intro _
          repeat apply WP.seq
          apply WP.region; simp [hl]
          apply WP.ret
          simp [hl, resultsA, resultA, single]
        · by_cases c3 : r0 < 0
          · simp [hl, h0, h1, guardA, c1, c2, c3]
            repeat apply WP.seq
            apply WP.cond (t := true) (by simp [hl]) ?_ (by simp)
            intro _
            repeat apply WP.seq
            apply WP.region; simp [hl]
            apply WP.ret
            simp [hl, resultsA, resultA, single]
          · have c4 : 20 < r0 := by omega
            simp [hl, h0, h1, guardA, c1, c2, c3, c4]
            repeat apply WP.seq
            apply WP.cond (t := true) (by simp [hl]) ?_ (by simp)
            intro _
            repeat apply WP.seq
            apply WP.region; simp [hl]
            apply WP.ret
            simp [hl, resultsA, resultA, single]
    · obtain ⟨n, rfl⟩ := Int.eq_ofNat_of_zero_le (show 0 ≤ n0 by omega)
      obtain ⟨r, rfl⟩ := Int.eq_ofNat_of_zero_le (show 0 ≤ r0 by omega)
      have c1 : ¬ (n : Int) < 1 := by omega
      have c2 : ¬ 40 < (n : Int) := by omega
      have c3 : ¬ (r : Int) < 0 := by omega
      have c4 : ¬ 20 < (r : Int) := by omega
      have hn1 : 1 ≤ n ∧ n ≤ 40 ∧ r ≤ 20 := by omega
      have hnr : n * r ≤ 800 := Nat.le_trans (Nat.mul_le_mul hn1.2.1 hn1.2.2) (by omega)
      have hwr : IntKind.wrap .i64 ((n : Int) * r) = ((n * r : Nat) : Int) := by
        rw [← Int.natCast_mul, wrap_small (by omega) (by omega)]
      apply WP.region; simp [hl, h0, h1, guardA, c1, c2, c3, c4]
      repeat apply WP.seq
      apply WP.cond (t := false) (by simp [hl]) (by simp)
      intro _
      apply WP.skip; simp
      repeat apply WP.seq
      obtain ⟨C, g, pv, hnew, hgC, hpv, hidp, hCn, hk⟩ := new_ok O.o25 O.o11 hw (v := .slice none 0 (.exact 0)) (xs := []) ⟨rfl, rfl⟩ (by simp) b0
      have hC : Ch g C [] (max b0 1) [] (-1) := ⟨_, _, hgC, hpv, ⟨rfl, rfl⟩, fun hi => (hidp _ hi).2 rfl, by simp [idOf]⟩
      apply WP.region; simp [hl, h2, hca11, hnew]
      repeat apply WP.seq
      apply WP.region; simp [hl, bin_ptnil u25]
      repeat apply WP.seq
      apply WP.cond (t := false) (by simp [hl]) (by simp)
      intro _
      apply WP.skip; simp
      repeat apply WP.seq
      have hmk : makeSliceA Try.prog g 31 (.int .i64 (n : Nat)) (.int .i64 (n : Nat)) = _ := make31 (by omega)
      have hk2 : Keep [] g (g.alloc (.cells (List.replicate n (.bool false)) .own)) := (Keep.refl hk.wf).alloc _
      have hg2 : (g.alloc (.cells (List.replicate n (.bool false)) .own)).get g.next = some (.cells (List.replicate n (.bool false)) .own) := Heap.get_alloc _ _
      have hCg : C < g.next := hk.wf _ _ hgC
      have hn2 : (g.alloc (.cells (List.replicate n (.bool false)) .own)).next = g.next + 1 := rfl
      generalize g.alloc (.cells (List.replicate n (.bool false)) .own) = g2 at hk2 hg2 hmk hn2
      have hown : Own g2 (.slice (some ⟨g.next, 0⟩) n (.exact n)) g.next (bools (List.replicate 0 true ++ List.replicate (n - 0) false)) :=
        ⟨.exact n, ⟨by simp, by simp [capOk]⟩, by simpa [bools] using hg2⟩
      have hAC : g.next ≠ C := by omega
      have hA2 : g.next < g2.next := by omega
      generalize g.next = A at hown hmk hAC hA2
      have hlenr : ∀ g, lenA Try.prog g 31 (.slice (some ⟨A, 0⟩) n (.exact n)) = some (.int .i64 (n : Nat)) := fun g => lenA_slice u31
      generalize hrs : AV.slice (some ⟨A, 0⟩) n (.exact n) = rs at hown hmk hlenr
      have hC2 : Ch g2 C [] (max b0 1) [] (-1) := by
        obtain ⟨p, a, hc⟩ := hC
        exact ⟨p, a, hc.keep hk2 (by simp) (by simp) (by simp)⟩
      have hwf2 := hk2.wf
      clear hk hk2 hC hgC hpv hidp hnew hg2 hn2 hCn hCg
      apply WP.region; simp [hl, h0, hmk]
      repeat apply WP.seq
      apply WP.region; simp [hl, hlenr]
      repeat apply WP.seq
      apply WP.block
      refine WP.loop (fun k e g => e.length = 68 ∧ nth e 0 = .int .i64 n ∧ nth e 1 = .int .i64 r ∧ nth e 7 = .ptr (some ⟨C, 0⟩) ∧ nth e 8 = rs ∧ nth e 36 = .int .i64 n ∧ Wf g ∧ Ch g C [] (max b0 1) [] (-1) ∧ ∃ i, i ≤ n ∧ k = n - i ∧ nth e 37 = .int .i64 (i : Nat) ∧ Own g rs A (bools (List.replicate i true ++ List.replicate (n - i) false))) ?_ n _ _ ?_
      · rintro k e g ⟨hl, h0, h1, h7, h8, h36, hwf, hC, i, hi, rfl, h37, hown⟩
        repeat apply WP.seq
        apply WP.region; simp [hl, h36, h37]
        repeat apply WP.seq
        apply WP.cond (by simp [hl]; rfl)
        · intro hlt1
          have hlt1 : i < n := by simpa using hlt1
          apply WP.skip; simp
          repeat apply WP.seq
          apply WP.block
          repeat apply WP.seq
          have hle : i < (bools (List.replicate i true ++ List.replicate (n - i) false)).length := by simp; omega
          have haddr := hown.addr (P := Try.prog) u31 s4 hle (k := .i64)
          obtain ⟨hst, hown'⟩ := hown.store (P := Try.prog) s4 hle (x := .bool true) rfl rfl
          rw [bools_set, fill_set hlt1] at hst hown'
          have hAg : A < g.next := hwf _ _ hown.choose_spec.2
          have hk' : Keep [A] g (g.set A (.cells (bools (List.replicate (i + 1) true ++ List.replicate (n - (i + 1)) false)) .own)) := (Keep.refl hwf).set _ hAg (.inl (by simp))
          have hC' : Ch (g.set A (.cells (bools (List.replicate (i + 1) true ++ List.replicate (n - (i + 1)) false)) .own)) C [] (max b0 1) [] (-1) := by
            obtain ⟨p, a, hc⟩ := hC
            exact ⟨p, a, hk'.get _ _ hc.1 (by simp; omega), hc.2.1.keep' hk' (by simp [ints]), hc.2.2.1.keep' hk' (by simp [ints]), hc.2.2.2⟩
          have hwf' := hk'.wf
          apply WP.region; simp [hl, h37]
          repeat apply WP.seq
          apply WP.region; simp [hl, h8, haddr, storeR_ptr hst]
          apply WP.region; simp [hl, h37, int_wrap (show i < 9223372036854775807 by omega)]
          exact ⟨n - (i + 1), by omega, h0, h1, h7, h8, h36, hwf', hC', i + 1, by omega, rfl, by simp, hown'⟩
        · intro hge
          have hge : ¬ i < n := by simpa using hge
          have hi' : i = n := by omega
          subst hi'
          apply WP.exit
          simp
          rw [Nat.sub_self, List.replicate_zero, List.append_nil] at hown
          repeat apply WP.seq
          apply WP.region; simp [hl]
          repeat apply WP.seq
          apply WP.block
          generalize hy : i * r = y at hwr hnr
          refine WP.loop (fun k e g => e.length = 68 ∧ nth e 0 = .int .i64 i ∧ nth e 1 = .int .i64 r ∧ nth e 7 = .ptr (some ⟨C, 0⟩) ∧ nth e 8 = rs ∧ Wf g ∧ Own g rs A (bools (List.replicate i true)) ∧ ∃ x q m ages, m < i ∧ x = i * q + m ∧ x ≤ y ∧ k = y - x ∧ nth e 10 = .int .i64 (x : Int) ∧ agesFor ages i = turnAges i q m ∧ (∀ a ∈ ages, 0 ≤ a ∧ a < 4611686018427387904) ∧ Ch g C [] (max b0 1) ages (turnLast i q m)) ?_ y _ _ ?_
          · rintro k e g ⟨hl, h0, h1, h7, h8, hwf, hown, x, q, m, ages, hm, hx, hxy, rfl, h10, hag, haok, hC⟩
            repeat apply WP.seq
            apply WP.region; simp [hl, h0, h1, h10, hwr]
            repeat apply WP.seq
            apply WP.cond (by simp [hl]; rfl)
            · intro hlt1
              have hlt1 : x < y := by simpa using hlt1
              apply WP.skip; simp
              repeat apply WP.seq
              apply WP.block
              repeat apply WP.seq
              obtain ⟨v', g', B, hap, hown', hB, hk'⟩ := hown.sl.clone (P := Try.prog) hwf u31 s4 (fun _ => room4 (by simp; omega)) bools_ok
              have hC' : Ch g' C [] (max b0 1) ages (turnLast i q m) := by
                obtain ⟨p, a, hc⟩ := hC
                exact ⟨p, a, hc.keep hk' (by simp) (by simp) (by simp)⟩
              have hCg : C < g.next := by obtain ⟨p, a, hc⟩ := hC; exact hwf _ _ hc.1
              have hvC : idOf v' ≠ some C := by rw [hown'.id]; simp; omega
              obtain ⟨g'', hcall, hC'', hk''⟩ := next_ok O.o14 O.o27 O.o28 O.o29 O.o30 hk'.wf hC' hown'.sl hvC (by simp; omega) haok
              obtain ⟨q', m', hm', hqm, hN⟩ := turn_next hm hag (bound := max b0 1)
              rw [hN] at hcall hC''
              simp only at hcall hC''
              have hmx : max (m : Int) 0 = m := by omega
              have hm0 : (0 : Int) ≤ m := by omega
              rw [hmx] at hcall
              simp only [hm0, decide_true] at hcall
              have hown2 := (hown.keep hk' (by simp)).keep hk'' (by simp; omega)
              have hmod : (x : Int).tmod i = m := by
                rw [hx, ← Int.ofNat_tmod, Nat.mul_add_mod, Nat.mod_eq_of_lt hm]
              have hi0 : (i : Int) ≠ 0 := by omega
              apply WP.region; simp [hl, h7, h8, build31, hap, hca14, hcall, extractA]
              repeat apply WP.seq
              apply WP.region; simp [hl, h0, h10, guardA, bin_rem hi0, hmod]
              repeat apply WP.seq
              apply WP.cond (t := false) (by simp [hl]) (by simp)
              intro _
              apply WP.skip; simp
              apply WP.region; simp [hl, h10, int_wrap (show x < 9223372036854775807 by omega)]
              refine ⟨y - (x + 1), by omega, h0, h1, h7, h8, hk''.wf, hown2, x + 1, q', m', hm', by omega, by omega, rfl, by simp, turnAges i q' m', agesFor_self (turnAges_length _ _ _), turnAges_ok hm' hn1.2.1, hC''⟩
            · intro hge
              apply WP.exit
              simp
              repeat apply WP.seq
              apply WP.region; simp [hl]
              apply WP.ret
              simp [hl, resultsA, resultA, single]
          · refine ⟨by simp [hl], by simp [h0], by simp [h1], by simp [h7], by simp [h8], hwf, hown, 0, 0, 0, [], by omega, by omega, by omega, by omega, by simp [hl], turnAges_zero i, by simp, ?_⟩
            simpa [turnLast] using hC
      · refine ⟨by simp [hl], by simp [h0], by simp [h1], by simp [hl], by simp [hl], by simp [hl], hwf2, hC2, 0, by omega, by omega, by simp [hl], hown⟩
  obtain ⟨_, h', h1, rfl⟩ := main
  exact ⟨h', h1⟩
end
end Go.Am

set_option linter.unusedSimpArgs false
namespace Go.Am
open Go.RowKit Go.Proofs

section
variable {ov : CallF}

theorem left_ok (o15 : ∀ a h, ov 15 a h = none) {h : Heap} {C : Nat} {picks ages : List Int} {bound last : Int} (hC : Ch h C picks bound ages last) :
    callT ov Try.prog 15 [.ptr (some ⟨C, 0⟩)] h = some (.ret (.int .i64 (picks.length : Nat)) h) := by
  have main : ∃ u g, callT ov Try.prog 15 [.ptr (some ⟨C, 0⟩)] h = some (.ret u g) ∧ u = .int .i64 (picks.length : Nat) ∧ g = h := by
    obtain ⟨pv, av, hg, hp, _⟩ := hC
    refine callT_wp (fn := Try.f15) (o15 _ _) (by kernel_rfl) rfl ?_
    have hl : (frameA Try.f15 [.ptr (some ⟨C, 0⟩)]).length = 8 := frameA_length (Nat.le_of_ble_eq_true rfl)
    have h0 : nth (frameA Try.f15 [.ptr (some ⟨C, 0⟩)]) 0 = .ptr (some ⟨C, 0⟩) := frameA_nth (Nat.le_of_ble_eq_true rfl)
    generalize frameA Try.f15 [.ptr (some ⟨C, 0⟩)] = e at hl h0
    have hlC0 : loadA Try.prog h 22 ⟨C, 0⟩ = some pv := load_cell a22 hg rfl
    apply WP.seq; apply WP.region; simp [hl]
    apply WP.seq; apply WP.region; simp [hl, h0, fa62, hlC0, hp.len u22]
    apply WP.ret
    simp [hl, resultsA, resultA, single]
  obtain ⟨_, _, h1, rfl, rfl⟩ := main
  exact h1

theorem place_ok (o16 : ∀ a h, ov 16 a h = none) {h : Heap} (p : Int) {n : Nat} (hn : 0 < n) (hn' : n ≤ 1000000000) :
    callT ov Try.prog 16 [.int .i64 p, .int .i64 n] h = some (.ret (.int .i64 (pickAt p n)) h) := by
  have main : ∃ u g, callT ov Try.prog 16 [.int .i64 p, .int .i64 n] h = some (.ret u g) ∧ u = .int .i64 (pickAt p n) ∧ g = h := by
    refine callT_wp (fn := Try.f16) (o16 _ _) (by kernel_rfl) rfl ?_
    have hl : (frameA Try.f16 [.int .i64 p, .int .i64 n]).length = 14 := frameA_length (Nat.le_of_ble_eq_true rfl)
    have h0 : nth (frameA Try.f16 [.int .i64 p, .int .i64 n]) 0 = .int .i64 p := frameA_nth (Nat.le_of_ble_eq_true rfl)
    have h1 : nth (frameA Try.f16 [.int .i64 p, .int .i64 n]) 1 = .int .i64 n := frameA_nth (Nat.le_of_ble_eq_true rfl)
    generalize frameA Try.f16 [.int .i64 p, .int .i64 n] = e at hl h0 h1
    have hne0 : ((n : Nat) : Int) ≠ 0 := by omega
    have hr := pickAt_range p hn
    apply WP.seq; apply WP.region; simp [hl]
    repeat apply WP.seq
    apply WP.region; simp [hl, h0, h1, bin_rem hne0]
    repeat apply WP.seq
    apply WP.region; simp [hl]
    repeat apply WP.seq
    apply WP.cond (by simp [hl]; rfl)
    · intro hq
      have hq : p.tmod n < 0 := by simpa using hq
      have hpa : pickAt p n = p.tmod n + n := by simp only [pickAt, if_pos hq]
      apply WP.region; simp [hl, h1, wrap_small (show -9223372036854775808 ≤ p.tmod n + n by omega) (by omega)]
      repeat apply WP.seq
      apply WP.region; simp [hl]
      apply WP.ret
      simp [hl, resultsA, resultA, single, hpa]
    · intro hq
      have hq : ¬ p.tmod n < 0 := by simpa using hq
      have hpa : pickAt p n = p.tmod n := by simp only [pickAt, if_neg hq]
      apply WP.skip; simp
      repeat apply WP.seq
      apply WP.region; simp [hl]
      apply WP.ret
      simp [hl, resultsA, resultA, single, hpa]
  obtain ⟨_, _, h1, rfl, rfl⟩ := main
  exact h1
end

/-! ### Picks that choose alone -/
theorem newAges_ok {ready : List Bool} {chosen : Int} {a0 : List Int} {M : Int} (hM : 0 ≤ M) (h : ∀ i, 0 ≤ at0 a0 i ∧ at0 a0 i ≤ M) : ∀ a ∈ newAges ready chosen a0, 0 ≤ a ∧ a ≤ M + 1 := by
  intro a ha
  simp only [newAges, List.mem_map, List.mem_range] at ha
  obtain ⟨j, _, rfl⟩ := ha
  have := h j
  unfold aged
  split <;> omega
theorem at0_le {xs : List Int} {M : Int} (hM : 0 ≤ M) (h : ∀ a ∈ xs, 0 ≤ a ∧ a ≤ M) (i : Nat) : 0 ≤ at0 xs i ∧ at0 xs i ≤ M := by
  by_cases hi : i < xs.length
  · exact h _ (List.mem_of_getElem? (at0_get hi))
  · simp [at0, hi, hM]
theorem agesFor_le {ages : List Int} {M : Int} (hM : 0 ≤ M) (h : ∀ a ∈ ages, 0 ≤ a ∧ a ≤ M) (n : Nat) : ∀ a ∈ agesFor ages n, 0 ≤ a ∧ a ≤ M := by
  intro a ha
  simp only [agesFor, List.mem_append, List.mem_replicate] at ha
  rcases ha with ha | ⟨_, rfl⟩
  · exact h a (List.mem_of_mem_take ha)
  · omega
theorem agesOf_le {ages : List Int} {who : List Nat} {M : Int} (hM : 0 ≤ M) (h : ∀ a ∈ ages, 0 ≤ a ∧ a ≤ M) : ∀ a ∈ agesOf ages who, 0 ≤ a ∧ a ≤ M := by
  intro a ha
  simp only [agesOf, List.mem_map] at ha
  obtain ⟨j, _, rfl⟩ := ha
  exact at0_le hM h j

theorem picks_next {n : Nat} (hn : 0 < n) {p : Int} {ps ages : List Int} {bound last M : Int} (hM : 0 ≤ M) (hb : M < bound) (ha : ∀ a ∈ ages, 0 ≤ a ∧ a ≤ M) :
    ∃ ages', (∀ a ∈ ages', 0 ≤ a ∧ a ≤ M + 1) ∧ nextP (p :: ps) bound ages last (List.replicate n true) = ⟨pickAt p n, ps, ages', pickAt p n⟩ := by
  have hwho : whoFrom (List.replicate n true) 0 = List.range' 0 n := whoFrom_all n 0
  have hne : List.range' 0 n ≠ [] := by simp; omega
  have hlen : (List.replicate n true).length = n := by simp
  have hr := pickAt_range p hn
  have hch : chooseP (p :: ps) bound (agesFor ages n) last (List.range' 0 n) = (pickAt p n, ps) := by
    have := (at0_le hM (agesOf_le (who := List.range' 0 n) hM (agesFor_le hM ha n)) (best (agesOf (agesFor ages n) (List.range' 0 n)) (List.range' 0 n).length)).2
    simp only [chooseP]
    rw [if_neg (by omega), List.length_range']
  obtain ⟨m, hm⟩ := Int.eq_ofNat_of_zero_le hr.1
  rw [hm] at hch hr ⊢
  have hml : m < n := by omega
  have hget : (List.range' 0 n).getD m 0 = m := by simp [List.getD_eq_getElem?_getD, hml]
  refine ⟨newAges (List.replicate n true) m (agesFor ages n), newAges_ok hM (at0_le hM (agesFor_le hM ha n)), ?_⟩
  simp only [nextP, hwho, if_neg hne, hlen, hch, Int.toNat_natCast, hget]
end Go.Am

namespace Go.Am

theorem best_max (ws : List Int) : ∀ (k i : Nat), i < k → at0 ws i ≤ at0 ws (best ws k)
  | 0, i, h => by omega
  | k + 1, i, h => by
    simp only [best]
    by_cases hi : i = k
    · subst hi
      split
      · exact Int.le_refl _
      · omega
    · have := best_max ws k i (by omega)
      split
      · omega
      · exact this

/-- How many are at least x. -/
def cnt (ages : List Int) (x : Int) : Nat := ages.countP fun a => decide (x ≤ a)
theorem count_range_lt {p q : Nat → Bool} (hpq : ∀ i, p i = true → q i = true) : ∀ (L c : Nat), c < L → q c = true → p c = false → (List.range L).countP p + 1 ≤ (List.range L).countP q
  | 0, c, h, _, _ => by omega
  | L + 1, c, h, hq, hp => by
    rw [List.range_succ, List.countP_append, List.countP_append]
    simp only [List.countP_singleton]
    by_cases hc : c = L
    · subst hc
      have : (List.range c).countP p ≤ (List.range c).countP q := List.countP_mono_left (fun x _ hx => hpq x hx)
      rw [hq, hp]
      simp only [if_true, Bool.false_eq_true, if_false]
      omega
    · have := count_range_lt hpq L c (by omega) hq hp
      have h2 : (if p L = true then 1 else 0) ≤ (if q L = true then 1 else 0) := by
        by_cases h3 : p L = true
        · rw [if_pos h3, if_pos (hpq L h3)]; exact Nat.le_refl _
        · rw [if_neg h3]; omega
      omega
theorem count_range_le (p : Nat → Bool) (L : Nat) : (List.range L).countP p ≤ L := by
  have := List.countP_le_length (p := p) (l := List.range L)
  simpa using this

theorem cnt_new (ready : List Bool) (chosen : Int) (a0 : List Int) (x : Int) : cnt (newAges ready chosen a0) x = (List.range ready.length).countP fun i => decide (x ≤ aged ready chosen a0 i) := by
  simp only [cnt, newAges, List.countP_map]
  rfl
theorem cnt_range (a0 : List Int) (x : Int) : cnt a0 x = (List.range a0.length).countP fun i => decide (x ≤ at0 a0 i) := by
  have h : a0 = (List.range a0.length).map fun i => at0 a0 i := by
    apply List.ext_getElem?
    intro i
    by_cases hi : i < a0.length
    · simp [hi, at0]
    · simp [hi]
  unfold cnt
  conv => lhs; rw [h]
  rw [List.countP_map]
  rfl
theorem cnt_for {ages : List Int} {x : Int} (hx : 1 ≤ x) (n : Nat) : cnt (agesFor ages n) x ≤ cnt ages x := by
  unfold cnt agesFor
  rw [List.countP_append]
  have h1 : (List.replicate (n - ages.length) (0 : Int)).countP (fun a => decide (x ≤ a)) = 0 := by
    rw [List.countP_eq_zero]
    intro a ha
    simp only [List.mem_replicate] at ha
    simp; omega
  have h2 : (ages.take n).countP (fun a => decide (x ≤ a)) ≤ ages.countP (fun a => decide (x ≤ a)) := (List.take_sublist n ages).countP_le
  omega

theorem whoFrom_has : ∀ (l : List Bool) (i j : Nat), l[j]? = some true → i + j ∈ whoFrom l i
  | b :: l, i, 0, h => by
    have : b = true := by simpa using h
    subst this
    simp [whoFrom]
  | b :: l, i, j + 1, h => by
    have := whoFrom_has l (i + 1) j (by simpa using h)
    have h2 : i + (j + 1) = i + 1 + j := by omega
    rw [h2]
    cases b <;> simp [whoFrom, this]
  | [], i, j, h => by simp at h

/-- What is kept: at most n - 1 - j have an age of bound + j or more. -/
def Fair (n : Nat) (bound : Int) (ages : List Int) : Prop := ∀ j : Nat, cnt ages (bound + j) ≤ n - 1 - j
theorem Fair.nil (n : Nat) (bound : Int) : Fair n bound [] := fun j => by simp [cnt]
theorem Fair.lt {n : Nat} {bound : Int} {ages : List Int} (hf : Fair n bound ages) (hn : 1 ≤ n) (hb : 0 ≤ bound) (i : Nat) : at0 ages i < bound + n := by
  by_cases hi : i < ages.length
  · have h1 := hf (n - 1)
    have h2 : cnt ages (bound + (n - 1 : Nat)) = 0 := by omega
    unfold cnt at h2
    rw [List.countP_eq_zero] at h2
    have h3 := h2 _ (List.mem_of_getElem? (at0_get hi))
    simp at h3
    omega
  · simp [at0, hi]; omega

theorem next_spec (picks : List Int) (bound : Int) (ages : List Int) (last : Int) (ready : List Bool) :
    (whoFrom ready 0 = [] ∧ (nextP picks bound ages last ready).chosen = -1) ∨
    (∃ c : Nat, (nextP picks bound ages last ready).chosen = c ∧ c ∈ whoFrom ready 0 ∧ ∀ i ∈ whoFrom ready 0, bound ≤ at0 (agesFor ages ready.length) i → at0 (agesFor ages ready.length) i ≤ at0 (agesFor ages ready.length) c) := by
  by_cases hne : whoFrom ready 0 = []
  · left
    exact ⟨hne, by simp [nextP, hne]⟩
  · right
    have hr := chooseP_range (picks := picks) (bound := bound) (ages := agesFor ages ready.length) (last := last) hne
    refine ⟨(whoFrom ready 0).getD (chooseP picks bound (agesFor ages ready.length) last (whoFrom ready 0)).1.toNat 0, by simp only [nextP, if_neg hne], ?_, ?_⟩
    · generalize hc : (chooseP picks bound (agesFor ages ready.length) last (whoFrom ready 0)).1 = c at hr
      have hl : c.toNat < (whoFrom ready 0).length := by omega
      rw [List.getD_eq_getElem?_getD, List.getElem?_eq_getElem hl]
      exact List.getElem_mem hl
    · intro i hi hb
      obtain ⟨k, hk, rfl⟩ := List.mem_iff_getElem.1 hi
      have hkw : (whoFrom ready 0)[k]? = some (whoFrom ready 0)[k] := List.getElem?_eq_getElem hk
      have hmax := best_max (agesOf (agesFor ages ready.length) (whoFrom ready 0)) (whoFrom ready 0).length k hk
      rw [agesOf_get hkw] at hmax
      have hbl := best_lt (ws := agesOf (agesFor ages ready.length) (whoFrom ready 0)) (by rw [← List.length_pos_iff]; simpa [List.length_pos_iff] using hne) (whoFrom ready 0).length (by simp)
      simp only [agesOf_length] at hbl
      have hbw : (whoFrom ready 0)[best (agesOf (agesFor ages ready.length) (whoFrom ready 0)) (whoFrom ready 0).length]? = some _ := List.getElem?_eq_getElem hbl
      have hch : (chooseP picks bound (agesFor ages ready.length) last (whoFrom ready 0)).1 = (best (agesOf (agesFor ages ready.length) (whoFrom ready 0)) (whoFrom ready 0).length : Nat) := by
        unfold chooseP
        rw [if_pos (by omega)]
      rw [hch, Int.toNat_natCast, List.getD_eq_getElem?_getD, hbw]
      rw [agesOf_get hbw] at hmax
      exact hmax

theorem Fair.next {n : Nat} {bound : Int} (hb : 1 ≤ bound) {picks ages : List Int} {last : Int} {ready : List Bool} (hL : ready.length ≤ n) (hf : Fair n bound ages) : Fair n bound (nextP picks bound ages last ready).ages := by
  intro j
  rw [nextP_ages, cnt_new]
  rcases next_spec picks bound ages last ready with ⟨hne, hc⟩ | ⟨c, hc, hcm, hmax⟩
  · have : (List.range ready.length).countP (fun i => decide (bound + j ≤ aged ready (nextP picks bound ages last ready).chosen (agesFor ages ready.length) i)) = 0 := by
      rw [List.countP_eq_zero]
      intro i hi
      simp only [List.mem_range] at hi
      have hnr : ready.getD i false = false := by
        cases hg : ready.getD i false with
        | false => rfl
        | true =>
          have : ready[i]? = some true := by
            rw [List.getD_eq_getElem?_getD, List.getElem?_eq_getElem hi] at hg
            rw [List.getElem?_eq_getElem hi]
            simpa using hg
          have := whoFrom_has ready 0 i this
          rw [hne] at this
          cases this
      simp only [aged, hnr, decide_eq_true_eq, Bool.false_eq_true, false_and, if_false]
      omega
    rw [this]; omega
  · rw [hc]
    have hcw := whoFrom_mem ready 0 c hcm
    simp only [Nat.zero_add, Nat.sub_zero] at hcw
    have hpc : decide (bound + (j : Int) ≤ aged ready c (agesFor ages ready.length) c) = false := by
      simp only [aged, ne_eq, not_true, and_false, if_false, decide_eq_false_iff_not]; omega
    cases j with
    | zero =>
      have h1 := count_range_lt (p := fun i => decide (bound + ((0 : Nat) : Int) ≤ aged ready c (agesFor ages ready.length) i)) (q := fun _ => true) (fun _ _ => rfl) ready.length c hcw.2.1 rfl hpc
      have h2 := count_range_le (fun _ => true) ready.length
      omega
    | succ j =>
      by_cases hex : ∃ i, i < ready.length ∧ ready.getD i false = true ∧ bound + (j : Int) ≤ at0 (agesFor ages ready.length) i
      · obtain ⟨i, hi, hri, hai⟩ := hex
        have hiw : i ∈ whoFrom ready 0 := by
          have : ready[i]? = some true := by
            rw [List.getD_eq_getElem?_getD, List.getElem?_eq_getElem hi] at hri
            rw [List.getElem?_eq_getElem hi]
            simpa using hri
          simpa using whoFrom_has ready 0 i this
        have hge := hmax i hiw (by omega)
        have h1 := count_range_lt (p := fun i => decide (bound + ((j + 1 : Nat) : Int) ≤ aged ready c (agesFor ages ready.length) i)) (q := fun i => decide (bound + (j : Int) ≤ at0 (agesFor ages ready.length) i)) (by
          intro k hk
          have hk := of_decide_eq_true hk
          apply decide_eq_true
          unfold aged at hk
          split at hk <;> omega) ready.length c hcw.2.1 (by simp only [decide_eq_true_eq]; omega) hpc
        have h2 := cnt_range (agesFor ages ready.length) (bound + (j : Int))
        rw [agesFor_length] at h2
        have h3 := cnt_for (ages := ages) (x := bound + (j : Int)) (by omega) ready.length
        have h4 := hf j
        omega
      · have : (List.range ready.length).countP (fun i => decide (bound + ((j + 1 : Nat) : Int) ≤ aged ready c (agesFor ages ready.length) i)) = 0 := by
          rw [List.countP_eq_zero]
          intro i hi
          simp only [List.mem_range] at hi
          intro hh
          have hh := of_decide_eq_true hh
          unfold aged at hh
          split at hh
          · rename_i hr
            exact hex ⟨i, hi, hr.1, by omega⟩
          · omega
        rw [this]; omega

def waitsOf (ages : List Int) (n : Nat) : List Int := (List.range n).map fun j => at0 ages j
def mixW (a b : List Int) (k n : Nat) : List Int := (List.range n).map fun j => if j < k then at0 b j else at0 a j
theorem mixW_zero (a b : List Int) (n : Nat) : mixW a b 0 n = waitsOf a n := by simp [mixW, waitsOf]
theorem mixW_all (a b : List Int) (n : Nat) : mixW a b n n = waitsOf b n := by
  apply List.map_congr_left
  intro i hi
  simp only [List.mem_range] at hi
  simp [hi]
theorem mixW_length (a b : List Int) (k n : Nat) : (mixW a b k n).length = n := by simp [mixW]
theorem mixW_at (a b : List Int) {k n : Nat} (h : k < n) : (mixW a b k n)[k]? = some (at0 a k) := by simp [mixW, h]
theorem mixW_set (a b : List Int) {k n : Nat} (h : k < n) : (mixW a b k n).set k (at0 b k) = mixW a b (k + 1) n := by
  apply List.ext_getElem?
  intro i
  rw [List.getElem?_set]
  by_cases hi : i < n
  · by_cases hk : k = i
    · subst hk; simp [mixW, h]
    · have : (i < k) = (i < k + 1) := by apply propext; omega
      simp [mixW, hi, hk, this]
  · have hk : k ≠ i := by omega
    simp [mixW, hi, hk]
theorem newAges_at (ready : List Bool) (chosen : Int) (ages : List Int) (i : Nat) : at0 (newAges ready chosen (agesFor ages ready.length)) i = if ready.getD i false = true ∧ (i : Int) ≠ chosen then at0 ages i + 1 else 0 := by
  by_cases hi : i < ready.length
  · have h1 : at0 (newAges ready chosen (agesFor ages ready.length)) i = aged ready chosen (agesFor ages ready.length) i := by simp [newAges, at0, hi]
    have h2 : at0 (agesFor ages ready.length) i = at0 ages i := by
      simp only [at0, agesFor, List.getD_eq_getElem?_getD]
      by_cases hl : i < ages.length
      · rw [List.getElem?_append_left (by simp; omega), List.getElem?_take_of_lt hi]
      · rw [List.getElem?_append_right (by simp; omega), List.getElem?_replicate]
        rw [List.getElem?_eq_none (l := ages) (by omega)]
        split <;> rfl
    rw [h1, aged, h2]
  · have h1 : (newAges ready chosen (agesFor ages ready.length))[i]? = none := by simp [newAges, hi]
    have h2 : ready[i]? = none := by simp [hi]
    simp [at0, h1, h2]
theorem waits_nil (n : Nat) : waitsOf [] n = List.replicate n 0 := by
  apply List.ext_getElem?
  intro i
  by_cases hi : i < n <;> simp [waitsOf, at0, hi]
def anyTo (r : List Bool) : Nat → Bool
  | 0 => false
  | k + 1 => anyTo r k || r.getD k false
theorem anyTo_iff (r : List Bool) : ∀ k, anyTo r k = true ↔ ∃ j, j < k ∧ r.getD j false = true
  | 0 => by simp [anyTo]
  | k + 1 => by
    simp only [anyTo, Bool.or_eq_true, anyTo_iff r k]
    constructor
    · rintro (⟨j, h1, h2⟩ | h)
      · exact ⟨j, by omega, h2⟩
      · exact ⟨k, by omega, h⟩
    · rintro ⟨j, h1, h2⟩
      by_cases hj : j = k
      · subst hj; exact .inr h2
      · exact .inl ⟨j, by omega, h2⟩
theorem getD_true {r : List Bool} {j : Nat} (h : r.getD j false = true) : r[j]? = some true := by
  rw [List.getD_eq_getElem?_getD] at h
  cases hg : r[j]? with
  | none => simp [hg] at h
  | some b => simp [hg] at h; rw [h]
theorem anyTo_none {r : List Bool} {n : Nat} (h : whoFrom r 0 = []) : anyTo r n = false := by
  cases ha : anyTo r n with
  | false => rfl
  | true =>
    obtain ⟨j, _, h2⟩ := (anyTo_iff r n).1 ha
    have := whoFrom_has r 0 j (getD_true h2)
    rw [h] at this; cases this
theorem anyTo_some {r : List Bool} {n c : Nat} (hn : r.length ≤ n) (h : c ∈ whoFrom r 0) : anyTo r n = true := by
  have := whoFrom_mem r 0 c h
  simp only [Nat.zero_add, Nat.sub_zero] at this
  refine (anyTo_iff r n).2 ⟨c, by omega, ?_⟩
  rw [List.getD_eq_getElem?_getD, this.2.2]; rfl
end Go.Am

namespace Go.Am

def oldStep (ages : List Int) (o : Int) (a : Nat) : Int := if o < 0 ∨ at0 ages o.toNat < at0 ages a then (a : Int) else o
def oldF (ages : List Int) (who : List Nat) : Int := who.foldl (oldStep ages) (-1)
theorem oldF_snoc (ages : List Int) (who : List Nat) (a : Nat) : oldF ages (who ++ [a]) = oldStep ages (oldF ages who) a := by simp [oldF]
theorem at0_left {xs ys : List Int} {i : Nat} (h : i < xs.length) : at0 (xs ++ ys) i = at0 xs i := by simp [at0, List.getD_eq_getElem?_getD, List.getElem?_append_left h]
theorem at0_last (xs : List Int) (x : Int) : at0 (xs ++ [x]) xs.length = x := by simp [at0, List.getD_eq_getElem?_getD]
theorem best_append (xs ys : List Int) : ∀ k, k ≤ xs.length → best (xs ++ ys) k = best xs k
  | 0, _ => rfl
  | k + 1, hk => by
    have h1 := best_append xs ys k (by omega)
    have hb : ∀ i, i < xs.length → at0 (xs ++ ys) i = at0 xs i := by
      intro i hi
      simp [at0, List.getD_eq_getElem?_getD, List.getElem?_append_left hi]
    have hbl : best xs k < xs.length := by
      have : ∀ k, best xs k ≤ k := by
        intro k
        induction k with
        | zero => simp [best]
        | succ k ih => simp only [best]; split <;> omega
      have := this k
      omega
    simp only [best, h1, hb _ hbl, hb k (by omega)]
theorem oldF_best (ages : List Int) : ∀ (n : Nat) (who : List Nat), who.length = n → who ≠ [] → oldF ages who = (who.getD (best (agesOf ages who) who.length) 0 : Nat)
  | 0, who, hn, hne => absurd (List.length_eq_zero_iff.1 hn) hne
  | n + 1, who, hn, hne => by
    obtain ⟨l, a, rfl⟩ : ∃ l a, who = l ++ [a] := ⟨who.dropLast, who.getLast hne, (List.dropLast_concat_getLast hne).symm⟩
    rw [oldF_snoc]
    have hl : l.length = n := by simpa using hn
    have hag : agesOf ages (l ++ [a]) = agesOf ages l ++ [at0 ages a] := by simp [agesOf]
    by_cases he : l = []
    · subst he
      simp [oldF, oldStep, best]
    · have ih := oldF_best ages n l hl he
      have hpos := List.length_pos_iff.2 he
      have hbl := best_lt (ws := agesOf ages l) (by rw [← List.length_pos_iff]; simpa using hpos) l.length (by simp)
      simp only [agesOf_length] at hbl
      have hgl : l[best (agesOf ages l) l.length]? = some l[best (agesOf ages l) l.length] := List.getElem?_eq_getElem hbl
      have hgd : l.getD (best (agesOf ages l) l.length) 0 = l[best (agesOf ages l) l.length] := by simp [List.getD_eq_getElem?_getD, hgl]
      rw [ih, hgd]
      have hb2 : best (agesOf ages l ++ [at0 ages a]) l.length = best (agesOf ages l) l.length := best_append _ _ _ (by simp)
      have h1 : at0 (agesOf ages l ++ [at0 ages a]) (best (agesOf ages l) l.length) = at0 ages l[best (agesOf ages l) l.length] := by
        rw [at0_left (by simpa using hbl), agesOf_get hgl]
      have h2 : at0 (agesOf ages l ++ [at0 ages a]) l.length = at0 ages a := by
        have := at0_last (agesOf ages l) (at0 ages a)
        rwa [agesOf_length] at this
      rw [hag, List.length_append, List.length_singleton]
      simp only [best, hb2, h1, h2, oldStep, Int.toNat_natCast]
      have h0 : ¬ ((l[best (agesOf ages l) l.length] : Nat) : Int) < 0 := by omega
      by_cases hlt : at0 ages l[best (agesOf ages l) l.length] < at0 ages a
      · rw [if_pos (.inr hlt), if_pos hlt]
        simp
      · rw [if_neg (by rintro (h | h) <;> contradiction), if_neg hlt, List.getD_eq_getElem?_getD, List.getElem?_append_left hbl, hgl]
        rfl

/-- The last that was chosen. -/
def lastOf (cs : List (AV × List Bool × Int)) : Int := cs.foldl (fun l x => if 0 ≤ x.2.2 then x.2.2 else l) (-1)
theorem lastOf_take {cs : List (AV × List Bool × Int)} {k : Nat} {x : AV × List Bool × Int} (h : cs[k]? = some x) : lastOf (cs.take (k + 1)) = if 0 ≤ x.2.2 then x.2.2 else lastOf (cs.take k) := by
  rw [List.take_add_one, h]
  simp [lastOf]

/-- Looked for from behind: the first above the last, else the first of all. -/
def scan (last : Int) (who : List Nat) (k : Nat) : Nat := who.getD (max 0 (firstGt last (who.drop k) k)).toNat 0
theorem scan_all (last : Int) (who : List Nat) : scan last who who.length = who.getD 0 0 := by
  unfold scan
  rw [List.drop_length]
  rfl
theorem scan_step {last : Int} {who : List Nat} {k a : Nat} (h : who[k]? = some a) : scan last who k = if last < (a : Int) then a else scan last who (k + 1) := by
  have hk := (List.getElem?_eq_some_iff.1 h).1
  have hd : who.drop k = a :: who.drop (k + 1) := by
    rw [List.drop_eq_getElem_cons hk]
    congr 1
    exact (List.getElem?_eq_some_iff.1 h).2
  unfold scan
  rw [hd]
  simp only [firstGt]
  split
  · have : max 0 (k : Int) = k := by omega
    rw [this]
    simp [List.getD_eq_getElem?_getD, h]
  · rfl
end Go.Am

namespace Go.Am

theorem agesFor_at (ages : List Int) {n i : Nat} (hi : i < n) : at0 (agesFor ages n) i = at0 ages i := by
  simp only [at0, agesFor, List.getD_eq_getElem?_getD]
  by_cases hl : i < ages.length
  · rw [List.getElem?_append_left (by simp; omega), List.getElem?_take_of_lt hi]
  · rw [List.getElem?_append_right (by simp; omega), List.getElem?_replicate]
    rw [List.getElem?_eq_none (l := ages) (by omega)]
    split <;> rfl
theorem agesOf_for (ages : List Int) (ready : List Bool) : agesOf (agesFor ages ready.length) (whoFrom ready 0) = agesOf ages (whoFrom ready 0) := by
  apply List.map_congr_left
  intro a ha
  have := whoFrom_mem ready 0 a ha
  exact agesFor_at ages (by omega)

theorem next_cases {picks : List Int} {b : Int} {ages : List Int} {last : Int} {ready : List Bool} (hne : whoFrom ready 0 ≠ []) :
    (b ≤ at0 ages (oldF ages (whoFrom ready 0)).toNat ∧ (nextP picks b ages last ready).chosen = oldF ages (whoFrom ready 0) ∧ (nextP picks b ages last ready).picks = picks) ∨
    (¬ b ≤ at0 ages (oldF ages (whoFrom ready 0)).toNat ∧ ((∃ p ps, picks = p :: ps ∧ (nextP picks b ages last ready).chosen = ((whoFrom ready 0).getD (pickAt p (whoFrom ready 0).length).toNat 0 : Nat) ∧ (nextP picks b ages last ready).picks = ps) ∨
      (picks = [] ∧ (nextP picks b ages last ready).chosen = (scan last (whoFrom ready 0) 0 : Nat) ∧ (nextP picks b ages last ready).picks = []))) := by
  have hob := oldF_best ages _ _ rfl hne
  have hbl := best_lt (ws := agesOf ages (whoFrom ready 0)) (by rw [← List.length_pos_iff]; simpa [List.length_pos_iff] using hne) (whoFrom ready 0).length (by simp)
  simp only [agesOf_length] at hbl
  have hgl : (whoFrom ready 0)[best (agesOf ages (whoFrom ready 0)) (whoFrom ready 0).length]? = some _ := List.getElem?_eq_getElem hbl
  have hgd : (whoFrom ready 0).getD (best (agesOf ages (whoFrom ready 0)) (whoFrom ready 0).length) 0 = (whoFrom ready 0)[best (agesOf ages (whoFrom ready 0)) (whoFrom ready 0).length] := by simp [List.getD_eq_getElem?_getD, hgl]
  have hat := agesOf_get (ages := ages) hgl
  simp only [nextP, if_neg hne, chooseP, agesOf_for]
  rw [hob, Int.toNat_natCast, hgd, ← hat]
  by_cases hc : b ≤ at0 (agesOf ages (whoFrom ready 0)) (best (agesOf ages (whoFrom ready 0)) (whoFrom ready 0).length)
  · left
    refine ⟨hc, ?_, ?_⟩
    · simp only [if_pos hc, Int.toNat_natCast, hgd]
    · simp only [if_pos hc]
  · right
    refine ⟨hc, ?_⟩
    simp only [if_neg hc]
    cases picks with
    | cons p ps => left; exact ⟨p, ps, rfl, rfl, rfl⟩
    | nil => right; exact ⟨rfl, by simp [scan], rfl⟩
theorem next_none {picks : List Int} {b : Int} {ages : List Int} {last : Int} {ready : List Bool} (hne : whoFrom ready 0 = []) : (nextP picks b ages last ready).chosen = -1 ∧ (nextP picks b ages last ready).picks = picks := by
  simp [nextP, hne]
end Go.Am

namespace Go.Am
open Go.RowKit Go.Proofs
theorem build27 {h : Heap} : buildSliceA Try.prog h 27 0 [] = some (.slice (some ⟨h.next, 0⟩) 0 (.exact 0), h.alloc (.cells [] .own)) := by kernel_rfl
theorem build27_1 {h : Heap} {l : Option Loc} {n : Nat} {c : Cap} {k : IntKind} {x : Int} : buildSliceA Try.prog h 27 1 [(0, .agg [.slice l n c, .int k x])] = some (.slice (some ⟨h.next, 0⟩) 1 (.exact 1), h.alloc (.cells [.slice l n c, .int k x] .own)) := by kernel_rfl
theorem room65 {n : Nat} (hn : n ≤ 1000000000) : roomA Try.prog 65 n = true := room_of i65 (b := 32) (by kernel_rfl) (by omega) (by omega) (z := .agg #[.slice none 0 0, .int .i64 0]) (by kernel_rfl) (by kernel_rfl) (by kernel_rfl)
theorem sl_cellOk {h : Heap} {v : AV} {xs : List AV} (hs : Sl h v xs) : cellOk v = true := by
  obtain ⟨l, c, rfl⟩ := hs.slice; rfl
theorem rowsOf_ok {h : Heap} : ∀ {cs : List (AV × List Bool × Int)}, (∀ x ∈ cs, Sl h x.1 (bools x.2.1)) → cellsOk (rowsOf cs).flatten = true
  | [], _ => rfl
  | x :: cs, hx => by
    have h1 := sl_cellOk (hx x List.mem_cons_self)
    have h2 := rowsOf_ok (cs := cs) (fun y hy => hx y (List.mem_cons_of_mem _ hy))
    simp only [rowsOf, List.map_cons, List.flatten_cons, List.cons_append, List.nil_append, cellsOk, h1, Bool.true_and]
    exact h2
end Go.Am

set_option linter.unusedSimpArgs false
namespace Go.Am
open Go.RowKit Go.Proofs

attribute [simp] trace_nil trace_cons trace_guard tstep_ret tstep_none tguard_true tguard_false tcons_some TW_some sameV_load' pairsOk beqV_refl

theorem CallsAt.keep {h0 h : Heap} (hk : Keep [] h0 h) {cv : AV} {cs : List (AV × List Bool × Int)} (hc : CallsAt h0 cv cs) : CallsAt h cv cs := ⟨hc.1.keep' hk (by simp), fun x hx => (hc.2 x hx).keep hk (by simp)⟩

section
variable {ov : CallF}

set_option maxHeartbeats 4000000 in
theorem refNext_ok (o13 : ∀ a h, ov 13 a h = none) (o26 : ∀ a h, ov 26 a h = none) {h : Heap} (hw : Wf h) {pv : AV} {picks : List Int} (hp : Sl h pv (ints picks)) {b : Int} {cv : AV} {cs : List (AV × List Bool × Int)} (hc : CallsAt h cv cs) (hn : cs.length ≤ 100000000)
    {rv : AV} {ready : List Bool} (hr : Sl h rv (bools ready)) (hrn : ready.length ≤ 1000000000) {ages : List Int} {last : Int} (hA : ∀ i, at0 ages i = (ageR (hist cs) i : Int)) (hlast : last = lastOf cs) :
    ∃ h' pv' cv' rv', callT ov Try.prog 13 [.agg [pv, .int .i64 b, cv], rv] h = some (.ret (.tuple [.agg [pv', .int .i64 b, cv'], .int .i64 (nextP picks b ages last ready).chosen]) h') ∧ Keep [] h h' ∧ Sl h' pv' (ints (nextP picks b ages last ready).picks) ∧
      CallsAt h' cv' (cs ++ [(rv', ready, (nextP picks b ages last ready).chosen)]) ∧ (∀ j, idOf pv' = some j → idOf pv = some j) ∧ (∀ j, idOf cv' = some j → h.next ≤ j) ∧ (∀ j, idOf rv' = some j → h.next ≤ j) := by
  have main : ∃ u h', callT ov Try.prog 13 [.agg [pv, .int .i64 b, cv], rv] h = some (.ret u h') ∧ ∃ pv' cv' rv', u = .tuple [.agg [pv', .int .i64 b, cv'], .int .i64 (nextP picks b ages last ready).chosen] ∧ Keep [] h h' ∧ Sl h' pv' (ints (nextP picks b ages last ready).picks) ∧
      CallsAt h' cv' (cs ++ [(rv', ready, (nextP picks b ages last ready).chosen)]) ∧ (∀ j, idOf pv' = some j → idOf pv = some j) ∧ (∀ j, idOf cv' = some j → h.next ≤ j) ∧ (∀ j, idOf rv' = some j → h.next ≤ j) := by
    refine callT_wp (fn := Try.f13) (o13 _ _) (by kernel_rfl) rfl ?_
    have hl : (frameA Try.f13 [.agg [pv, .int .i64 b, cv], rv]).length = 140 := frameA_length (Nat.le_of_ble_eq_true rfl)
    have h0 : nth (frameA Try.f13 [.agg [pv, .int .i64 b, cv], rv]) 0 = .agg [pv, .int .i64 b, cv] := frameA_nth (Nat.le_of_ble_eq_true rfl)
    have h1 : nth (frameA Try.f13 [.agg [pv, .int .i64 b, cv], rv]) 1 = rv := frameA_nth (Nat.le_of_ble_eq_true rfl)
    generalize frameA Try.f13 [.agg [pv, .int .i64 b, cv], rv] = e at hl h0 h1
    have hca26 : ∀ args h, callA (callT ov Try.prog) Try.prog h 26 args = callT ov Try.prog 26 args h := fun args h => callA_of (fn := Try.f26) (by kernel_rfl) rfl
    have hlenr : ∀ h, lenA Try.prog h 31 rv = some (.int .i64 (ready.length : Nat)) := by
      intro h; obtain ⟨l, c, rfl⟩ := hr.slice; simpa using lenA_slice (P := Try.prog) u31
    -- the box and the answer's place
    have hk := (Keep.refl (ex := []) hw).alloc (.cells [pv, .int .i64 b, cv] .own)
    have hg := Heap.get_alloc h (.cells [pv, .int .i64 b, cv] .own)
    have hbox : boxA h (.agg [pv, .int .i64 b, cv]) = some (.ptr (some ⟨h.next, 0⟩), h.alloc (.cells [pv, .int .i64 b, cv] .own)) := rfl
    have hBn : (h.alloc (.cells [pv, .int .i64 b, cv] .own)).next = h.next + 1 := rfl
    generalize h.alloc (.cells [pv, .int .i64 b, cv] .own) = g at hk hg hbox hBn
    have hk2 := hk.alloc (.cells [.slice none 0 (.exact 0), .int .i64 0, .slice none 0 (.exact 0)] .own)
    have hD := Heap.get_alloc g (.cells [.slice none 0 (.exact 0), .int .i64 0, .slice none 0 (.exact 0)] .own)
    have hg2 := ((Keep.refl (ex := []) hk.wf).alloc (.cells [.slice none 0 (.exact 0), .int .i64 0, .slice none 0 (.exact 0)] .own)).get _ _ hg (by simp)
    have hal : allocA Try.prog g 29 = _ := alloc29 (h := g)
    generalize g.alloc (.cells [.slice none 0 (.exact 0), .int .i64 0, .slice none 0 (.exact 0)] .own) = g2 at hk2 hD hg2 hal
    have hDB : g.next ≠ h.next := by omega
    have hDn : h.next ≤ g.next := by omega
    generalize hB : h.next = B at hg hbox hg2 hDB hDn
    generalize g.next = D at hD hal hDB hDn
    repeat apply WP.seq
    apply WP.region; simp [hl, h0, hbox, hal]
    repeat apply WP.seq
    apply WP.region; simp [hl, build22]
    repeat apply WP.seq
    apply WP.region; simp [hl]
    repeat apply WP.seq
    apply WP.region; simp [hl, h1, hlenr]
    repeat apply WP.seq
    apply WP.block
    have hk3 : Keep [] g2 (g2.alloc (.cells [] .own)) := (Keep.refl hk2.wf).alloc _
    refine WP.loop (fun m e g' => e.length = 140 ∧ nth e 1 = rv ∧ nth e 2 = .ptr (some ⟨B, 0⟩) ∧ nth e 4 = .ptr (some ⟨D, 0⟩) ∧ nth e 19 = rv ∧ nth e 20 = .int .i64 ready.length ∧ Keep [] g2 g' ∧ ∃ i, i ≤ ready.length ∧ m = ready.length - i ∧ nth e 21 = .int .i64 (i : Nat) ∧ nth e 7 = .int .i64 (oldF ages (whoFrom (ready.take i) 0)) ∧ Acc g2.next g' (nth e 6) (nats (whoFrom (ready.take i) 0))) ?_ ready.length _ _ ?_
    · rintro m e g' ⟨hl, h1, h2, h4, h19, h20, hk', i, hi, rfl, h21, h7, hacc⟩
      repeat apply WP.seq
      apply WP.region; simp [hl, h20, h21]
      repeat apply WP.seq
      apply WP.cond (by simp [hl]; rfl)
      · intro hlt1
        have hlt1 : i < ready.length := by simpa using hlt1
        apply WP.skip; simp
        repeat apply WP.seq
        apply WP.block
        repeat apply WP.seq
        obtain ⟨bb, hrb⟩ : ∃ bb, ready[i]? = some bb := ⟨ready[i], by simp [hlt1]⟩
        have hsr := hr.keep (hk2.trans hk') (by simp)
        obtain ⟨l1, hl1, hl1', _⟩ := hsr.at (P := Try.prog) u31 s4 a4 (bools_get hrb) (k := .i64)
        have htake : ready.take (i + 1) = ready.take i ++ [bb] := by rw [List.take_add_one, hrb]; rfl
        have hwt : whoFrom (ready.take (i + 1)) 0 = whoFrom (ready.take i) 0 ++ (if bb then [i] else []) := by
          rw [htake, whoFrom_snoc]
          simp only [List.length_take, Nat.zero_add, Nat.min_eq_left hi]
        apply WP.region; simp [hl, h19, h21, hl1, hl1']
        repeat apply WP.seq
        apply WP.region; simp [hl]
        repeat apply WP.seq
        cases bb with
        | false =>
          apply WP.cond (t := true) (by simp [hl]) ?_ (by simp)
          intro _
          apply WP.exit; simp
          apply WP.region; simp [hl, h21, int_wrap (show i < 9223372036854775807 by omega)]
          refine ⟨ready.length - (i + 1), by omega, h1, h2, h4, h19, h20, hk', i + 1, by omega, rfl, by simp, ?_, ?_⟩
          · rw [hwt]; simpa using h7
          · rw [hwt]; simpa using hacc
        | true =>
          apply WP.cond (t := false) (by simp [hl]) (by simp)
          intro _
          apply WP.skip; simp
          repeat apply WP.seq
          simp only [if_true] at hwt
          have hg1 := hk'.alloc (.cells [.int .i64 (i : Int)] .own)
          have hacc1 := hacc.keep ((Keep.refl (ex := []) hk'.wf).alloc (.cells [.int .i64 (i : Int)] .own)) (by simp)
          have hy : Sl (g'.alloc (.cells [.int .i64 (i : Int)] .own)) (.slice (some ⟨g'.next, 0⟩) 1 (.exact 1)) [.int .i64 (i : Int)] :=
            ⟨⟨rfl, Nat.le_refl 1⟩, .inr ⟨_, _, Heap.get_alloc _ _, by simp, rfl⟩⟩
          have hwl := whoFrom_length (ready.take i) 0
          simp only [List.length_take] at hwl
          obtain ⟨v', g3, hap, hacc', hk3, hnx⟩ := Acc.push (P := Try.prog) hacc1 hg1 (Nat.le_refl _) (by rw [Heap.next_alloc]; have := hk'.le; omega) u22 s3 (room3 (by simp; omega)) hy rfl
          have hnw : nats (whoFrom (ready.take i) 0) ++ [.int .i64 (i : Int)] = nats (whoFrom (ready.take (i + 1)) 0) := by rw [hwt]; simp [nats, ints]
          rw [hnw] at hacc'
          have hold : oldF ages (whoFrom (ready.take (i + 1)) 0) = oldStep ages (oldF ages (whoFrom (ready.take i) 0)) i := by rw [hwt, oldF_snoc]
          apply WP.region; simp [hl, build22_i, hap]
          repeat apply WP.seq
          have hldB : ∀ {g4 : Heap}, Keep [] g2 g4 → loadA Try.prog g4 29 ⟨B, 0⟩ = some (.agg [pv, .int .i64 b, cv]) := fun hk4 => load_whole (P := Try.prog) a29 s29 (hk4.get _ _ hg2 (by simp)) rfl
          have hcg : ∀ {g4 : Heap}, Keep [] g2 g4 → CallsAt g4 cv cs := fun hk4 => hc.keep (hk2.trans hk4)
          generalize hO : oldF ages (whoFrom (ready.take i) 0) = o at h7 hold
          refine WP.mono (K := fun out e g5 => out = .normal ∧ e.length = 140 ∧ nth e 1 = rv ∧ nth e 2 = .ptr (some ⟨B, 0⟩) ∧ nth e 4 = .ptr (some ⟨D, 0⟩) ∧ nth e 6 = v' ∧ nth e 7 = .int .i64 o ∧ nth e 8 = .int .i64 (i : Int) ∧ nth e 19 = rv ∧ nth e 20 = .int .i64 ready.length ∧ nth e 21 = .int .i64 (i : Int) ∧ nth e 42 = .bool (decide (o < 0 ∨ at0 ages o.toNat < at0 ages i)) ∧ Keep [] g3 g5) ?_ ?_
          · by_cases ho : o < 0
            · refine WP.drawDyn (by kernel_rfl) (dynOk_tw (pl := [(3, 5), (6, 5), (6, 8)]) (by kernel_rfl) ?_) ?_
              · simp [hl, h7, guardA, ho]
              · simp [hl, h1, h2, h4, h7, h19, h20, h21, guardA, ho, Keep.refl hk3.wf]
            · obtain ⟨n, rfl⟩ := Int.eq_ofNat_of_zero_le (show 0 ≤ o by omega)
              obtain ⟨g4, hag1, hk4⟩ := age_ok o26 hk3.wf (pv := pv) (b := b) (hcg hk3) (by omega) i
              obtain ⟨g5, hag2, hk5⟩ := age_ok o26 hk4.wf (pv := pv) (b := b) (hcg (hk3.trans hk4)) (by omega) n
              rw [← hA] at hag1 hag2
              have hl3 := hldB hk3
              have hl4 := hldB (hk3.trans hk4)
              have hl5 := hldB ((hk3.trans hk4).trans hk5)
              have hkf := hk4.trans hk5
              refine WP.drawDyn (by kernel_rfl) (dynOk_tw (pl := [(3, 5), (6, 5), (6, 8)]) (by kernel_rfl) ?_) ?_
              · simp [hl, h2, h7, guardA, ho, hl3, hl4, hl5, hca26, hag1, hag2, loadSame]
              · simp [hl, h1, h2, h4, h7, h19, h20, h21, guardA, ho, hl3, hl4, hl5, hca26, hag1, hag2, hkf]
          · rintro _ e g5 ⟨rfl, hl, h1, h2, h4, h6, h7, h8, h19, h20, h21, h42, hk5⟩
            simp
            repeat apply WP.seq
            have hacc5 := hacc'.keep hk5 (by simp)
            have hk35 := hk3.trans hk5
            apply WP.cond (by rw [ev_tmp]; exact h42)
            · intro hcc
              have hcc := of_decide_eq_true hcc
              apply WP.region; simp [hl, h8]
              apply WP.region; simp [hl, h21, int_wrap (show i < 9223372036854775807 by omega)]
              refine ⟨ready.length - (i + 1), by omega, h1, h2, h4, h19, h20, hk35, i + 1, by omega, rfl, by simp, ?_, by rw [h6]; exact hacc5⟩
              rw [hold]; unfold oldStep; rw [if_pos hcc]
            · intro hcc
              have hcc := of_decide_eq_false hcc
              apply WP.skip; simp
              apply WP.region; simp [hl, h21, int_wrap (show i < 9223372036854775807 by omega)]
              refine ⟨ready.length - (i + 1), by omega, h1, h2, h4, h19, h20, hk35, i + 1, by omega, rfl, by simp, ?_, by rw [h6]; exact hacc5⟩
              rw [hold]; unfold oldStep; rw [if_neg hcc]; exact h7
      · intro hge
        have hge : ¬ i < ready.length := by simpa using hge
        have hi' : i = ready.length := by omega
        subst hi'
        apply WP.exit
        simp
        rw [List.take_length] at h7 hacc
        generalize hwv : nth e 6 = wv at hacc
        have hwn := whoFrom_length ready 0
        have hsw := hacc.sl
        have hlenw : ∀ h, lenA Try.prog h 22 wv = some (.int .i64 ((whoFrom ready 0).length : Nat)) := by
          intro h; obtain ⟨l, c, rfl⟩ := hsw.slice; simpa using lenA_slice (P := Try.prog) u22
        generalize hO : oldF ages (whoFrom ready 0) = o at h7
        repeat apply WP.seq
        apply WP.region; simp [hl]
        repeat apply WP.seq
        have hldB : ∀ {g4 : Heap}, Keep [] g2 g4 → loadA Try.prog g4 29 ⟨B, 0⟩ = some (.agg [pv, .int .i64 b, cv]) := fun hk4 => load_whole (P := Try.prog) a29 s29 (hk4.get _ _ hg2 (by simp)) rfl
        have hldB1 : ∀ {g4 : Heap}, Keep [] g2 g4 → loadA Try.prog g4 3 ⟨B, 1⟩ = some (.int .i64 b) := fun hk4 => load_cell (P := Try.prog) a3 (hk4.get _ _ hg2 (by simp)) rfl
        have hcg : ∀ {g4 : Heap}, Keep [] g2 g4 → CallsAt g4 cv cs := fun hk4 => hc.keep (hk2.trans hk4)
        refine WP.mono (K := fun out e g5 => out = .normal ∧ e.length = 140 ∧ nth e 1 = rv ∧ nth e 2 = .ptr (some ⟨B, 0⟩) ∧ nth e 4 = .ptr (some ⟨D, 0⟩) ∧ nth e 6 = wv ∧ nth e 7 = .int .i64 o ∧ nth e 10 = .int .i64 (-1) ∧ nth e 54 = .bool (decide (0 ≤ o ∧ b ≤ at0 ages o.toNat)) ∧ Keep [] g' g5) ?_ ?_
        · by_cases ho : 0 ≤ o
          · obtain ⟨n, rfl⟩ := Int.eq_ofNat_of_zero_le ho
            obtain ⟨g4, hag1, hk4⟩ := age_ok o26 hk'.wf (pv := pv) (b := b) (hcg hk') (by omega) n
            rw [← hA] at hag1
            have hl3 := hldB hk'
            have hl4 := hldB1 hk'
            have hl5 := hldB1 (hk'.trans hk4)
            refine WP.drawDyn (by kernel_rfl) (dynOk_tw (pl := [(3, 5), (7, 5), (7, 10)]) (by kernel_rfl) ?_) ?_
            · simp [hl, h2, h7, guardA, fa29, hl3, hl4, hl5, hca26, hag1, loadSame]
            · simp [hl, h1, h2, h4, h7, hwv, guardA, fa29, hl3, hl4, hl5, hca26, hag1, hk4]
          · refine WP.drawDyn (by kernel_rfl) (dynOk_tw (pl := [(3, 5), (7, 5), (7, 10)]) (by kernel_rfl) ?_) ?_
            · simp [hl, h7, guardA, ho]
            · simp [hl, h1, h2, h4, h7, hwv, guardA, ho, Keep.refl hk'.wf]
        rintro _ e g5 ⟨rfl, hl, h1, h2, h4, h6, h7, h10, h54, hk5⟩
        simp
        repeat apply WP.seq
        have hsw5 := hsw.keep hk5 (by simp)
        have hk25 := hk'.trans hk5
        have hgB := hk25.get _ _ hg2 (by simp)
        have hp5 := hp.keep (hk2.trans hk25) (by simp)
        refine WP.mono (K := fun out e g6 => out = .normal ∧ e.length = 140 ∧ nth e 1 = rv ∧ nth e 2 = .ptr (some ⟨B, 0⟩) ∧ nth e 4 = .ptr (some ⟨D, 0⟩) ∧ nth e 10 = .int .i64 (nextP picks b ages last ready).chosen ∧ Keep [B] g5 g6 ∧ ∃ pv', g6.get B = some (.cells [pv', .int .i64 b, cv] .own) ∧ Sl g6 pv' (ints (nextP picks b ages last ready).picks) ∧ (ints (nextP picks b ages last ready).picks ≠ [] → ∀ j, idOf pv' = some j → j < B) ∧ (∀ j, idOf pv' = some j → idOf pv = some j)) ?_ ?_
        · have hpid : ints picks ≠ [] → ∀ j, idOf pv = some j → j < B := fun hne j hj => by have := hp.lt hw hne hj; omega
          by_cases hne : whoFrom ready 0 = []
          · obtain ⟨hN1, hN2⟩ := next_none (picks := picks) (b := b) (ages := ages) (last := last) hne
            have ho : o = -1 := by rw [← hO, hne]; rfl
            rw [hN1, hN2]
            simp only [hne, List.length_nil] at hlenw
            apply WP.cond (t := false) (by rw [ev_tmp, h54]; simp [ho]) (by simp)
            intro _
            repeat apply WP.seq
            apply WP.region; simp [hl, h6, hlenw, guardA]
            repeat apply WP.seq
            apply WP.cond (t := false) (by simp [hl]) (by simp)
            intro _
            repeat apply WP.seq
            apply WP.region; simp [hl, h6, hlenw]
            repeat apply WP.seq
            apply WP.cond (t := false) (by simp [hl]) (by simp)
            intro _
            apply WP.skip
            refine ⟨rfl, by simp [hl], by simp [h1], by simp [h2], by simp [h4], by simp [h10], Keep.refl hk5.wf, pv, hgB, hp5, hpid, fun _ h => h⟩
          · have hcases := next_cases (picks := picks) (b := b) (ages := ages) (last := last) hne
            rw [hO] at hcases
            have ho : 0 ≤ o := by rw [← hO, oldF_best ages _ _ rfl hne]; omega
            generalize nextP picks b ages last ready = N at hcases
            rcases hcases with ⟨hc1, hN1, hN2⟩ | ⟨hc1, hrest⟩
            · apply WP.cond (t := true) (by rw [ev_tmp, h54]; simp [ho, hc1]) ?_ (by simp)
              intro _
              apply WP.region; simp [hl, h1, h2, h4, h7, hN1, hN2]
              exact ⟨Keep.refl hk5.wf, pv, hgB, hp5, hpid, fun _ h => h⟩
            · apply WP.cond (t := false) (by rw [ev_tmp, h54]; simp [hc1]) (by simp)
              intro _
              have hwpos : (whoFrom ready 0).length ≠ 0 := by have := List.length_pos_iff.2 hne; omega
              have hlp := load_cell (P := Try.prog) a22 hgB (o := 0) (v := pv) rfl
              have hlenp := hp5.len (P := Try.prog) u22
              have hwpos' : 0 < (whoFrom ready 0).length := by omega
              repeat apply WP.seq
              apply WP.region; simp [hl, h2, h6, hlenw, hwpos', guardA, fa29, hlp, hlenp]
              repeat apply WP.seq
              rcases hrest with ⟨p, ps, rfl, hN1, hN2⟩ | ⟨rfl, hN1, hN2⟩
              · apply WP.cond (t := true) (by simp [hl]) ?_ (by simp)
                intro _
                repeat apply WP.seq
                have hr0 := pickAt_range p hwpos'
                have hne0 : (((whoFrom ready 0).length : Nat) : Int) ≠ 0 := by omega
                obtain ⟨l5, hl5, hl5', _⟩ := hp5.at (P := Try.prog) u22 s3 a3 (ints_get (i := 0) (x := p) rfl) (k := .i64)
                simp at hl5
                obtain ⟨pv2, hsl2, hp2, hid2⟩ := Sl.tail (P := Try.prog) (x := .int .i64 p) (xs := ints ps) hp5 u22 s3 (k := .i64)
                obtain ⟨n, hn2⟩ := Int.eq_ofNat_of_zero_le hr0.1
                have hnl : n < (whoFrom ready 0).length := by omega
                obtain ⟨x, hx⟩ : ∃ x, (whoFrom ready 0)[n]? = some x := ⟨(whoFrom ready 0)[n], by simp [hnl]⟩
                have hgd : (whoFrom ready 0).getD n 0 = x := by simp [List.getD_eq_getElem?_getD, hx]
                rw [hn2, Int.toNat_natCast, hgd] at hN1
                obtain ⟨l1, hl1, hl1', _⟩ := hsw5.at (P := Try.prog) u22 s3 a3 (nats_get hx) (k := .i64)
                obtain ⟨l', c', rfl⟩ := hp2.slice
                have hstp := store_cell (P := Try.prog) s22 (v := .slice l' (ints ps).length c') rfl rfl hgB (by simp) (o := 0) (by simp)
                simp only [List.set_cons_zero] at hstp
                have hkp : Keep [B] g5 (g5.set B (.cells [.slice l' (ints ps).length c', .int .i64 b, cv] .own)) := (Keep.refl hk5.wf).set _ (hk5.wf _ _ hgB) (.inl (by simp))
                have hgp := Heap.get_set g5 B (.cells [.slice l' (ints ps).length c', .int .i64 b, cv] .own)
                generalize g5.set B (.cells [.slice l' (ints ps).length c', .int .i64 b, cv] .own) = gp at hstp hkp hgp
                simp only [ints_length] at hstp hsl2
                apply WP.region; simp [hl, h2, h6, fa29, hlp, hl5, hl5', hlenw, bin_rem hne0]
                repeat apply WP.seq
                apply WP.region; simp [hl]
                repeat apply WP.seq
                refine WP.mono (K := fun out e gx => out = .normal ∧ g5 = gx ∧ e.length = 140 ∧ nth e 1 = rv ∧ nth e 2 = .ptr (some ⟨B, 0⟩) ∧ nth e 4 = .ptr (some ⟨D, 0⟩) ∧ nth e 6 = wv ∧ nth e 11 = .int .i64 (n : Int)) ?_ ?_
                · apply WP.cond (by simp [hl]; rfl)
                  · intro hq
                    have hq : p.tmod (whoFrom ready 0).length < 0 := by simpa using hq
                    have hpa : p.tmod (whoFrom ready 0).length + (whoFrom ready 0).length = (n : Int) := by rw [← hn2]; simp only [pickAt, if_pos hq]
                    have hwp : IntKind.wrap .i64 (p.tmod (whoFrom ready 0).length + (whoFrom ready 0).length) = (n : Int) := by rw [hpa]; exact wrap_small (by omega) (by omega)
                    apply WP.region; simp [hl, h1, h2, h4, h6, hlenw, hwp]
                  · intro hq
                    have hq : ¬ p.tmod (whoFrom ready 0).length < 0 := by simpa using hq
                    have hpa : p.tmod (whoFrom ready 0).length = (n : Int) := by rw [← hn2]; simp only [pickAt, if_neg hq]
                    apply WP.skip; simp [hl, h1, h2, h4, h6, hpa]
                rintro _ e _ ⟨rfl, rfl, hl, h1, h2, h4, h6, h11⟩
                simp
                repeat apply WP.seq
                apply WP.region; simp [hl, h6, h11, hl1, hl1']
                apply WP.region; simp [hl, h1, h2, h4, fa29, hlp, hsl2, storeR_ptr hstp, hN1, hN2, hkp]
                have hlt2 : ∀ j, idOf (.slice l' (ints ps).length c') = some j → j < B := fun j hj => hpid (by simp [ints]) j (hid2 j hj)
                have hpk := hp2.keep hkp (fun i hi hm => by
                  have := hlt2 i hi
                  simp only [List.mem_singleton] at hm
                  omega)
                exact ⟨_, hgp, hpk, fun _ => hlt2, hid2⟩
              · apply WP.cond (t := false) (by simp [hl]) (by simp)
                intro _
                repeat apply WP.seq
                apply WP.region; simp [hl, h6, hlenw, hwpos']
                repeat apply WP.seq
                apply WP.cond (t := true) (by simp [hl]) ?_ (by simp)
                intro _
                repeat apply WP.seq
                apply WP.region; simp [hl]
                repeat apply WP.seq
                have hlc := load_cell (P := Try.prog) a27 hgB (o := 2) (v := cv) rfl
                have hcc5 := hcg hk25
                have hrlc := rowsOf_length cs
                have hlcn : lenA Try.prog g5 27 cv = some (.int .i64 (cs.length : Nat)) := by rw [← hrlc]; exact hcc5.1.len (P := Try.prog) g5 u27
                apply WP.region; simp [hl, h2, fa29, hlc, hlcn]
                repeat apply WP.seq
                apply WP.block
                refine WP.loop (fun m e gx => e.length = 140 ∧ nth e 1 = rv ∧ nth e 2 = .ptr (some ⟨B, 0⟩) ∧ nth e 4 = .ptr (some ⟨D, 0⟩) ∧ nth e 6 = wv ∧ nth e 90 = cv ∧ nth e 91 = .int .i64 cs.length ∧ Keep [] g5 gx ∧ ∃ k, k ≤ cs.length ∧ m = cs.length - k ∧ nth e 92 = .int .i64 (k : Nat) ∧ nth e 12 = .int .i64 (lastOf (cs.take k))) ?_ cs.length _ _ ?_
                · rintro m e gx ⟨hl, h1, h2, h4, h6, h90, h91, hkx, k, hkl, rfl, h92, h12⟩
                  repeat apply WP.seq
                  apply WP.region; simp [hl, h91, h92]
                  repeat apply WP.seq
                  apply WP.cond (by simp [hl]; rfl)
                  · intro hlt1
                    have hlt1 : k < cs.length := by simpa using hlt1
                    apply WP.skip; simp
                    repeat apply WP.seq
                    apply WP.block
                    repeat apply WP.seq
                    obtain ⟨⟨xv, xr, xc⟩, hx⟩ : ∃ x, cs[k]? = some x := ⟨cs[k], by simp [hlt1]⟩
                    have hrow : (rowsOf cs)[k]? = some [xv, .int .i64 xc] := by simp [rowsOf, hx]
                    have hcx := hcc5.keep hkx
                    obtain ⟨l1, hl1, hl1', _⟩ := hcx.1.at (P := Try.prog) u27 s65 a65 hrow (k := .i64)
                    have hxv := sl_cellOk (hcx.2 _ (List.mem_of_getElem? hx))
                    have hka := hkx.alloc (.cells [.slice none 0 (.exact 0), .int .i64 0] .own)
                    have hga := Heap.get_alloc gx (.cells [.slice none 0 (.exact 0), .int .i64 0] .own)
                    have hal65 : allocA Try.prog gx 65 = _ := alloc65 (h := gx)
                    generalize gx.alloc (.cells [.slice none 0 (.exact 0), .int .i64 0] .own) = ga at hka hga hal65
                    have hst := store_whole (P := Try.prog) s65 hga rfl (ds := [xv, .int .i64 xc]) rfl (by simp only [cellsOk, hxv, Bool.true_and]; rfl)
                    have hkb := hka.set (.cells [xv, .int .i64 xc] .own) (hka.wf _ _ hga) (.inr hkx.le)
                    have hgb := Heap.get_set ga gx.next (.cells [xv, .int .i64 xc] .own)
                    generalize ga.set gx.next (.cells [xv, .int .i64 xc] .own) = gb at hst hkb hgb
                    have hld1 := load_cell (P := Try.prog) a3 hgb (o := 1) (v := .int .i64 xc) rfl
                    have hlast' := lastOf_take hx
                    simp only at hlast'
                    apply WP.region; simp [hl, h90, h92, hl1, hl1', hal65, storeR_ptr hst]
                    repeat apply WP.seq
                    apply WP.region; simp [hl, fa65, hld1]
                    repeat apply WP.seq
                    apply WP.cond (by simp [hl]; rfl)
                    · intro hq
                      have hq : 0 ≤ xc := by simpa using hq
                      apply WP.region; simp [hl, fa65, hld1]
                      apply WP.region; simp [hl, h92, int_wrap (show k < 9223372036854775807 by omega)]
                      exact ⟨cs.length - (k + 1), by omega, h1, h2, h4, h6, h90, h91, hkb, k + 1, by omega, rfl, by simp, by rw [hlast', if_pos hq]⟩
                    · intro hq
                      have hq : ¬ 0 ≤ xc := by simpa using hq
                      apply WP.skip; simp
                      apply WP.region; simp [hl, h92, int_wrap (show k < 9223372036854775807 by omega)]
                      exact ⟨cs.length - (k + 1), by omega, h1, h2, h4, h6, h90, h91, hkb, k + 1, by omega, rfl, by simp, by rw [hlast', if_neg hq]; exact h12⟩
                  · intro hge
                    have hge : ¬ k < cs.length := by simpa using hge
                    have hk0 : k = cs.length := by omega
                    subst hk0
                    apply WP.exit
                    simp
                    rw [List.take_length, ← hlast] at h12
                    repeat apply WP.seq
                    have hswx := hsw5.keep hkx (by simp)
                    obtain ⟨x0, hx0⟩ : ∃ x, (whoFrom ready 0)[0]? = some x := ⟨(whoFrom ready 0)[0], by simp [hwpos']⟩
                    have hg0 : (whoFrom ready 0).getD 0 0 = x0 := by simp [List.getD_eq_getElem?_getD, hx0]
                    obtain ⟨l0, hl0, hl0', _⟩ := hswx.at (P := Try.prog) u22 s3 a3 (nats_get hx0) (k := .i64)
                    simp at hl0
                    have hwl1 : IntKind.wrap .i64 (((whoFrom ready 0).length : Int) - 1) = ((whoFrom ready 0).length : Int) - 1 := wrap_small (by omega) (by omega)
                    apply WP.region; simp [hl, h6, hl0, hl0']
                    repeat apply WP.seq
                    apply WP.region; simp [hl, h6, hlenw, hwl1]
                    apply WP.block
                    refine WP.loop (fun m e gy => gx = gy ∧ e.length = 140 ∧ nth e 1 = rv ∧ nth e 2 = .ptr (some ⟨B, 0⟩) ∧ nth e 4 = .ptr (some ⟨D, 0⟩) ∧ nth e 6 = wv ∧ nth e 12 = .int .i64 last ∧ ∃ k, k ≤ (whoFrom ready 0).length ∧ m = k ∧ nth e 15 = .int .i64 ((k : Int) - 1) ∧ nth e 10 = .int .i64 (scan last (whoFrom ready 0) k : Nat)) ?_ (whoFrom ready 0).length _ _ ?_
                    · rintro m e gy ⟨rfl, hl, h1, h2, h4, h6, h12, k, hkl, rfl, h15, h10⟩
                      repeat apply WP.seq
                      apply WP.region; simp [hl, h15]
                      repeat apply WP.seq
                      apply WP.cond (by simp [hl]; rfl)
                      · intro hpos
                        have hpos : 1 ≤ m := by
                          have : (0 : Int) ≤ (m : Int) - 1 := by simpa using hpos
                          omega
                        obtain ⟨k, rfl⟩ : ∃ k, m = k + 1 := ⟨m - 1, by omega⟩
                        have hki : ((k + 1 : Nat) : Int) - 1 = (k : Int) := by omega
                        rw [hki] at h15
                        obtain ⟨xk, hxk⟩ : ∃ x, (whoFrom ready 0)[k]? = some x := ⟨(whoFrom ready 0)[k], by simp [show k < (whoFrom ready 0).length by omega]⟩
                        have hstep := scan_step (last := last) hxk
                        obtain ⟨lk, hlk, hlk', _⟩ := hswx.at (P := Try.prog) u22 s3 a3 (nats_get hxk) (k := .i64)
                        apply WP.skip; simp
                        repeat apply WP.seq
                        apply WP.block
                        repeat apply WP.seq
                        apply WP.region; simp [hl, h6, h12, h15, hlk, hlk']
                        repeat apply WP.seq
                        apply WP.cond (by simp [hl]; rfl)
                        · intro hq
                          have hq : last < (xk : Int) := by simpa using hq
                          apply WP.region; simp [hl, h6, h15, hlk, hlk']
                          apply WP.region; simp [hl, h15, wrap_small (show -9223372036854775808 ≤ (k : Int) - 1 by omega) (by omega)]
                          exact ⟨k, by omega, h1, h2, h4, h6, h12, k, by omega, rfl, by simp, by rw [hstep, if_pos hq]⟩
                        · intro hq
                          have hq : ¬ last < (xk : Int) := by simpa using hq
                          apply WP.skip; simp
                          apply WP.region; simp [hl, h15, wrap_small (show -9223372036854775808 ≤ (k : Int) - 1 by omega) (by omega)]
                          exact ⟨k, by omega, h1, h2, h4, h6, h12, k, by omega, rfl, by simp, by rw [hstep, if_neg hq]; exact h10⟩
                      · intro hneg
                        have hm0 : m = 0 := by
                          have : ¬ (0 : Int) ≤ (m : Int) - 1 := by simpa using hneg
                          omega
                        subst hm0
                        apply WP.exit
                        have hgBx := hkx.get _ _ hgB (by simp)
                        simp [hl, h1, h2, h4, h10, hN1, hN2]
                        exact ⟨hkx.more (by simp), pv, hgBx, hp5.keep hkx (by simp), by simp [ints], fun _ h => h⟩
                    · refine ⟨rfl, by simp [hl], by simp [h1], by simp [h2], by simp [h4], by simp [h6], by simp [h12], _, Nat.le_refl _, rfl, by simp [hl], by simp [hl, scan_all]; rw [← hg0]; simp⟩
                · refine ⟨by simp [hl], by simp [h1], by simp [h2], by simp [h4], by simp [h6], by simp [hl], by simp [hl], Keep.refl hk5.wf, 0, by omega, by omega, by simp [hl], by simp [hl, lastOf]⟩
        rintro _ e g6 ⟨rfl, hl, h1, h2, h4, h10, hk6, pv', hgB6, hp6, hpid6, hpid7⟩
        simp
        generalize (nextP picks b ages last ready).chosen = ch at h10
        generalize (nextP picks b ages last ready).picks = ps at hp6 hpid6
        have hkh6 : Keep [B] h g6 := ((hk2.trans hk25).more (by simp)).trans hk6
        have hk26 : Keep [B] g2 g6 := (hk25.more (by simp)).trans hk6
        have hr6 : Sl g6 rv (bools ready) := hr.keep' hkh6 (by
          intro hne i hi hm
          have := hr.lt hw hne hi
          simp only [List.mem_singleton] at hm
          omega)
        have hc6 : CallsAt g6 cv cs := by
          refine ⟨hc.1.keep' hkh6 ?_, fun x hx => (hc.2 x hx).keep' hkh6 ?_⟩
          · intro hne i hi hm
            have := hc.1.lt hw hne hi
            simp only [List.mem_singleton] at hm
            omega
          · intro hne i hi hm
            have := (hc.2 x hx).lt hw hne hi
            simp only [List.mem_singleton] at hm
            omega
        have hgD6 : g6.get D = _ := hk26.get _ _ hD (by simp; omega)
        obtain ⟨ov', g7, B', hap, hown7, hB', hk7⟩ := hr6.clone (P := Try.prog) hk6.wf u31 s4 (fun _ => room4 (by simp; omega)) bools_ok
        repeat apply WP.seq
        apply WP.region; simp [hl, build31]
        repeat apply WP.seq
        apply WP.region; simp [hl, h1, hap]
        repeat apply WP.seq
        apply WP.region; simp [hl, build27]
        repeat apply WP.seq
        have hk8 : Keep [] g6 (g7.alloc (.cells [] .own)) := hk7.alloc _
        have hg8 := Heap.get_alloc g7 (.cells [] .own)
        have hk78 : Keep [] g7 (g7.alloc (.cells [] .own)) := (Keep.refl hk7.wf).alloc _
        have hn78 : g7.next ≤ (g7.alloc (.cells [] .own)).next := by rw [Heap.next_alloc]; omega
        generalize g7.alloc (.cells [] .own) = g8 at hk8 hg8 hk78 hn78
        have hA8 : Accr g7.next g8 2 (.slice (some ⟨g7.next, 0⟩) 0 (.exact 0)) [] := ⟨by simp, .inl ⟨rfl, _, rfl, fun x hx => by cases hx; exact ⟨Nat.le_refl _, rfl, [], hg8⟩⟩⟩
        have hc8 := hc6.keep hk8
        have hrl := rowsOf_length cs
        obtain ⟨v9, g9, hap9, hacc9, hk9, hn9⟩ := hA8.push hk78 (Nat.le_refl _) hn78 u27 s65 (by decide) hc8.1 (rowsOf_ok hc8.2) (fun _ => room65 (by simp [hrl]; omega))
        rw [List.nil_append] at hacc9
        have hld8 := load_cell (P := Try.prog) a27 (hk8.get _ _ hgB6 (by simp)) (o := 2) (v := cv) rfl
        apply WP.region; simp [hl, h2, fa29, hld8, hap9]
        repeat apply WP.seq
        have hsl7 := hown7.sl
        obtain ⟨c7, ⟨rfl, _⟩, hg7⟩ := hown7
        have hk10 := hk9.alloc (.cells [.slice (some ⟨B', 0⟩) (bools ready).length c7, .int .i64 ch] .own)
        have hk910 := (Keep.refl (ex := []) hk9.wf).alloc (.cells [.slice (some ⟨B', 0⟩) (bools ready).length c7, .int .i64 ch] .own)
        have hg10 := Heap.get_alloc g9 (.cells [.slice (some ⟨B', 0⟩) (bools ready).length c7, .int .i64 ch] .own)
        have hn10 : (g9.alloc (.cells [.slice (some ⟨B', 0⟩) (bools ready).length c7, .int .i64 ch] .own)).next = g9.next + 1 := rfl
        have hbs : buildSliceA Try.prog g9 27 1 [(0, .agg [.slice (some ⟨B', 0⟩) (bools ready).length c7, .int .i64 ch])] = some (.slice (some ⟨g9.next, 0⟩) 1 (.exact 1), g9.alloc (.cells [.slice (some ⟨B', 0⟩) (bools ready).length c7, .int .i64 ch] .own)) := build27_1
        generalize g9.alloc (.cells [.slice (some ⟨B', 0⟩) (bools ready).length c7, .int .i64 ch] .own) = g10 at hk10 hk910 hg10 hn10 hbs
        have hy : Slr g10 2 (.slice (some ⟨g9.next, 0⟩) 1 (.exact 1)) [[.slice (some ⟨B', 0⟩) (bools ready).length c7, .int .i64 ch]] :=
          ⟨by simp, rfl, .inr ⟨_, _, hg10, by simp, by simp⟩⟩
        obtain ⟨v11, g11, hap11, hacc11, hk11, hn11⟩ := (hacc9.keep hk910 (by simp)).push hk10 (Nat.le_refl _) (by omega) u27 s65 (by decide) hy rfl (fun _ => room65 (by simp [hrl]; omega))
        have hk611 := hk7.trans hk11
        have hv11 : cellsA v11 = some [v11] ∧ cellOk v11 = true := by obtain ⟨l, c, rfl⟩ := hacc11.slr.slice; exact ⟨rfl, rfl⟩
        have hgB11 := hk611.get _ _ hgB6 (by simp)
        have hst11 := store_cell (P := Try.prog) s27 hv11.1 hv11.2 hgB11 (by simp) (o := 2) (by simp)
        simp only [List.set_cons_succ, List.set_cons_zero] at hst11
        have hB11 : B < g11.next := hk611.wf _ _ hgB11
        have hk12 : Keep [B] g11 (g11.set B (.cells [pv', .int .i64 b, v11] .own)) := (Keep.refl hk611.wf).set _ hB11 (.inl (by simp))
        have hg12 := Heap.get_set g11 B (.cells [pv', .int .i64 b, v11] .own)
        generalize g11.set B (.cells [pv', .int .i64 b, v11] .own) = g12 at hst11 hk12 hg12
        have hl12 := load_whole (P := Try.prog) a29 s29 hg12 rfl
        have hgD12 := hk12.get _ _ (hk611.get _ _ hgD6 (by simp)) (by simp; omega)
        have hpc : cellOk pv' = true := sl_cellOk hp6
        have hst12 := store_whole (P := Try.prog) s29 hgD12 rfl (ds := [pv', .int .i64 b, v11]) rfl (by simp only [cellsOk, hpc, hv11.2, Bool.true_and, Bool.and_true]; rfl)
        have hk13 : Keep [D] g12 (g12.set D (.cells [pv', .int .i64 b, v11] .own)) := (Keep.refl hk12.wf).set _ (hk12.wf _ _ hgD12) (.inl (by simp))
        have hg13 := Heap.get_set g12 D (.cells [pv', .int .i64 b, v11] .own)
        generalize g12.set D (.cells [pv', .int .i64 b, v11] .own) = g13 at hst12 hk13 hg13
        have hl13 := load_whole (P := Try.prog) a29 s29 hg13 rfl
        simp only [bools_length] at hbs
        apply WP.region; simp [hl, h2, h10, fa29, build65, hbs, hap11, storeR_ptr hst11]
        repeat apply WP.seq
        apply WP.region; simp [hl, h2, h4, h10, hl12, storeR_ptr hst12]
        apply WP.ret
        have hkall : Keep [B, D] g6 g13 := ((hk611.more (by simp)).trans (hk12.more (by simp))).trans (hk13.more (by simp))
        have hkfin : Keep [] h g13 := ((hkh6.more (ex' := [B, D]) (by simp)).trans hkall).more (by
          intro i hi
          right
          simp only [List.mem_cons, List.mem_nil_iff, or_false] at hi
          rcases hi with rfl | rfl <;> omega)
        have hpf : Sl g13 pv' (ints ps) := hp6.keep' hkall (by
          intro hne i hi hm
          have := hpid6 hne i hi
          simp only [List.mem_cons, List.mem_nil_iff, or_false] at hm
          rcases hm with rfl | rfl <;> omega)
        have hD6 : D < g6.next := hk6.wf _ _ hgD6
        have hB6 : B < g6.next := hk6.wf _ _ hgB6
        have hk7l := hk7.le
        have hkbd : Keep [B, D] g11 g13 := (hk12.more (by simp)).trans (hk13.more (by simp))
        have hcf : CallsAt g13 v11 (cs ++ [(.slice (some ⟨B', 0⟩) ready.length c7, ready, ch)]) := by
          have hrw : rowsOf (cs ++ [(.slice (some ⟨B', 0⟩) ready.length c7, ready, ch)]) = rowsOf cs ++ [[.slice (some ⟨B', 0⟩) (bools ready).length c7, .int .i64 ch]] := by simp [rowsOf]
          refine ⟨?_, ?_⟩
          · rw [hrw]
            refine hacc11.slr.keep' hkbd fun _ i hi hm => ?_
            have := hacc11.id hi
            simp only [List.mem_cons, List.mem_nil_iff, or_false] at hm
            rcases hm with rfl | rfl <;> omega
          · intro x hx
            rcases List.mem_append.1 hx with hx | hx
            · exact (hc.2 x hx).keep hkfin (by simp)
            · simp only [List.mem_singleton] at hx
              subst hx
              rw [bools_length] at hsl7
              refine hsl7.keep (((hk11.more (ex' := [B, D]) (by simp)).trans hkbd)) fun i hi hm => ?_
              cases hi
              simp only [List.mem_cons, List.mem_nil_iff, or_false] at hm
              rcases hm with rfl | rfl <;> omega
        simp [hl, h4, resultsA, resultA, single, hl13, hkfin]
        refine ⟨pv', v11, ⟨rfl, rfl⟩, hpf, _, hcf, hpid7, fun j hj => ?_, fun j hj => ?_⟩
        · have := hacc11.id hj; have := hkh6.le; omega
        · have := hkh6.le
          cases hj
          show _ ≤ B'
          omega
    · refine ⟨by simp [hl], by simp [h1], by simp [hl], by simp [hl], by simp [hl], by simp [hl], hk3, 0, by omega, by omega, by simp [hl], by simp [hl, whoFrom, oldF], ?_⟩
      simp [hl, whoFrom, nats, ints]
      exact Acc.empty (Nat.le_refl _) (Heap.get_alloc _ _)
  obtain ⟨_, h', h1, pv', cv', rv', rfl, h2⟩ := main
  exact ⟨h', pv', cv', rv', h1, h2⟩
end
end Go.Am

set_option linter.unusedSimpArgs false
namespace Go.Am
open Go.RowKit Go.Proofs

section
variable {ov : CallF}

theorem Ch.keep {ex : List Nat} {h0 h : Heap} (hk : Keep ex h0 h) (hex : ex = []) {C : Nat} {picks ages : List Int} {bound last : Int} (hC : Ch h0 C picks bound ages last) : Ch h C picks bound ages last := by
  subst hex
  obtain ⟨p, a, hc⟩ := hC
  exact ⟨p, a, hc.keep hk (by simp) (by simp) (by simp)⟩
theorem Ch.lt {h : Heap} (hw : Wf h) {C : Nat} {picks ages : List Int} {bound last : Int} (hC : Ch h C picks bound ages last) : C < h.next := by
  obtain ⟨p, a, hc⟩ := hC; exact hw _ _ hc.1
/-- A chooser stands where another block is written that it does not use. -/
theorem Ch.keep1 {A : Nat} {h0 h : Heap} (hk : Keep [A] h0 h) {C : Nat} {picks ages : List Int} {bound last : Int} (hC : Ch h0 C picks bound ages last) (hA : A ≠ C)
    (hx : ∀ pv av, ChAt h0 C pv av picks bound ages last → (picks ≠ [] → idOf pv ≠ some A) ∧ (ages ≠ [] → idOf av ≠ some A)) : Ch h C picks bound ages last := by
  obtain ⟨p, a, hc⟩ := hC
  obtain ⟨h1, h2⟩ := hx p a hc
  refine ⟨p, a, hk.get _ _ hc.1 (by simp; omega), hc.2.1.keep' hk ?_, hc.2.2.1.keep' hk ?_, hc.2.2.2⟩
  · intro hne i hi hm
    simp only [List.mem_singleton] at hm
    exact h1 (by simpa [ints] using hne) (by rw [hi, hm])
  · intro hne i hi hm
    simp only [List.mem_singleton] at hm
    exact h2 (by simpa [ints] using hne) (by rw [hi, hm])

set_option maxHeartbeats 4000000 in
theorem picks_ok (O : OvOk ov) (o6 : ∀ a h, ov 6 a h = none) (o15 : ∀ a h, ov 15 a h = none) (o16 : ∀ a h, ov 16 a h = none) {h : Heap} (hw : Wf h) {wv : AV} {want : List Int} (hs : Sl h wv (ints want)) (hL : want.length ≤ 2000000) (n0 : Int) :
    ∃ h', callT ov Try.prog 6 [wv, .int .i64 n0] h = some (.ret (.bool true) h') := by
  have main : ∃ u h', callT ov Try.prog 6 [wv, .int .i64 n0] h = some (.ret u h') ∧ u = .bool true := by
    refine callT_wp (fn := Try.f6) (Q := fun u _ => u = .bool true) (o6 _ _) (by kernel_rfl) rfl ?_
    have hl : (frameA Try.f6 [wv, .int .i64 n0]).length = 75 := frameA_length (Nat.le_of_ble_eq_true rfl)
    have h0 : nth (frameA Try.f6 [wv, .int .i64 n0]) 0 = wv := frameA_nth (Nat.le_of_ble_eq_true rfl)
    have h1 : nth (frameA Try.f6 [wv, .int .i64 n0]) 1 = .int .i64 n0 := frameA_nth (Nat.le_of_ble_eq_true rfl)
    generalize frameA Try.f6 [wv, .int .i64 n0] = e at hl h0 h1
    have hca10 : ∀ h, callA (callT ov Try.prog) Try.prog h 10 [] = some (.ret (.bool true) h) := fun h => (callA_of (fn := Try.f10) (by kernel_rfl) rfl).trans (callT_ov _ _ (O.o10 h))
    have hca11 : ∀ args h, callA (callT ov Try.prog) Try.prog h 11 args = callT ov Try.prog 11 args h := fun args h => callA_of (fn := Try.f11) (by kernel_rfl) rfl
    have hca14 : ∀ args h, callA (callT ov Try.prog) Try.prog h 14 args = callT ov Try.prog 14 args h := fun args h => callA_of (fn := Try.f14) (by kernel_rfl) rfl
    have hca15 : ∀ args h, callA (callT ov Try.prog) Try.prog h 15 args = callT ov Try.prog 15 args h := fun args h => callA_of (fn := Try.f15) (by kernel_rfl) rfl
    have hca16 : ∀ args h, callA (callT ov Try.prog) Try.prog h 16 args = callT ov Try.prog 16 args h := fun args h => callA_of (fn := Try.f16) (by kernel_rfl) rfl
    have hlenw : ∀ h, lenA Try.prog h 22 wv = some (.int .i64 (want.length : Nat)) := by
      intro h; obtain ⟨l, c, rfl⟩ := hs.slice; simpa using lenA_slice (P := Try.prog) u22
    repeat apply WP.seq
    apply WP.region; simp [hl]
    repeat apply WP.seq
    apply WP.region; simp [hl, hca10]
    repeat apply WP.seq
    apply WP.cond (t := false) (by simp [hl]) (by simp)
    intro _
    apply WP.skip; simp
    repeat apply WP.seq
    by_cases hin : 1 ≤ n0 ∧ n0 ≤ 50
    rotate_left
    · apply WP.region
      by_cases c1 : n0 < 1
      · simp [hl, h1, guardA, c1]
        repeat apply WP.seq
        apply WP.cond (t := true) (by simp [hl]) ?_ (by simp)
        intro _
        repeat apply WP.seq
        apply WP.region; simp [hl]
        apply WP.ret
        simp [hl, resultsA, resultA, single]
      · have c2 : 50 < n0 := by omega
        simp [hl, h1, guardA, c1, c2]
        repeat apply WP.seq
        apply WP.cond (t := true) (by simp [hl]) ?_ (by simp)
        intro _
        repeat apply WP.seq
        apply WP.region; simp [hl]
        apply WP.ret
        simp [hl, resultsA, resultA, single]
    · obtain ⟨n, rfl⟩ := Int.eq_ofNat_of_zero_le (show 0 ≤ n0 by omega)
      have c1 : ¬ (n : Int) < 1 := by omega
      have c2 : ¬ 50 < (n : Int) := by omega
      have hn1 : 1 ≤ n ∧ n ≤ 50 := by omega
      apply WP.region; simp [hl, h1, guardA, c1, c2]
      repeat apply WP.seq
      apply WP.cond (t := false) (by simp [hl]) (by simp)
      intro _
      apply WP.skip; simp
      repeat apply WP.seq
      obtain ⟨cv, gc, B, hap, hownc, hB, hkc⟩ := hs.clone (P := Try.prog) hw u22 s3 (fun _ => room3 (by simp; omega)) ints_ok
      obtain ⟨C, g, pv, hnew, hgC, hpv, hidp, hCn, hk⟩ := new_ok O.o25 O.o11 hkc.wf hownc.sl (by omega) ((want.length : Int) + 1)
      have hmax : max ((want.length : Int) + 1) 1 = (want.length : Int) + 1 := by omega
      rw [hmax] at hgC
      have hC : Ch g C want ((want.length : Int) + 1) [] (-1) := ⟨_, _, hgC, hpv, ⟨rfl, rfl⟩, fun hi => (hidp _ hi).2 rfl, by simp [idOf]⟩
      have hwr : IntKind.wrap .i64 ((want.length : Int) + 1) = (want.length : Int) + 1 := wrap_small (by omega) (by omega)
      apply WP.region; simp [hl, h0, h1, hlenw, build22, hap, hwr, hca11, hnew]
      repeat apply WP.seq
      apply WP.region; simp [hl, bin_ptnil u25]
      repeat apply WP.seq
      apply WP.cond (t := false) (by simp [hl]) (by simp)
      intro _
      apply WP.skip; simp
      repeat apply WP.seq
      have hsg := hs.keep (hkc.trans hk) (by simp)
      have hidw : ints want ≠ [] → ∀ i, idOf wv = some i → i ∉ [C] := by
        intro hne i hi hm
        have h3 := hs.lt hw hne hi
        have h4 := hkc.le
        simp only [List.mem_singleton] at hm
        omega
      clear hgC hpv hidp hnew hap hownc
      have hmk : makeSliceA Try.prog g 31 (.int .i64 (n : Nat)) (.int .i64 (n : Nat)) = _ := make31 (by omega)
      have hk2 : Keep [] g (g.alloc (.cells (List.replicate n (.bool false)) .own)) := (Keep.refl hk.wf).alloc _
      have hg2 : (g.alloc (.cells (List.replicate n (.bool false)) .own)).get g.next = some (.cells (List.replicate n (.bool false)) .own) := Heap.get_alloc _ _
      have hCg : C < g.next := hC.lt hk.wf
      generalize g.alloc (.cells (List.replicate n (.bool false)) .own) = g2 at hk2 hg2 hmk
      have hown : Own g2 (.slice (some ⟨g.next, 0⟩) n (.exact n)) g.next (bools (List.replicate 0 true ++ List.replicate (n - 0) false)) :=
        ⟨.exact n, ⟨by simp, by simp [capOk]⟩, by simpa [bools] using hg2⟩
      have hAC : g.next ≠ C := by omega
      have hAg : g.next ≤ g.next := Nat.le_refl _
      generalize hA : g.next = A at hown hmk hAC
      rw [hA] at hAg
      have hlenr : ∀ g, lenA Try.prog g 31 (.slice (some ⟨A, 0⟩) n (.exact n)) = some (.int .i64 (n : Nat)) := fun g => lenA_slice u31
      generalize hrs : AV.slice (some ⟨A, 0⟩) n (.exact n) = rs at hown hmk hlenr
      apply WP.region; simp [hl, h1, hmk]
      repeat apply WP.seq
      apply WP.region; simp [hl, hlenr]
      repeat apply WP.seq
      apply WP.block
      refine WP.loop (fun k e g' => e.length = 75 ∧ nth e 0 = wv ∧ nth e 1 = .int .i64 n ∧ nth e 5 = .ptr (some ⟨C, 0⟩) ∧ nth e 6 = rs ∧ nth e 32 = .int .i64 n ∧ Keep [] g g' ∧ ∃ i, i ≤ n ∧ k = n - i ∧ nth e 33 = .int .i64 (i : Nat) ∧ Own g' rs A (bools (List.replicate i true ++ List.replicate (n - i) false))) ?_ n _ _ ?_
      · rintro k e g' ⟨hl, h0, h1, h5, h6, h32, hkg, i, hi, rfl, h33, hown⟩
        repeat apply WP.seq
        apply WP.region; simp [hl, h32, h33]
        repeat apply WP.seq
        apply WP.cond (by simp [hl]; rfl)
        · intro hlt1
          have hlt1 : i < n := by simpa using hlt1
          apply WP.skip; simp
          repeat apply WP.seq
          apply WP.block
          repeat apply WP.seq
          have hle : i < (bools (List.replicate i true ++ List.replicate (n - i) false)).length := by simp; omega
          have haddr := hown.addr (P := Try.prog) u31 s4 hle (k := .i64)
          obtain ⟨hst, hown'⟩ := hown.store (P := Try.prog) s4 hle (x := .bool true) rfl rfl
          rw [bools_set, fill_set hlt1] at hst hown'
          have hAg' : A < g'.next := hkg.wf _ _ hown.choose_spec.2
          have hk' := hkg.set (.cells (bools (List.replicate (i + 1) true ++ List.replicate (n - (i + 1)) false)) .own) hAg' (.inr (by omega))
          apply WP.region; simp [hl, h33]
          repeat apply WP.seq
          apply WP.region; simp [hl, h6, haddr, storeR_ptr hst]
          apply WP.region; simp [hl, h33, int_wrap (show i < 9223372036854775807 by omega)]
          exact ⟨n - (i + 1), by omega, h0, h1, h5, h6, h32, hk', i + 1, by omega, rfl, by simp, hown'⟩
        · intro hge
          have hge : ¬ i < n := by simpa using hge
          have hi' : i = n := by omega
          subst hi'
          apply WP.exit
          simp
          rw [Nat.sub_self, List.replicate_zero, List.append_nil] at hown
          have hC2 := hC.keep hkg rfl
          have hs2 := hsg.keep hkg (by simp)
          repeat apply WP.seq
          apply WP.region; simp [hl, h0, hlenw]
          repeat apply WP.seq
          apply WP.block
          refine WP.loop (fun k e g'' => e.length = 75 ∧ nth e 0 = wv ∧ nth e 1 = .int .i64 i ∧ nth e 5 = .ptr (some ⟨C, 0⟩) ∧ nth e 6 = rs ∧ nth e 40 = wv ∧ nth e 41 = .int .i64 want.length ∧ Keep [C] g' g'' ∧ ∃ x, x ≤ want.length ∧ k = want.length - x ∧ nth e 42 = .int .i64 (x : Int) ∧ ∃ ages last, (∀ a ∈ ages, 0 ≤ a ∧ a ≤ (x : Int)) ∧ Ch g'' C (want.drop x) ((want.length : Int) + 1) ages last) ?_ want.length _ _ ?_
          · rintro k e g'' ⟨hl, h0, h1, h5, h6, h40, h41, hkc'', x, hx, rfl, h42, ages, last, haok, hC⟩
            repeat apply WP.seq
            apply WP.region; simp [hl, h41, h42]
            repeat apply WP.seq
            apply WP.cond (by simp [hl]; rfl)
            · intro hlt1
              have hlt1 : x < want.length := by simpa using hlt1
              apply WP.skip; simp
              repeat apply WP.seq
              apply WP.block
              repeat apply WP.seq
              obtain ⟨p, hwp⟩ : ∃ p, want[x]? = some p := ⟨want[x], by simp [hlt1]⟩
              have hdrop : want.drop x = p :: want.drop (x + 1) := by
                rw [List.drop_eq_getElem_cons hlt1]
                congr 1
                have := List.getElem?_eq_getElem hlt1
                rw [this] at hwp
                exact Option.some.inj hwp
              have hsw := hs2.keep' hkc'' hidw
              obtain ⟨l1, hl1, hl1', _⟩ := hsw.at u22 s3 a3 (ints_get hwp) (k := .i64)
              have hown2 := hown.keep hkc'' (by simp [hAC])
              obtain ⟨v', g3, B', hap, hown3, hB', hk3⟩ := hown2.sl.clone (P := Try.prog) hkc''.wf u31 s4 (fun _ => room4 (by simp; omega)) bools_ok
              have hC3 := hC.keep hk3 rfl
              have hCl := hC.lt hkc''.wf
              have hvC : idOf v' ≠ some C := by rw [hown3.id]; simp; omega
              obtain ⟨g4, hcall, hC4, hk4⟩ := next_ok O.o14 O.o27 O.o28 O.o29 O.o30 hk3.wf hC3 hown3.sl hvC (by simp; omega) (fun a ha => by have := haok a ha; omega)
              obtain ⟨ages', haok', hN⟩ := picks_next (n := i) (by omega) (p := p) (ps := want.drop (x + 1)) (last := last) (bound := (want.length : Int) + 1) (M := (x : Int)) (by omega) (by omega) haok
              rw [hdrop, hN] at hcall hC4
              simp only at hcall hC4
              have hr := pickAt_range p (n := i) (by omega)
              have hmx : max (pickAt p i) 0 = pickAt p i := by omega
              rw [hmx] at hcall
              simp only [hr.1, decide_true] at hcall
              have hpl := place_ok o16 (h := g4) p (n := i) (by omega) (by omega)
              have hlf := left_ok o15 hC4
              have hsub : IntKind.wrap .i64 ((want.length : Int) - x) = (want.length : Int) - x := wrap_small (by omega) (by omega)
              have hsub2 : IntKind.wrap .i64 ((want.length : Int) - x - 1) = ((want.drop (x + 1)).length : Int) := by rw [wrap_small (by omega) (by omega), List.length_drop]; omega
              rw [List.length_drop] at hlf hsub2
              apply WP.region; simp [hl, h40, h42, hl1, hl1']
              repeat apply WP.seq
              apply WP.region; simp [hl, h5, h6, build31, hap, hca14, hcall, extractA]
              repeat apply WP.seq
              apply WP.region; simp [hl, h0, h1, h5, guardA, hca15, hca16, hpl, hlf, hlenw, hsub, hsub2]
              repeat apply WP.seq
              apply WP.cond (t := false) (by simp [hl]) (by simp)
              intro _
              apply WP.skip; simp
              apply WP.region; simp [hl, h42, int_wrap (show x < 9223372036854775807 by omega)]
              refine ⟨want.length - (x + 1), by omega, h0, h1, h5, h6, h40, h41, (hkc''.trans (hk3.more (by simp))).trans hk4, x + 1, by omega, rfl, by simp, ages', fun a ha => ?_, _, hC4⟩
              have := haok' a ha
              omega
            · intro hge
              apply WP.exit
              simp
              repeat apply WP.seq
              apply WP.region; simp [hl]
              apply WP.ret
              simp [hl, resultsA, resultA, single]
          · refine ⟨by simp [hl], by simp [h0], by simp [h1], by simp [h5], by simp [h6], by simp [hl], by simp [hl], Keep.refl hkg.wf, 0, by omega, by omega, by simp [hl], [], -1, by simp, hC2⟩
      · refine ⟨by simp [hl], by simp [h0], by simp [h1], by simp [hl], by simp [hl], by simp [hl], hk2, 0, by omega, by omega, by simp [hl], hown⟩
  obtain ⟨_, h', h1, rfl⟩ := main
  exact ⟨h', h1⟩
end
end Go.Am
