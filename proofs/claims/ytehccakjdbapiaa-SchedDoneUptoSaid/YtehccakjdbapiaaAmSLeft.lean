/- A part of the proof by the abstract machine: SLeft. -/
import Derived.Test.YtehccakjdbapiaaAmSTurns
set_option linter.unusedSimpArgs false
namespace Go.Am
open Go.RowKit Go.Proofs

section
variable {ov : CallF}

theorem left_ok (o15 : ∀ a h, ov 15 a h = none) {h : Heap} {C : Nat} {picks ages : List Int} {bound last : Int} (hC : Ch h C picks bound ages last) :
    callT ov Try.prog 15 [.ptr (some ⟨C, 0⟩)] h = some (.ret (.int .i64 (picks.length : Nat)) h) := by
  have main : ∃ u g, callT ov Try.prog 15 [.ptr (some ⟨C, 0⟩)] h = some (.ret u g) ∧ u = .int .i64 (picks.length : Nat) ∧ g = h := by
    obtain ⟨pv, av, hg, hp, _⟩ := hC
    refine callT_wp (fn := Try.f15) (o15 _ _) (by kernel_rfl) rfl ?_
    have hl : (frameA Try.f15 [.ptr (some ⟨C, 0⟩)]).length = 8 := frameA_length (Nat.le_of_ble_eq_true rfl)
    have h0 : nth (frameA Try.f15 [.ptr (some ⟨C, 0⟩)]) 0 = .ptr (some ⟨C, 0⟩) := frameA_nth (Nat.le_of_ble_eq_true rfl)
    generalize frameA Try.f15 [.ptr (some ⟨C, 0⟩)] = e at hl h0
    have hlC0 : loadA Try.prog h 22 ⟨C, 0⟩ = some pv := load_cell a22 hg rfl
    apply WP.seq; apply WP.region; simp [hl]
    apply WP.seq; apply WP.region; simp [hl, h0, fa62, hlC0, hp.len u22]
    apply WP.ret
    simp [hl, resultsA, resultA, single]
  obtain ⟨_, _, h1, rfl, rfl⟩ := main
  exact h1

theorem place_ok (o16 : ∀ a h, ov 16 a h = none) {h : Heap} (p : Int) {n : Nat} (hn : 0 < n) (hn' : n ≤ 1000000000) :
    callT ov Try.prog 16 [.int .i64 p, .int .i64 n] h = some (.ret (.int .i64 (pickAt p n)) h) := by
  have main : ∃ u g, callT ov Try.prog 16 [.int .i64 p, .int .i64 n] h = some (.ret u g) ∧ u = .int .i64 (pickAt p n) ∧ g = h := by
    refine callT_wp (fn := Try.f16) (o16 _ _) (by kernel_rfl) rfl ?_
    have hl : (frameA Try.f16 [.int .i64 p, .int .i64 n]).length = 14 := frameA_length (Nat.le_of_ble_eq_true rfl)
    have h0 : nth (frameA Try.f16 [.int .i64 p, .int .i64 n]) 0 = .int .i64 p := frameA_nth (Nat.le_of_ble_eq_true rfl)
    have h1 : nth (frameA Try.f16 [.int .i64 p, .int .i64 n]) 1 = .int .i64 n := frameA_nth (Nat.le_of_ble_eq_true rfl)
    generalize frameA Try.f16 [.int .i64 p, .int .i64 n] = e at hl h0 h1
    have hne0 : ((n : Nat) : Int) ≠ 0 := by omega
    have hr := pickAt_range p hn
    apply WP.seq; apply WP.region; simp [hl]
    repeat apply WP.seq
    apply WP.region; simp [hl, h0, h1, bin_rem hne0]
    repeat apply WP.seq
    apply WP.region; simp [hl]
    repeat apply WP.seq
    apply WP.cond (by simp [hl]; rfl)
    · intro hq
      have hq : p.tmod n < 0 := by simpa using hq
      have hpa : pickAt p n = p.tmod n + n := by simp only [pickAt, if_pos hq]
      apply WP.region; simp [hl, h1, wrap_small (show -9223372036854775808 ≤ p.tmod n + n by omega) (by omega)]
      repeat apply WP.seq
      apply WP.region; simp [hl]
      apply WP.ret
      simp [hl, resultsA, resultA, single, hpa]
    · intro hq
      have hq : ¬ p.tmod n < 0 := by simpa using hq
      have hpa : pickAt p n = p.tmod n := by simp only [pickAt, if_neg hq]
      apply WP.skip; simp
      repeat apply WP.seq
      apply WP.region; simp [hl]
      apply WP.ret
      simp [hl, resultsA, resultA, single, hpa]
  obtain ⟨_, _, h1, rfl, rfl⟩ := main
  exact h1
end

/-! ### Picks that choose alone -/
theorem newAges_ok {ready : List Bool} {chosen : Int} {a0 : List Int} {M : Int} (hM : 0 ≤ M) (h : ∀ i, 0 ≤ at0 a0 i ∧ at0 a0 i ≤ M) : ∀ a ∈ newAges ready chosen a0, 0 ≤ a ∧ a ≤ M + 1 := by
  intro a ha
  simp only [newAges, List.mem_map, List.mem_range] at ha
  obtain ⟨j, _, rfl⟩ := ha
  have := h j
  unfold aged
  split <;> omega
theorem at0_le {xs : List Int} {M : Int} (hM : 0 ≤ M) (h : ∀ a ∈ xs, 0 ≤ a ∧ a ≤ M) (i : Nat) : 0 ≤ at0 xs i ∧ at0 xs i ≤ M := by
  by_cases hi : i < xs.length
  · exact h _ (List.mem_of_getElem? (at0_get hi))
  · simp [at0, hi, hM]
theorem agesFor_le {ages : List Int} {M : Int} (hM : 0 ≤ M) (h : ∀ a ∈ ages, 0 ≤ a ∧ a ≤ M) (n : Nat) : ∀ a ∈ agesFor ages n, 0 ≤ a ∧ a ≤ M := by
  intro a ha
  simp only [agesFor, List.mem_append, List.mem_replicate] at ha
  rcases ha with ha | ⟨_, rfl⟩
  · exact h a (List.mem_of_mem_take ha)
  · omega
theorem agesOf_le {ages : List Int} {who : List Nat} {M : Int} (hM : 0 ≤ M) (h : ∀ a ∈ ages, 0 ≤ a ∧ a ≤ M) : ∀ a ∈ agesOf ages who, 0 ≤ a ∧ a ≤ M := by
  intro a ha
  simp only [agesOf, List.mem_map] at ha
  obtain ⟨j, _, rfl⟩ := ha
  exact at0_le hM h j

theorem picks_next {n : Nat} (hn : 0 < n) {p : Int} {ps ages : List Int} {bound last M : Int} (hM : 0 ≤ M) (hb : M < bound) (ha : ∀ a ∈ ages, 0 ≤ a ∧ a ≤ M) :
    ∃ ages', (∀ a ∈ ages', 0 ≤ a ∧ a ≤ M + 1) ∧ nextP (p :: ps) bound ages last (List.replicate n true) = ⟨pickAt p n, ps, ages', pickAt p n⟩ := by
  have hwho : whoFrom (List.replicate n true) 0 = List.range' 0 n := whoFrom_all n 0
  have hne : List.range' 0 n ≠ [] := by simp; omega
  have hlen : (List.replicate n true).length = n := by simp
  have hr := pickAt_range p hn
  have hch : chooseP (p :: ps) bound (agesFor ages n) last (List.range' 0 n) = (pickAt p n, ps) := by
    have := (at0_le hM (agesOf_le (who := List.range' 0 n) hM (agesFor_le hM ha n)) (best (agesOf (agesFor ages n) (List.range' 0 n)) (List.range' 0 n).length)).2
    simp only [chooseP]
    rw [if_neg (by omega), List.length_range']
  obtain ⟨m, hm⟩ := Int.eq_ofNat_of_zero_le hr.1
  rw [hm] at hch hr ⊢
  have hml : m < n := by omega
  have hget : (List.range' 0 n).getD m 0 = m := by simp [List.getD_eq_getElem?_getD, hml]
  refine ⟨newAges (List.replicate n true) m (agesFor ages n), newAges_ok hM (at0_le hM (agesFor_le hM ha n)), ?_⟩
  simp only [nextP, hwho, if_neg hne, hlen, hch, Int.toNat_natCast, hget]
end Go.Am
