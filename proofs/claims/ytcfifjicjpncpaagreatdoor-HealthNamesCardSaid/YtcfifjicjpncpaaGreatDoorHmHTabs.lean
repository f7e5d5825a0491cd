/- The health seat: Tables, the program's and the document's. -/
import Derived.Test.YtcfifjicjpncpaaGreatDoorHmGRHWorst36
import Derived.Test.YtcfifjicjpncpaaGreatDoorHmAcc
set_option linter.all false
set_option linter.unusedSimpArgs false
noncomputable section
namespace Go.Am
open Go.RowKit Go.Proofs

def sN : AV := .str [110, 111, 100, 101, 115]
def sS : AV := .str [115, 101, 114, 118, 105, 99, 101, 115]
def sC : AV := .str [99, 104, 101, 99, 107, 115]
def want (k : Int) : List AV := if k = 1 then [sN] else if k = 2 then [sS] else if k = 5 then [sC] else if k = 3 ∨ k = 4 ∨ k = 6 then [sN, sS, sC] else []
def bits (k : Int) : List Bool := if k = 1 then [true, false, false] else if k = 2 then [false, true, false] else if k = 5 then [false, false, true] else if k = 3 ∨ k = 4 ∨ k = 6 then [true, true, true] else [false, false, false]
def bitsA (k : Int) : List AV := (bits k).map .bool
theorem u27 : Tryz.prog.underlying 27 = some (.slice 9) := by kernel_rfl
theorem sz9 : sizeA Tryz.prog 9 = some 1 := by kernel_rfl
theorem ag9 : aggA Tryz.prog 9 = some false := by kernel_rfl
theorem sz28 : sizeA Tryz.prog 28 = some 3 := by kernel_rfl
theorem ag28 : aggA Tryz.prog 28 = some true := by kernel_rfl
theorem sz26 : sizeA Tryz.prog 26 = some 3 := by kernel_rfl
theorem alloc28 {h : Heap} : allocA Tryz.prog h 28 = some (.ptr (some ⟨h.next, 0⟩), h.alloc (.cells [.bool false, .bool false, .bool false] (.var 28))) := by kernel_rfl
theorem alloc26 {h : Heap} : allocA Tryz.prog h 26 = some (.ptr (some ⟨h.next, 0⟩), h.alloc (.cells [.str [], .str [], .str []] (.var 26))) := by kernel_rfl
theorem build28 {a b c : Bool} : buildA Tryz.prog 28 [(0, .bool a), (1, .bool b), (2, .bool c)] = some (.agg [.bool a, .bool b, .bool c]) := by kernel_rfl
theorem build28n : buildA Tryz.prog 28 [] = some (.agg [.bool false, .bool false, .bool false]) := by kernel_rfl
theorem build27_0 {h : Heap} : buildSliceA Tryz.prog h 27 0 [] = some (.slice (some ⟨h.next, 0⟩) 0 (.exact 0), h.alloc (.cells [] (.own (some 9)))) := by kernel_rfl
theorem build27_1 {h : Heap} {a : List UInt8} : buildSliceA Tryz.prog h 27 1 [(0, .str a)] = some (.slice (some ⟨h.next, 0⟩) 1 (.exact 1), h.alloc (.cells [.str a] (.own (some 9)))) := by kernel_rfl
theorem build27_3 {h : Heap} {a b c : List UInt8} : buildSliceA Tryz.prog h 27 3 [(0, .str a), (1, .str b), (2, .str c)] = some (.slice (some ⟨h.next, 0⟩) 3 (.exact 3), h.alloc (.cells [.str a, .str b, .str c] (.own (some 9)))) := by kernel_rfl

theorem ev_str {P : Program} {e : List AV} {b : List UInt8} : evalA P e (.const (.string ⟨b.toArray⟩)) = .str b := by simp [evalA, ofValue, ofScalar]
attribute [simp] ev_str
/-- A slice of names in a block of its own (none where it is empty). -/
def Fresh (h g : Heap) (v : AV) (xs : List AV) : Prop := ∃ i c, h.next ≤ i ∧ ((xs = [] ∧ v = .slice none 0 c) ∨ (xs ≠ [] ∧ v = .slice (some ⟨i, 0⟩) xs.length c ∧ g.get i = some (.cells xs (.own (some 9)))))

section
variable {ov : CallF}

theorem tabs_ok (hov : ∀ a h, ov 9 a h = none) {h : Heap} (hw : Wf h) (k : Int) :
    ∃ v h', callT ov Tryz.prog 9 [.int .i64 k] h = some (.ret v h') ∧ Keep [] h h' ∧ Fresh h h' v (want k) := by
  refine callT_wp (fn := Tryz.f9) (hov _ _) (by kernel_rfl) rfl ?_
  have hl : (frameA Tryz.f9 [.int .i64 k]).length = 18 := frameA_length (Nat.le_of_ble_eq_true rfl)
  have h0 : nth (frameA Tryz.f9 [.int .i64 k]) 0 = .int .i64 k := frameA_nth (Nat.le_of_ble_eq_true rfl)
  generalize frameA Tryz.f9 [.int .i64 k] = e at hl h0
  have hK := Keep.refl (ex := []) hw
  repeat apply WP.seq
  apply WP.region; simp [hl]
  repeat apply WP.seq
  apply WP.region; simp [hl, h0]
  repeat apply WP.seq
  apply WP.block
  repeat apply WP.seq
  apply WP.region; simp [hl]
  repeat apply WP.seq
  apply WP.cond (by simp [hl]; rfl)
  · intro hc
    have hc : k = 1 := by simpa using hc
    subst hc
    repeat apply WP.seq
    apply WP.region; simp [hl, build27_1]
    apply WP.ret
    simp [hl, resultsA, resultA, single]
    exact ⟨hK.alloc _, h.next, _, Nat.le_refl _, .inr ⟨by simp [want], rfl, Heap.get_alloc _ _⟩⟩
  · intro hc
    have n1 : ¬ k = 1 := by simpa using hc
    repeat apply WP.seq
    apply WP.region; simp [hl]
    repeat apply WP.seq
    apply WP.cond (by simp [hl]; rfl)
    · intro hc
      have hc : k = 2 := by simpa using hc
      subst hc
      repeat apply WP.seq
      apply WP.region; simp [hl, build27_1]
      apply WP.ret
      simp [hl, resultsA, resultA, single]
      exact ⟨hK.alloc _, h.next, _, Nat.le_refl _, .inr ⟨by simp [want], rfl, Heap.get_alloc _ _⟩⟩
    · intro hc
      have n2 : ¬ k = 2 := by simpa using hc
      repeat apply WP.seq
      apply WP.region; simp [hl]
      repeat apply WP.seq
      apply WP.cond (by simp [hl]; rfl)
      · intro hc
        have hc : k = 5 := by simpa using hc
        subst hc
        repeat apply WP.seq
        apply WP.region; simp [hl, build27_1]
        apply WP.ret
        simp [hl, resultsA, resultA, single]
        exact ⟨hK.alloc _, h.next, _, Nat.le_refl _, .inr ⟨by simp [want], rfl, Heap.get_alloc _ _⟩⟩
      · intro hc
        have n5 : ¬ k = 5 := by simpa using hc
        by_cases n3 : k = 3
        · subst n3
          repeat apply WP.seq
          apply WP.region; simp [hl]
          repeat apply WP.seq
          apply WP.cond (by simp [hl]; rfl)
          · intro _
            apply WP.skip; simp
            repeat apply WP.seq
            apply WP.cond (by simp [hl]; rfl)
            · intro _
              repeat apply WP.seq
              apply WP.region; simp [hl, build27_3]
              apply WP.ret
              simp [hl, resultsA, resultA, single]
              exact ⟨hK.alloc _, h.next, _, Nat.le_refl _, .inr ⟨by simp [want], rfl, Heap.get_alloc _ _⟩⟩
            · intro hh; simp at hh
          · intro hh; simp at hh
        · repeat apply WP.seq
          apply WP.region; simp [hl, n3]
          repeat apply WP.seq
          apply WP.cond (by simp [hl]; rfl)
          · intro hh; simp [n3] at hh
          · intro _
            by_cases n4 : k = 4
            · subst n4
              repeat apply WP.seq
              apply WP.region; simp [hl]
              repeat apply WP.seq
              apply WP.cond (by simp [hl]; rfl)
              · intro _
                apply WP.skip; simp
                repeat apply WP.seq
                apply WP.cond (by simp [hl]; rfl)
                · intro _
                  repeat apply WP.seq
                  apply WP.region; simp [hl, build27_3]
                  apply WP.ret
                  simp [hl, resultsA, resultA, single]
                  exact ⟨hK.alloc _, h.next, _, Nat.le_refl _, .inr ⟨by simp [want], rfl, Heap.get_alloc _ _⟩⟩
                · intro hh; simp at hh
              · intro hh; simp at hh
            · repeat apply WP.seq
              apply WP.region; simp [hl, n4]
              repeat apply WP.seq
              apply WP.cond (by simp [hl]; rfl)
              · intro hh; simp [n4] at hh
              · intro _
                by_cases n6 : k = 6
                · subst n6
                  apply WP.region; simp [hl]
                  repeat apply WP.seq
                  apply WP.cond (by simp [hl]; rfl)
                  · intro _
                    repeat apply WP.seq
                    apply WP.region; simp [hl, build27_3]
                    apply WP.ret
                    simp [hl, resultsA, resultA, single]
                    exact ⟨hK.alloc _, h.next, _, Nat.le_refl _, .inr ⟨by simp [want], rfl, Heap.get_alloc _ _⟩⟩
                  · intro hh; simp at hh
                · apply WP.region; simp [hl, n6]
                  repeat apply WP.seq
                  apply WP.cond (by simp [hl]; rfl)
                  · intro hh; simp [n6] at hh
                  · intro _
                    apply WP.skip; simp
                    repeat apply WP.seq
                    apply WP.region; simp [hl]
                    apply WP.ret
                    simp [hl, resultsA, resultA, single]
                    exact ⟨hK, h.next, _, Nat.le_refl _, .inl ⟨by simp [want, n1, n2, n3, n4, n5, n6], rfl⟩⟩
theorem bits_ok (hov : ∀ a h, ov 8 a h = none) {h : Heap} (hw : Wf h) (k : Int) :
    ∃ h', callT ov Tryz.prog 8 [.int .i64 k] h = some (.ret (.agg (bitsA k)) h') ∧ Keep [] h h' := by
  have main : ∃ u g, callT ov Tryz.prog 8 [.int .i64 k] h = some (.ret u g) ∧ u = .agg (bitsA k) ∧ Keep [] h g := by
    refine callT_wp (fn := Tryz.f8) (hov _ _) (by kernel_rfl) rfl ?_
    have hl : (frameA Tryz.f8 [.int .i64 k]).length = 19 := frameA_length (Nat.le_of_ble_eq_true rfl)
    have h0 : nth (frameA Tryz.f8 [.int .i64 k]) 0 = .int .i64 k := frameA_nth (Nat.le_of_ble_eq_true rfl)
    generalize frameA Tryz.f8 [.int .i64 k] = e at hl h0
    have hK := Keep.refl (ex := []) hw
    have hg0 : (h.alloc (.cells [.bool false, .bool false, .bool false] (.var 28))).get h.next = some (.cells [.bool false, .bool false, .bool false] (.var 28)) := Heap.get_alloc _ _
    have st : ∀ {a b c : Bool}, storeA Tryz.prog (h.alloc (.cells [.bool false, .bool false, .bool false] (.var 28))) 28 ⟨h.next, 0⟩ (.agg [.bool a, .bool b, .bool c]) = some ((h.alloc (.cells [.bool false, .bool false, .bool false] (.var 28))).set h.next (.cells [.bool a, .bool b, .bool c] (.var 28))) := fun {a b c} => store_agg sz28 hg0 (by simp) rfl rfl (by simp [cellsOk, cellOk])
    have ld : ∀ {a b c : Bool}, loadA Tryz.prog ((h.alloc (.cells [.bool false, .bool false, .bool false] (.var 28))).set h.next (.cells [.bool a, .bool b, .bool c] (.var 28))) 28 ⟨h.next, 0⟩ = some (.agg [.bool a, .bool b, .bool c]) := fun {a b c} => load_agg ag28 sz28 (Heap.get_set _ _ _) (by simp)
    repeat apply WP.seq
    apply WP.region; simp [hl, alloc28]
    repeat apply WP.seq
    apply WP.region; simp [hl, h0]
    repeat apply WP.seq
    apply WP.block
    repeat apply WP.seq
    apply WP.region; simp [hl]
    repeat apply WP.seq
    apply WP.cond (by simp [hl]; rfl)
    · intro hc
      have hc : k = 1 := by simpa using hc
      subst hc
      repeat apply WP.seq
      apply WP.region; simp [hl, build28, storeR_ptr (st (a := true) (b := false) (c := false))]
      apply WP.ret
      simp [hl, resultsA, resultA, single]
      rw [ld]
      simp [bitsA, bits]
      exact (hK.alloc _).set _ (by simp [Heap.next_alloc]) (.inr (Nat.le_refl _))
    · intro hc
      have n1 : ¬ k = 1 := by simpa using hc
      repeat apply WP.seq
      apply WP.region; simp [hl]
      repeat apply WP.seq
      apply WP.cond (by simp [hl]; rfl)
      · intro hc
        have hc : k = 2 := by simpa using hc
        subst hc
        repeat apply WP.seq
        apply WP.region; simp [hl, build28, storeR_ptr (st (a := false) (b := true) (c := false))]
        apply WP.ret
        simp [hl, resultsA, resultA, single]
        rw [ld]
        simp [bitsA, bits]
        exact (hK.alloc _).set _ (by simp [Heap.next_alloc]) (.inr (Nat.le_refl _))
      · intro hc
        have n2 : ¬ k = 2 := by simpa using hc
        repeat apply WP.seq
        apply WP.region; simp [hl]
        repeat apply WP.seq
        apply WP.cond (by simp [hl]; rfl)
        · intro hc
          have hc : k = 5 := by simpa using hc
          subst hc
          repeat apply WP.seq
          apply WP.region; simp [hl, build28, storeR_ptr (st (a := false) (b := false) (c := true))]
          apply WP.ret
          simp [hl, resultsA, resultA, single]
          rw [ld]
          simp [bitsA, bits]
          exact (hK.alloc _).set _ (by simp [Heap.next_alloc]) (.inr (Nat.le_refl _))
        · intro hc
          have n5 : ¬ k = 5 := by simpa using hc
          by_cases n3 : k = 3
          · subst n3
            repeat apply WP.seq
            apply WP.region; simp [hl]
            repeat apply WP.seq
            apply WP.cond (by simp [hl]; rfl)
            · intro _
              apply WP.skip; simp
              repeat apply WP.seq
              apply WP.cond (by simp [hl]; rfl)
              · intro _
                repeat apply WP.seq
                apply WP.region; simp [hl, build28, storeR_ptr (st (a := true) (b := true) (c := true))]
                apply WP.ret
                simp [hl, resultsA, resultA, single]
                rw [ld]
                simp [bitsA, bits]
                exact (hK.alloc _).set _ (by simp [Heap.next_alloc]) (.inr (Nat.le_refl _))
              · intro hh; simp at hh
            · intro hh; simp at hh
          · repeat apply WP.seq
            apply WP.region; simp [hl, n3]
            repeat apply WP.seq
            apply WP.cond (by simp [hl]; rfl)
            · intro hh; simp [n3] at hh
            · intro _
              by_cases n4 : k = 4
              · subst n4
                repeat apply WP.seq
                apply WP.region; simp [hl]
                repeat apply WP.seq
                apply WP.cond (by simp [hl]; rfl)
                · intro _
                  apply WP.skip; simp
                  repeat apply WP.seq
                  apply WP.cond (by simp [hl]; rfl)
                  · intro _
                    repeat apply WP.seq
                    apply WP.region; simp [hl, build28, storeR_ptr (st (a := true) (b := true) (c := true))]
                    apply WP.ret
                    simp [hl, resultsA, resultA, single]
                    rw [ld]
                    simp [bitsA, bits]
                    exact (hK.alloc _).set _ (by simp [Heap.next_alloc]) (.inr (Nat.le_refl _))
                  · intro hh; simp at hh
                · intro hh; simp at hh
              · repeat apply WP.seq
                apply WP.region; simp [hl, n4]
                repeat apply WP.seq
                apply WP.cond (by simp [hl]; rfl)
                · intro hh; simp [n4] at hh
                · intro _
                  by_cases n6 : k = 6
                  · subst n6
                    apply WP.region; simp [hl]
                    repeat apply WP.seq
                    apply WP.cond (by simp [hl]; rfl)
                    · intro _
                      repeat apply WP.seq
                      apply WP.region; simp [hl, build28, storeR_ptr (st (a := true) (b := true) (c := true))]
                      apply WP.ret
                      simp [hl, resultsA, resultA, single]
                      rw [ld]
                      simp [bitsA, bits]
                      exact (hK.alloc _).set _ (by simp [Heap.next_alloc]) (.inr (Nat.le_refl _))
                    · intro hh; simp at hh
                  · apply WP.region; simp [hl, n6]
                    repeat apply WP.seq
                    apply WP.cond (by simp [hl]; rfl)
                    · intro hh; simp [n6] at hh
                    · intro _
                      apply WP.skip; simp
                      repeat apply WP.seq
                      apply WP.region; simp [hl, build28n, storeR_ptr (st (a := false) (b := false) (c := false))]
                      apply WP.ret
                      simp [hl, resultsA, resultA, single]
                      rw [ld]
                      simp [bitsA, bits, n1, n2, n3, n4, n5, n6]
                      exact (hK.alloc _).set _ (by simp [Heap.next_alloc]) (.inr (Nat.le_refl _))
  obtain ⟨_, g, h1, rfl, h2⟩ := main
  exact ⟨g, h1, h2⟩
end
end Go.Am
