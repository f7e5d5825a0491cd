/- The document's sets. -/
import Derived.Test.YtobgmjljbdehnaaAmWFirst
import Derived.Test.YtobgmjljbdehnaaAmDyn
set_option linter.unusedSimpArgs false
namespace Go.Am
open Go.RowKit Go.Proofs

attribute [simp] trace_nil trace_cons trace_guard tstep_ret tstep_none tguard_true tguard_false tcons_some TW_some sameV_load' pairsOk beqV_refl

def refAddP (mem : List Int) (most w : Int) : Bool × List Int :=
  if w < 0 then (false, mem) else if 0 ≤ firstT (mem.map fun x => decide (x = w)) 0 then (true, mem) else if most ≤ (mem.length : Int) then (false, mem) else (true, mem ++ [w])

theorem i3 : Try.prog.info? 3 = some Try.t3 := by kernel_rfl
theorem room3 {n : Nat} (hn : n ≤ 1000000000) : roomA Try.prog 3 n = true := room_of i3 (b := 8) (by kernel_rfl) (by omega) (by omega) (z := .int .i64 0) (by kernel_rfl) (by kernel_rfl) (by kernel_rfl)
theorem s39 : sizeA Try.prog 39 = some 2 := by kernel_rfl
theorem a39 : aggA Try.prog 39 = some true := by kernel_rfl
theorem a37 : aggA Try.prog 37 = some false := by kernel_rfl
theorem fa39 {l : Loc} : fieldAddrA Try.prog 39 (.ptr (some l)) 0 = some (.ptr (some ⟨l.id, l.off + 0⟩)) ∧ fieldAddrA Try.prog 39 (.ptr (some l)) 1 = some (.ptr (some ⟨l.id, l.off + 1⟩)) := by
  refine ⟨?_, ?_⟩ <;> kernel_rfl
theorem alloc39 {h : Heap} : allocA Try.prog h 39 = some (.ptr (some ⟨h.next, 0⟩), h.alloc (.cells [.int .i64 0, .slice none 0 (.exact 0)] .own)) := by kernel_rfl
theorem build39 {l : Option Loc} {n : Nat} {c : Cap} {k : IntKind} {b : Int} : buildA Try.prog 39 [(0, .int k b), (1, .slice l n c)] = some (.agg [.int k b, .slice l n c]) := by kernel_rfl
theorem build39_0 {k : IntKind} {b : Int} : buildA Try.prog 39 [(0, .int k b)] = some (.agg [.int k b, .slice none 0 (.exact 0)]) := by kernel_rfl
theorem build37 {h : Heap} : buildSliceA Try.prog h 37 0 [] = some (.slice (some ⟨h.next, 0⟩) 0 (.exact 0), h.alloc (.cells [] .own)) := by kernel_rfl
theorem build37_1 {h : Heap} {k : IntKind} {n : Int} : buildSliceA Try.prog h 37 1 [(0, .int k n)] = some (.slice (some ⟨h.next, 0⟩) 1 (.exact 1), h.alloc (.cells [.int k n] .own)) := by kernel_rfl

theorem box2 {h : Heap} (hw : Wf h) (cs : List AV) : ∃ B g, boxA h (.agg cs) = some (.ptr (some ⟨B, 0⟩), g) ∧ g.get B = some (.cells cs .own) ∧ Keep [] h g ∧ h.next ≤ B ∧ B < g.next :=
  ⟨h.next, _, box_agg rfl, Heap.get_alloc _ _, (Keep.refl hw).alloc _, Nat.le_refl _, ((Keep.refl (ex := []) hw).alloc _).wf _ _ (Heap.get_alloc _ _)⟩

/-- A copy in new memory, to be grown. -/
theorem Sl.cloneAcc {P : Program} {h : Heap} {v : AV} {xs : List AV} (hs : Sl h v xs) (hw : Wf h) {t el : TypeId} (hu : P.underlying t = some (.slice el)) (h1 : sizeA P el = some 1) (hroom : xs ≠ [] → roomA P el xs.length = true) (hok : cellsOk xs = true) :
    ∃ v' h', appendA P (h.alloc (.cells [] .own)) t t (.slice (some ⟨h.next, 0⟩) 0 (.exact 0)) v = some (v', h') ∧ Acc 0 h' v' xs ∧ (∀ j, idOf v' = some j → h.next ≤ j) ∧ Keep [] h h' := by
  have hk0 := Keep.refl (ex := []) hw
  have hk := hk0.alloc (.cells [] .own)
  have hs' : Sl (h.alloc (.cells [] .own)) v xs := hs.keep hk (by simp)
  have hsrc := hs'.src (P := P) hu hok
  cases hn : xs.length with
  | zero =>
    have hxs : xs = [] := List.length_eq_zero_iff.1 hn
    subst hxs
    refine ⟨_, _, ?_, Acc.empty (Nat.zero_le _) (Heap.get_alloc _ _), by simp [idOf], hk⟩
    simp only [appendA, hu, h1, hsrc, List.length_nil]
  | succ n =>
    have hne : xs ≠ [] := by intro h; simp [h] at hn
    rw [hn] at hsrc hroom
    refine ⟨.slice (some ⟨h.next + 1, 0⟩) (n + 1) (.tip 1), (h.alloc (.cells [] .own)).alloc (.cells xs .own), ?_, .inr ⟨h.next + 1, Nat.zero_le _, hne, by rw [hn], ?_⟩, ?_, hk.alloc (.cells xs .own)⟩
    · have hb : Nat.ble (0 + (n + 1)) 0 = false := by simp [Nat.ble]
      have hr : roomA P el (0 + (n + 1)) = true := by rw [Nat.zero_add]; exact hroom hne
      simp only [appendA, hu, h1, hsrc, hr, cond_true, hb, cond_false]
      have hread : readA (h.alloc (.cells [] .own)) ⟨h.next, 0⟩ (0 * 1) = some [] := by
        simp [readA, Heap.get_alloc, Nat.ble]
      simp only [hread, Heap.next_alloc, List.nil_append, Nat.zero_add]
    · have := Heap.get_alloc (h.alloc (.cells [] .own)) (.cells xs .own)
      simpa [Heap.next_alloc] using this
    · intro j hj
      simp only [idOf, Option.some.injEq] at hj
      omega

set_option maxHeartbeats 1000000 in
theorem refAdd_ok {h : Heap} (hw : Wf h) {hv : AV} {mem : List Int} {most : Int} (hs : Sl h hv (ints mem)) (hn : mem.length ≤ 100000000) (w : Int) :
    ∃ hv' h', callT ov1 Try.prog 16 [.agg [.int .i64 most, hv], .int .i64 w] h = some (.ret (.tuple [.agg [.int .i64 most, hv'], .bool (refAddP mem most w).1]) h') ∧ Sl h' hv' (ints (refAddP mem most w).2) ∧ Keep [] h h' ∧ (hv' = hv ∨ ∀ j, idOf hv' = some j → h.next ≤ j) := by
  have main : ∃ u h', callT ov1 Try.prog 16 [.agg [.int .i64 most, hv], .int .i64 w] h = some (.ret u h') ∧ ∃ hv', u = .tuple [.agg [.int .i64 most, hv'], .bool (refAddP mem most w).1] ∧ Sl h' hv' (ints (refAddP mem most w).2) ∧ Keep [] h h' ∧ (hv' = hv ∨ ∀ j, idOf hv' = some j → h.next ≤ j) := by
    refine callT_wp (fn := Try.f16) (ov1_none rfl (by decide) (by decide) _ _) (by kernel_rfl) rfl ?_
    have hl : (frameA Try.f16 [.agg [.int .i64 most, hv], .int .i64 w]).length = 43 := frameA_length (Nat.le_of_ble_eq_true rfl)
    have h0 : nth (frameA Try.f16 [.agg [.int .i64 most, hv], .int .i64 w]) 0 = .agg [.int .i64 most, hv] := frameA_nth (Nat.le_of_ble_eq_true rfl)
    have h1 : nth (frameA Try.f16 [.agg [.int .i64 most, hv], .int .i64 w]) 1 = .int .i64 w := frameA_nth (Nat.le_of_ble_eq_true rfl)
    generalize frameA Try.f16 [.agg [.int .i64 most, hv], .int .i64 w] = e at hl h0 h1
    obtain ⟨B, g1, hbx, hg1, hk1, hB, hB1⟩ := box2 hw [.int .i64 most, hv]
    have hal := alloc39 (h := g1)
    have hk2 := (Keep.refl (ex := []) hk1.wf).alloc (.cells [.int .i64 0, .slice none 0 (.exact 0)] .own)
    have hg2 := Heap.get_alloc g1 (.cells [.int .i64 0, .slice none 0 (.exact 0)] .own)
    generalize g1.alloc (.cells [.int .i64 0, .slice none 0 (.exact 0)] .own) = g2 at hal hk2 hg2
    have hDg := hk2.wf _ _ hg2
    obtain ⟨D, hD⟩ : ∃ D, D = g1.next := ⟨_, rfl⟩
    rw [← hD] at hal hg2 hDg
    have hgB := hk2.get _ _ hg1 (by simp)
    have hk1l := hk1.le
    have hkh2 := hk1.trans hk2
    have hs2 := hs.keep hkh2 (by simp)
    have hok := sl_cellOk hs
    have hldB := load_whole (P := Try.prog) a39 s39 hgB rfl
    have hst0 : storeA Try.prog g2 39 ⟨D, 0⟩ (.agg [.int .i64 most, hv]) = some (g2.set D (.cells [.int .i64 most, hv] .own)) := store_whole s39 hg2 rfl rfl (by simp only [cellsOk, hok]; rfl)
    have hk3 := hkh2.set (i := D) (.cells [.int .i64 most, hv] .own) hDg (.inr (by omega))
    have hg3 := Heap.get_set g2 D (.cells [.int .i64 most, hv] .own)
    have hs3 : Sl (g2.set D (.cells [.int .i64 most, hv] .own)) hv (ints mem) := hs.keep hk3 (by simp)
    generalize g2.set D (.cells [.int .i64 most, hv] .own) = g3 at hst0 hk3 hg3 hs3
    have hld3 := load_whole (P := Try.prog) a39 s39 hg3 rfl
    have hlB0 : loadA Try.prog g2 3 ⟨B, 0⟩ = some (.int .i64 most) := load_cell a3 hgB rfl
    have hlB1 : loadA Try.prog g2 37 ⟨B, 1⟩ = some hv := load_cell a37 hgB rfl
    have hln : ∀ h, lenA Try.prog h 37 hv = some (.int .i64 (mem.length : Nat)) := by
      intro h; obtain ⟨l, c, rfl⟩ := hs.slice; simpa using lenA_slice (P := Try.prog) u37
    repeat apply WP.seq
    apply WP.region; simp [hl, h0, hbx, hal]
    repeat apply WP.seq
    apply WP.region; simp [hl, h1]
    repeat apply WP.seq
    apply WP.cond (by simp [hl]; rfl)
    · intro hc
      have hc : w < 0 := by simpa using hc
      have hp : refAddP mem most w = (false, mem) := by simp only [refAddP, if_pos hc]
      rw [hp]
      repeat apply WP.seq
      apply WP.region; simp [hl, hldB, storeR_ptr hst0]
      apply WP.ret
      simp [hl, resultsA, resultA, single, hld3]
      exact ⟨hs3, hk3⟩
    · intro hc
      have hc : ¬ w < 0 := by simpa using hc
      apply WP.skip; simp
      repeat apply WP.seq
      apply WP.region; simp [hl, fa39, hlB1, hln]
      repeat apply WP.seq
      apply WP.block
      refine WP.loop (fun k e g => g2 = g ∧ e.length = 43 ∧ nth e 1 = .int .i64 w ∧ nth e 2 = .ptr (some ⟨B, 0⟩) ∧ nth e 4 = .ptr (some ⟨D, 0⟩) ∧ nth e 13 = hv ∧ nth e 14 = .int .i64 mem.length ∧ ∃ i, i ≤ mem.length ∧ k = mem.length - i ∧ nth e 15 = .int .i64 (i : Nat) ∧ firstT (mem.map fun x => decide (x = w)) 0 = firstT ((mem.map fun x => decide (x = w)).drop i) i) ?_ mem.length _ _ ?_
      · clear hl h0 h1
        rintro k e _ ⟨rfl, hl, h1, h2, h4, h13, h14, i, hi, rfl, h15, hinv⟩
        repeat apply WP.seq
        apply WP.region; simp [hl, h14, h15]
        repeat apply WP.seq
        apply WP.cond (by simp [hl]; rfl)
        · intro hlt1
          have hlt1 : i < mem.length := by simpa using hlt1
          apply WP.skip; simp
          repeat apply WP.seq
          apply WP.block
          repeat apply WP.seq
          have hmi : mem[i]? = some mem[i] := List.getElem?_eq_getElem hlt1
          generalize mem[i] = m at hmi
          obtain ⟨l1, hl1, hl1', _⟩ := hs2.at (P := Try.prog) u37 s3 a3 (ints_get hmi) (k := .i64)
          rw [firstT_drop (b := decide (m = w)) (by simp [hmi])] at hinv
          apply WP.region; simp [hl, h13, h15, hl1, hl1']
          repeat apply WP.seq
          apply WP.region; simp [hl, h1]
          repeat apply WP.seq
          apply WP.cond (t := (m == w)) (by simp [hl])
          · intro hc2
            have hmw : m = w := by simpa using hc2
            rw [decide_eq_true hmw] at hinv
            simp only [if_true] at hinv
            have hp : refAddP mem most w = (true, mem) := by simp only [refAddP, if_neg hc, hinv]; rw [if_pos (by omega)]
            rw [hp]
            repeat apply WP.seq
            apply WP.region; simp [hl, h2, h4, hldB, storeR_ptr hst0]
            apply WP.ret
            simp [hl, h4, resultsA, resultA, single, hld3]
            exact ⟨hs3, hk3⟩
          · intro hc2
            have hmw : ¬ m = w := by simpa using hc2
            rw [decide_eq_false hmw] at hinv
            simp only [Bool.false_eq_true, if_false] at hinv
            apply WP.skip; simp
            apply WP.region; simp [hl, h15, int_wrap (show i < 9223372036854775807 by omega)]
            exact ⟨mem.length - (i + 1), by omega, h1, h2, h4, h13, h14, i + 1, by omega, rfl, by simp, hinv⟩
        · intro hge
          have hge : ¬ i < mem.length := by simpa using hge
          apply WP.exit
          simp
          rw [List.drop_eq_nil_of_le (by simp; omega)] at hinv
          simp only [firstT] at hinv
          repeat apply WP.seq
          apply WP.region; simp [hl, h2, fa39, hlB0, hlB1, hln]
          repeat apply WP.seq
          apply WP.cond (by simp [hl]; rfl)
          · intro hc2
            have hc2 : most ≤ (mem.length : Int) := by simpa using hc2
            have hp : refAddP mem most w = (false, mem) := by simp only [refAddP, if_neg hc, hinv]; rw [if_neg (by omega), if_pos hc2]
            rw [hp]
            repeat apply WP.seq
            apply WP.region; simp [hl, h2, h4, hldB, storeR_ptr hst0]
            apply WP.ret
            simp [hl, h4, resultsA, resultA, single, hld3]
            exact ⟨hs3, hk3⟩
          · intro hc2
            have hc2 : ¬ most ≤ (mem.length : Int) := by simpa using hc2
            have hp : refAddP mem most w = (true, mem ++ [w]) := by simp only [refAddP, if_neg hc, hinv]; rw [if_neg (by omega), if_neg hc2]
            rw [hp]
            -- the copy
            have hgB' : (g2.alloc (.cells [] .own)).get B = _ := ((Keep.refl (ex := []) hk2.wf).alloc (.cells [] .own)).get _ _ hgB (by simp)
            have hlB1' : loadA Try.prog (g2.alloc (.cells [] .own)) 37 ⟨B, 1⟩ = some hv := load_cell a37 hgB' rfl
            obtain ⟨v4, g4, hap4, hacc4, hid4, hk4⟩ := hs2.cloneAcc (P := Try.prog) hk2.wf u37 s3 (fun _ => room3 (by simp; omega)) ints_ok
            have hk4l := hk4.le
            have hk2l := hk2.le
            have hbs5 := build37_1 (h := g4) (k := .i64) (n := w)
            have hk5 := (Keep.refl (ex := []) hk4.wf).alloc (.cells [.int .i64 w] .own)
            have hg5 := Heap.get_alloc g4 (.cells [.int .i64 w] .own)
            generalize g4.alloc (.cells [.int .i64 w] .own) = g5 at hbs5 hk5 hg5
            have hk5l := hk5.le
            obtain ⟨v6, g6, hap6, hacc6, hk6, hid6⟩ := (hacc4.keep2 hk5 (by simp)).pushX (P := Try.prog) (ex := (idOf v4).toList) hk5.wf (by simp) (Nat.zero_le _) u37 s3 (room3 (by simp; omega)) (x := .int .i64 w) (y := .slice (some ⟨g4.next, 0⟩) 1 (.exact 1)) ⟨⟨rfl, by simp [capOk]⟩, .inr ⟨_, .own, hg5, by simp, rfl⟩⟩ rfl
            have hmem : ∀ j, j ∈ (idOf v4).toList → g2.next ≤ j := fun j hj => hid4 j (by simpa using hj)
            have hk26 : Keep [] g2 g6 := ((hk4.trans hk5).more (ex' := (idOf v4).toList) (by simp)).trans hk6 |>.more (fun j hj => .inr (hmem j hj))
            have hgB4 := hk4.get _ _ hgB (by simp)
            have hgB5 := hk5.get _ _ hgB4 (by simp)
            have hgB6 := hk26.get _ _ hgB (by simp)
            have hgD6 := hk26.get _ _ hg2 (by simp)
            have hm4 : loadA Try.prog g4 3 ⟨B, 0⟩ = some (.int .i64 most) := load_cell a3 hgB4 rfl
            have hm5 : loadA Try.prog g5 3 ⟨B, 0⟩ = some (.int .i64 most) := load_cell a3 hgB5 rfl
            have hm6 : loadA Try.prog g6 3 ⟨B, 0⟩ = some (.int .i64 most) := load_cell a3 hgB6 rfl
            obtain ⟨dl, dc, hvs⟩ := hacc6.sl.slice
            have hok6 := sl_cellOk hacc6.sl
            have hst6 : storeA Try.prog g6 39 ⟨D, 0⟩ (.agg [.int .i64 most, v6]) = some (g6.set D (.cells [.int .i64 most, v6] .own)) := store_whole s39 hgD6 rfl rfl (by simp only [cellsOk, hok6]; rfl)
            have hk26l := hk26.le
            have hk7 := (hkh2.trans hk26).set (i := D) (.cells [.int .i64 most, v6] .own) (by omega) (.inr (by omega))
            have hg7 := Heap.get_set g6 D (.cells [.int .i64 most, v6] .own)
            have hkD : Keep [D] g6 (g6.set D (.cells [.int .i64 most, v6] .own)) := (Keep.refl hk26.wf).set _ (by omega) (.inl (by simp))
            have hs7 := hacc6.sl.keep hkD (fun j hj hm => by
              have := hid6 j hj
              simp only [List.mem_singleton] at hm
              omega)
            generalize g6.set D (.cells [.int .i64 most, v6] .own) = g7 at hst6 hk7 hg7 hs7
            have hld7 := load_whole (P := Try.prog) a39 s39 hg7 rfl
            have hb39 : buildA Try.prog 39 [(0, .int .i64 most), (1, v6)] = some (.agg [.int .i64 most, v6]) := by rw [hvs]; exact build39
            have hints : ints mem ++ [.int .i64 w] = ints (mem ++ [w]) := by simp [ints]
            rw [hints] at hs7
            apply WP.skip; simp
            repeat apply WP.seq
            apply WP.region; simp [hl, build37]
            repeat apply WP.seq
            apply WP.region; simp [hl, h2, fa39, hlB1', hap4]
            repeat apply WP.seq
            refine WP.drawDyn (by kernel_rfl) (dynOk_tw (pl := [(1, 4), (1, 5), (1, 7)]) (by kernel_rfl) ?_) ?_
            · simp [hl, h1, h2, h4, fa39, hm4, hm5, hm6, hbs5, hap6, hb39, storeR_ptr hst6, loadSame]
            · simp [hl, h1, h2, h4, fa39, hm4, hm5, hm6, hbs5, hap6, hb39, storeR_ptr hst6]
              apply WP.ret
              simp [hl, h4, resultsA, resultA, single, hld7]
              exact ⟨hs7, hk7, .inr fun j hj => by have := hid6 j hj; omega⟩
      · exact ⟨rfl, by simp [hl], by simp [hl, h1], by simp [hl], by simp [hl], by simp [hl], by simp [hl], 0, by omega, by omega, by simp [hl], rfl⟩
  obtain ⟨_, h', h1, hv', rfl, h2⟩ := main
  exact ⟨hv', h', h1, h2⟩
end Go.Am
