/- A part of the proof by the abstract machine: SAge. -/
import Derived.Test.YtehccakjdbapiaaAmSRef
set_option linter.unusedSimpArgs false
namespace Go.Am
open Go.RowKit Go.Proofs

theorem hist_take {cs : List (AV × List Bool × Int)} {k : Nat} {x : AV × List Bool × Int} (h : cs[k]? = some x) : hist (cs.take (k + 1)) = x.2 :: hist (cs.take k) := by
  rw [List.take_add_one, h]
  simp [hist]
theorem hist_length (cs : List (AV × List Bool × Int)) : (hist cs).length = cs.length := by simp [hist]

section
variable {ov : CallF}

set_option maxHeartbeats 4000000 in
theorem age_ok (o26 : ∀ a h, ov 26 a h = none) {h : Heap} (hw : Wf h) {pv : AV} {b : Int} {cv : AV} {cs : List (AV × List Bool × Int)} (hc : CallsAt h cv cs) (hn : cs.length ≤ 1000000000) (a : Nat) :
    ∃ h', callT ov Try.prog 26 [.agg [pv, .int .i64 b, cv], .int .i64 a] h = some (.ret (.int .i64 (ageR (hist cs) a : Nat)) h') ∧ Keep [] h h' := by
  have main : ∃ u h', callT ov Try.prog 26 [.agg [pv, .int .i64 b, cv], .int .i64 a] h = some (.ret u h') ∧ u = .int .i64 (ageR (hist cs) a : Nat) ∧ Keep [] h h' := by
    refine callT_wp (fn := Try.f26) (o26 _ _) (by kernel_rfl) rfl ?_
    have hl : (frameA Try.f26 [.agg [pv, .int .i64 b, cv], .int .i64 a]).length = 44 := frameA_length (Nat.le_of_ble_eq_true rfl)
    have h0 : nth (frameA Try.f26 [.agg [pv, .int .i64 b, cv], .int .i64 a]) 0 = .agg [pv, .int .i64 b, cv] := frameA_nth (Nat.le_of_ble_eq_true rfl)
    have h1 : nth (frameA Try.f26 [.agg [pv, .int .i64 b, cv], .int .i64 a]) 1 = .int .i64 a := frameA_nth (Nat.le_of_ble_eq_true rfl)
    generalize frameA Try.f26 [.agg [pv, .int .i64 b, cv], .int .i64 a] = e at hl h0 h1
    have hrl := rowsOf_length cs
    have hk := (Keep.refl (ex := []) hw).alloc (.cells [pv, .int .i64 b, cv] .own)
    have hg : (h.alloc (.cells [pv, .int .i64 b, cv] .own)).get h.next = _ := Heap.get_alloc _ _
    have hbox : boxA h (.agg [pv, .int .i64 b, cv]) = some (.ptr (some ⟨h.next, 0⟩), h.alloc (.cells [pv, .int .i64 b, cv] .own)) := rfl
    generalize h.alloc (.cells [pv, .int .i64 b, cv] .own) = g at hk hg hbox
    generalize h.next = B at hg hbox
    have hlenc : ∀ h', lenA Try.prog h' 27 cv = some (.int .i64 (cs.length : Nat)) := by
      intro h'; rw [← hrl]; exact hc.1.len (P := Try.prog) h' u27
    have hld := load_cell (P := Try.prog) a27 hg (o := 2) (v := cv) rfl
    have hw1 : IntKind.wrap .i64 ((cs.length : Int) - 1) = (cs.length : Int) - 1 := wrap_small (by omega) (by omega)
    repeat apply WP.seq
    apply WP.region; simp [hl, h0, hbox]
    repeat apply WP.seq
    apply WP.region; simp [hl]
    repeat apply WP.seq
    apply WP.region; simp [hl, fa29, hld, hlenc, hw1]
    repeat apply WP.seq
    apply WP.block
    refine WP.loop (fun m e g' => e.length = 44 ∧ nth e 1 = .int .i64 a ∧ nth e 2 = .ptr (some ⟨B, 0⟩) ∧ Keep [] g g' ∧ ∃ k, k ≤ cs.length ∧ m = k ∧ nth e 6 = .int .i64 ((k : Int) - 1) ∧ nth e 5 = .int .i64 ((cs.length - k : Nat) : Int) ∧ ageR (hist cs) a = cs.length - k + ageR (hist (cs.take k)) a) ?_ cs.length _ _ ?_
    · rintro m e g' ⟨hl, h1, h2, hk', k, hkl, rfl, h6, h5, hage⟩
      repeat apply WP.seq
      apply WP.region; simp [hl, h6]
      repeat apply WP.seq
      apply WP.cond (by simp [hl]; rfl)
      · intro hpos
        have hpos : 1 ≤ m := by
          have : (0 : Int) ≤ (m : Int) - 1 := by simpa using hpos
          omega
        obtain ⟨k, rfl⟩ : ∃ k, m = k + 1 := ⟨m - 1, by omega⟩
        have hki : ((k + 1 : Nat) : Int) - 1 = (k : Int) := by omega
        rw [hki] at h6
        obtain ⟨⟨rv, r, c⟩, hx⟩ : ∃ x, cs[k]? = some x := ⟨cs[k], by simp [show k < cs.length by omega]⟩
        rw [hist_take hx] at hage
        simp only [ageR] at hage
        have hrow : (rowsOf cs)[k]? = some [rv, .int .i64 c] := by simp [rowsOf, hx]
        have hcg : CallsAt g' cv cs := ⟨hc.1.keep' (hk.trans hk') (by simp), fun x hx => (hc.2 x hx).keep (hk.trans hk') (by simp)⟩
        obtain ⟨l1, hl1, hl1', _⟩ := hcg.1.at (P := Try.prog) u27 s65 a65 hrow (k := .i64)
        have hld' := load_cell (P := Try.prog) a27 (hk'.get _ _ hg (by simp)) (o := 2) (v := cv) rfl
        have hsr : Sl g' rv (bools r) := hcg.2 _ (List.mem_of_getElem? hx)
        have hrv : cellOk rv = true := by obtain ⟨l, c, rfl⟩ := hsr.slice; rfl
        have hk2 := hk'.alloc (.cells [.slice none 0 (.exact 0), .int .i64 0] .own)
        have hg2 : (g'.alloc (.cells [.slice none 0 (.exact 0), .int .i64 0] .own)).get g'.next = _ := Heap.get_alloc _ _
        have hal : allocA Try.prog g' 65 = _ := alloc65 (h := g')
        generalize g'.alloc (.cells [.slice none 0 (.exact 0), .int .i64 0] .own) = g2 at hk2 hg2 hal
        have hst := store_whole (P := Try.prog) s65 hg2 rfl (ds := [rv, .int .i64 c]) rfl (by simp only [cellsOk, hrv, Bool.true_and]; rfl)
        have hk3 := hk2.set (.cells [rv, .int .i64 c] .own) (hk2.wf _ _ hg2) (.inr hk'.le)
        have hg3 := Heap.get_set g2 g'.next (.cells [rv, .int .i64 c] .own)
        generalize g2.set g'.next (.cells [rv, .int .i64 c] .own) = g3 at hst hk3 hg3
        generalize g'.next = D at hg2 hal hst hg3
        have hld0 := load_cell (P := Try.prog) a31 hg3 (o := 0) (v := rv) rfl
        have hld1 := load_cell (P := Try.prog) a3 hg3 (o := 1) (v := .int .i64 c) rfl
        have hsr3 : Sl g3 rv (bools r) := (hc.2 _ (List.mem_of_getElem? hx)).keep (hk.trans hk3) (by simp)
        have hlr : lenA Try.prog g3 31 rv = some (.int .i64 (r.length : Nat)) := by simpa using hsr3.len (P := Try.prog) u31
        apply WP.skip; simp
        repeat apply WP.seq
        apply WP.block
        repeat apply WP.seq
        apply WP.region; simp [hl, h2, h6, fa29, hld', hl1, hl1', hal, storeR_ptr hst]
        repeat apply WP.seq
        apply WP.region
        by_cases hz : r.getD a false = false ∨ c = (a : Int)
        · rw [if_pos hz] at hage
          by_cases hlr' : r.length ≤ a
          · simp [hl, h1, fa65, hld0, hlr, guardA, hlr']
            repeat apply WP.seq
            apply WP.cond (t := true) (by simp [hl]) ?_ (by simp)
            intro _
            repeat apply WP.seq
            apply WP.region; simp [hl, h5]
            apply WP.ret
            simp [hl, resultsA, resultA, single, hage, hk.trans hk3]
          · obtain ⟨bb, hrb⟩ : ∃ bb, r[a]? = some bb := ⟨r[a], by simp [show a < r.length by omega]⟩
            have hgd : r.getD a false = bb := by simp [List.getD_eq_getElem?_getD, hrb]
            obtain ⟨l2, hl2, hl2', _⟩ := hsr3.at (P := Try.prog) u31 s4 a4 (bools_get hrb) (k := .i64)
            cases bb with
            | false =>
              simp [hl, h1, fa65, hld0, hlr, guardA, hlr', hl2, hl2']
              repeat apply WP.seq
              apply WP.cond (t := true) (by simp [hl]) ?_ (by simp)
              intro _
              repeat apply WP.seq
              apply WP.region; simp [hl, h5]
              apply WP.ret
              simp [hl, resultsA, resultA, single, hage, hk.trans hk3]
            | true =>
              have hca : c = (a : Int) := by
                rcases hz with hz | hz
                · rw [hgd] at hz; cases hz
                · exact hz
              simp [hl, h1, fa65, hld0, hld1, hlr, guardA, hlr', hl2, hl2', hca]
              repeat apply WP.seq
              apply WP.cond (t := true) (by simp [hl]) ?_ (by simp)
              intro _
              repeat apply WP.seq
              apply WP.region; simp [hl, h5]
              apply WP.ret
              simp [hl, resultsA, resultA, single, hage, hk.trans hk3]
        · rw [if_neg hz] at hage
          have hz1 : r.getD a false = true := by
            cases hg : r.getD a false with
            | false => exact absurd (.inl hg) hz
            | true => rfl
          have hrb : r[a]? = some true := by
            rw [List.getD_eq_getElem?_getD] at hz1
            cases hg : r[a]? with
            | none => simp [hg] at hz1
            | some bb => simp [hg] at hz1; rw [hz1]
          have hlr' : ¬ r.length ≤ a := by
            have := (List.getElem?_eq_some_iff.1 hrb).1
            omega
          have hca : ¬ c = (a : Int) := fun h => hz (.inr h)
          obtain ⟨l2, hl2, hl2', _⟩ := hsr3.at (P := Try.prog) u31 s4 a4 (bools_get hrb) (k := .i64)
          simp [hl, h1, fa65, hld0, hld1, hlr, guardA, hlr', hl2, hl2', hca]
          repeat apply WP.seq
          apply WP.cond (t := false) (by simp [hl, hca]) (by simp)
          intro _
          apply WP.skip; simp
          repeat apply WP.seq
          apply WP.region; simp [hl, h5, int_wrap (show cs.length - (k + 1) < 9223372036854775807 by omega)]
          apply WP.region; simp [hl, h6, wrap_small (show -9223372036854775808 ≤ (k : Int) - 1 by omega) (by omega)]
          have : cs.length - (k + 1) + 1 = cs.length - k := by omega
          exact ⟨k, by omega, h1, h2, hk3, k, by omega, rfl, by simp, by rw [← this]; rfl, by omega⟩
      · intro hneg
        have hneg : m = 0 := by
          have : ¬ (0 : Int) ≤ (m : Int) - 1 := by simpa using hneg
          omega
        subst hneg
        apply WP.exit
        simp
        repeat apply WP.seq
        apply WP.region; simp [hl, h5]
        apply WP.ret
        rw [List.take_zero] at hage
        have h9 : ageR (hist []) a = 0 := rfl
        rw [h9] at hage
        simp only [Nat.sub_zero, Nat.add_zero] at hage
        simp [hl, resultsA, resultA, single, hage, hk.trans hk']
    · refine ⟨by simp [hl], by simp [h1], by simp [hl], Keep.refl hk.wf, cs.length, by omega, rfl, by simp [hl], by simp [hl], by simp⟩
  obtain ⟨_, h', h1, rfl, h2⟩ := main
  exact ⟨h', h1, h2⟩
end
end Go.Am
