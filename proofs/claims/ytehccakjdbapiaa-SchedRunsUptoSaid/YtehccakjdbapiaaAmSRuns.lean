/- A part of the proof by the abstract machine: SRuns. -/
import Derived.Test.YtehccakjdbapiaaAmSRunsP
set_option linter.unusedSimpArgs false
namespace Go.Am
open Go.RowKit Go.Proofs

theorem Sls.take {h : Heap} {vs : List AV} {rs : List (List Bool)} (hs : Sls h vs rs) (m : Nat) : Sls h (vs.take m) (rs.take m) := by
  refine ⟨by simp [hs.1], fun i v r hv hr => ?_⟩
  rw [List.getElem?_take] at hv hr
  split at hv
  · rename_i hlt
    rw [if_pos hlt] at hr
    exact hs.2 i v r hv hr
  · cases hv

/-- The first i turned over. -/
def flipTo (r : List Bool) (i : Nat) : List Bool := (r.take i).map (!·) ++ r.drop i
theorem flipTo_length (r : List Bool) (i : Nat) : (flipTo r i).length = r.length := by simp [flipTo]; omega
theorem flipTo_zero (r : List Bool) : flipTo r 0 = r := by simp [flipTo]
theorem flipTo_at {r : List Bool} {i : Nat} {b : Bool} (h : r[i]? = some b) : (flipTo r i)[i]? = some b := by
  have hi := (List.getElem?_eq_some_iff.1 h).1
  unfold flipTo
  rw [List.getElem?_append_right (by simp; omega)]
  simp [Nat.min_eq_left (Nat.le_of_lt hi), h]
theorem flipTo_set {r : List Bool} {i : Nat} {b : Bool} (h : r[i]? = some b) : (flipTo r i).set i (!b) = flipTo r (i + 1) := by
  have hi := (List.getElem?_eq_some_iff.1 h).1
  unfold flipTo
  rw [List.take_add_one, h, List.drop_eq_getElem_cons hi, List.set_append_right _ _ (by simp; omega)]
  simp only [List.length_map, List.length_take, Nat.min_eq_left (Nat.le_of_lt hi), Nat.sub_self, List.set_cons_zero, List.map_append, Option.toList, List.map_cons, List.map_nil, List.append_assoc, List.cons_append, List.nil_append]

section
variable {ov : CallF}

set_option maxHeartbeats 4000000 in
theorem runs_ok (O : OvOk ov) (o3 : ∀ a h, ov 3 a h = none) (o12 : ∀ a h, ov 12 a h = none) (o13 : ∀ a h, ov 13 a h = none) (o15 : ∀ a h, ov 15 a h = none) (o26 : ∀ a h, ov 26 a h = none) {h : Heap} (hw : Wf h) {wv cv : AV} {want : List Int} (hs : Sl h wv (ints want)) (hL : want.length ≤ 2000000) (b0 : Int)
    {vs : List AV} {rs : List (List Bool)} (hcs : Sl h cv vs) (hss : Sls h vs rs) (hrl : rs.length ≤ 2000000) (hrm : ∀ r ∈ rs, r.length ≤ 2000000) :
    ∃ h', callT ov Try.prog 3 [wv, .int .i64 b0, cv] h = some (.ret (.bool true) h') := by
  have main : ∃ u h', callT ov Try.prog 3 [wv, .int .i64 b0, cv] h = some (.ret u h') ∧ u = .bool true := by
    refine callT_wp (fn := Try.f3) (Q := fun u _ => u = .bool true) (o3 _ _) (by kernel_rfl) rfl ?_
    have hl : (frameA Try.f3 [wv, .int .i64 b0, cv]).length = 122 := frameA_length (Nat.le_of_ble_eq_true rfl)
    have h0 : nth (frameA Try.f3 [wv, .int .i64 b0, cv]) 0 = wv := frameA_nth (Nat.le_of_ble_eq_true rfl)
    have h1 : nth (frameA Try.f3 [wv, .int .i64 b0, cv]) 1 = .int .i64 b0 := frameA_nth (Nat.le_of_ble_eq_true rfl)
    have h2 : nth (frameA Try.f3 [wv, .int .i64 b0, cv]) 2 = cv := frameA_nth (Nat.le_of_ble_eq_true rfl)
    generalize frameA Try.f3 [wv, .int .i64 b0, cv] = e at hl h0 h1 h2
    have hca10 : ∀ h, callA (callT ov Try.prog) Try.prog h 10 [] = some (.ret (.bool true) h) := fun h => (callA_of (fn := Try.f10) (by kernel_rfl) rfl).trans (callT_ov _ _ (O.o10 h))
    have hca11 : ∀ args h, callA (callT ov Try.prog) Try.prog h 11 args = callT ov Try.prog 11 args h := fun args h => callA_of (fn := Try.f11) (by kernel_rfl) rfl
    have hca12 : ∀ args h, callA (callT ov Try.prog) Try.prog h 12 args = callT ov Try.prog 12 args h := fun args h => callA_of (fn := Try.f12) (by kernel_rfl) rfl
    have hca13 : ∀ args h, callA (callT ov Try.prog) Try.prog h 13 args = callT ov Try.prog 13 args h := fun args h => callA_of (fn := Try.f13) (by kernel_rfl) rfl
    have hca14 : ∀ args h, callA (callT ov Try.prog) Try.prog h 14 args = callT ov Try.prog 14 args h := fun args h => callA_of (fn := Try.f14) (by kernel_rfl) rfl
    have hca15 : ∀ args h, callA (callT ov Try.prog) Try.prog h 15 args = callT ov Try.prog 15 args h := fun args h => callA_of (fn := Try.f15) (by kernel_rfl) rfl
    have hlenc : ∀ h, lenA Try.prog h 23 cv = some (.int .i64 (vs.length : Nat)) := by
      intro h; obtain ⟨l, c, rfl⟩ := hcs.slice; exact lenA_slice (P := Try.prog) u23
    repeat apply WP.seq
    apply WP.region; simp [hl]
    repeat apply WP.seq
    apply WP.region; simp [hl, hca10]
    repeat apply WP.seq
    apply WP.cond (t := false) (by simp [hl]) (by simp)
    intro _
    apply WP.skip; simp
    repeat apply WP.seq
    apply WP.region; simp [hl, h2, hlenc]
    repeat apply WP.seq
    refine WP.mono (K := fun o e g' => o = .normal ∧ h = g' ∧ e.length = 122 ∧ nth e 0 = wv ∧ nth e 1 = .int .i64 b0 ∧ ∃ cv' vs' rs', nth e 2 = cv' ∧ Sl h cv' vs' ∧ Sls h vs' rs' ∧ rs'.length ≤ 400 ∧ ∀ r ∈ rs', r.length ≤ 2000000) ?_ ?_
    · apply WP.cond (by simp [hl]; rfl)
      · intro hc
        have hc : 400 < vs.length := by
          have : (400 : Int) < vs.length := by simpa using hc
          omega
        obtain ⟨cv', hcv, hslc⟩ := hcs.upto (P := Try.prog) u23 s31 hc (k := .i64)
        have hcv : sliceA Try.prog 23 cv none (some (.int .i64 400)) none = some cv' := hcv
        apply WP.region; simp [hl, h0, h1, h2, evalO_none, evalO_some, hcv]
        exact ⟨_, hslc, _, hss.take 400, by simp; omega, fun r hr => hrm r (List.mem_of_mem_take hr)⟩
      · intro hc
        have hc : ¬ 400 < vs.length := by
          have : ¬ (400 : Int) < vs.length := by simpa using hc
          omega
        have hvl := hss.1
        apply WP.skip; simp [hl, h0, h1, h2]
        exact ⟨_, hcs, _, hss, by omega, hrm⟩
    clear hrm hrl hlenc h0 h1 h2 hl e
    rintro _ e _ ⟨rfl, rfl, hl, h0, h1, cw, us, qs, h2, hcs', hss', hrl, hrm⟩
    have hvl : us.length = qs.length := hss'.1
    have hlenc : ∀ h, lenA Try.prog h 23 cw = some (.int .i64 (qs.length : Nat)) := by
      intro h; obtain ⟨l, c, rfl⟩ := hcs'.slice; rw [hvl]; exact lenA_slice (P := Try.prog) u23
    simp
    repeat apply WP.seq
    obtain ⟨wc, gc, B, hap, hownc, hB, hkc⟩ := hs.clone (P := Try.prog) hw u22 s3 (fun _ => room3 (by simp; omega)) ints_ok
    obtain ⟨C, g, pv, hnew, hgC, hpv, hidp, hCn, hk⟩ := new_ok O.o25 O.o11 hkc.wf hownc.sl (by omega) b0
    have hBg : B < gc.next := hkc.wf _ _ hownc.choose_spec.2
    have hCX : ChXs [B] g C want (max b0 1) [] (-1) := ⟨_, _, ⟨hgC, hpv, ⟨rfl, rfl⟩, fun hi => (hidp _ hi).2 rfl, by simp [idOf]⟩, fun _ i hi hm => by
      have := (hidp _ hi).1
      simp only [List.mem_singleton] at hm
      omega, by simp [idOf]⟩
    have hCg : C < g.next := hCX.ch.lt hk.wf
    have hkcl := hkc.le
    have hkl := hk.le
    have hownB := hownc.keep hk (by simp)
    have hk0 := hkc.trans hk
    have hCB : C ≠ B := by omega
    clear hgC hpv hidp hownc
    have hlenw : ∀ g, lenA Try.prog g 22 wc = some (.int .i64 (want.length : Nat)) := by
      intro g; obtain ⟨l, c, rfl⟩ := hownB.sl.slice; simpa using lenA_slice (P := Try.prog) u22
    obtain ⟨wl, wcap, hwv⟩ := hs.slice
    rw [ints_length] at hwv
    obtain ⟨g1, href, hk1⟩ := refNew_ok o12 hk.wf (l := wl) (n := want.length) (c := wcap) b0
    rw [← hwv] at href
    have hCX1 := (hCX.keep0 hk1).cons hk1.wf (Nat.le_refl g1.next)
    have hal2 := alloc29 (h := g1)
    have hk2 := (Keep.refl (ex := []) hk1.wf).alloc (.cells [.slice none 0 (.exact 0), .int .i64 0, .slice none 0 (.exact 0)] .own)
    have hg2 := Heap.get_alloc g1 (.cells [.slice none 0 (.exact 0), .int .i64 0, .slice none 0 (.exact 0)] .own)
    have hCX2 := hCX1.keep0 hk2
    generalize g1.alloc (.cells [.slice none 0 (.exact 0), .int .i64 0, .slice none 0 (.exact 0)] .own) = g2 at hal2 hk2 hg2 hCX2
    have hk1l := hk1.le
    have hM1 : C < g1.next ∧ B < g1.next ∧ h.next ≤ g1.next := by omega
    generalize g1.next = M at hal2 hg2 hCX2 hM1
    have hst2 := store_whole (P := Try.prog) s29 hg2 rfl (ds := [wv, .int .i64 (max b0 1), .slice none 0 (.exact 0)]) rfl (by rw [hwv]; rfl)
    have hMn : M < g2.next := hk2.wf _ _ hg2
    have hg3 := Heap.get_set g2 M (.cells [wv, .int .i64 (max b0 1), .slice none 0 (.exact 0)] .own)
    have hk3 := (Keep.refl (ex := [M]) hk2.wf).set (.cells [wv, .int .i64 (max b0 1), .slice none 0 (.exact 0)] .own) hMn (.inl (by simp))
    generalize g2.set M (.cells [wv, .int .i64 (max b0 1), .slice none 0 (.exact 0)] .own) = g3 at hst2 hg3 hk3
    have hCX3 := hCX2.keep hk3 (by simp) (by simp; omega)
    have hown3 := ((hownB.keep hk1 (by simp)).keep hk2 (by simp)).keep hk3 (by simp; omega)
    have hkh3 : Keep [M] h g3 := ((hk0.trans (hk1.trans hk2)).more (by simp)).trans hk3
    apply WP.region; simp [hl, h0, build22, hap]
    repeat apply WP.seq
    apply WP.region; simp [hl, h1, hca11, hnew]
    repeat apply WP.seq
    apply WP.region; simp [hl, h0, h1, hca12, href, hal2, storeR_ptr hst2]
    repeat apply WP.seq
    apply WP.region; simp [hl, bin_ptnil u25]
    repeat apply WP.seq
    apply WP.cond (t := false) (by simp [hl]) (by simp)
    intro _
    apply WP.skip; simp
    repeat apply WP.seq
    generalize max b0 1 = b at *
    apply WP.region; simp [hl, hlenw]
    repeat apply WP.seq
    apply WP.block
    refine WP.loop (fun k e g' => e.length = 122 ∧ nth e 2 = cw ∧ nth e 7 = wc ∧ nth e 8 = .ptr (some ⟨C, 0⟩) ∧ nth e 9 = .ptr (some ⟨M, 0⟩) ∧ nth e 38 = .int .i64 want.length ∧ Keep [B] g3 g' ∧ ∃ i, i ≤ want.length ∧ k = want.length - i ∧ nth e 39 = .int .i64 (i : Nat) ∧ ∃ xs : List Int, xs.length = want.length ∧ Own g' wc B (ints xs)) ?_ want.length _ _ ?_
    · rintro k e g' ⟨hl, h2, h7, h8, h9, h38, hkg, i, hi, rfl, h39, xs, hxl, hown⟩
      repeat apply WP.seq
      apply WP.region; simp [hl, h38, h39]
      repeat apply WP.seq
      apply WP.cond (by simp [hl]; rfl)
      · intro hlt1
        have hlt1 : i < want.length := by simpa using hlt1
        apply WP.skip; simp
        repeat apply WP.seq
        apply WP.block
        repeat apply WP.seq
        have haddr := hown.addr (P := Try.prog) u22 s3 (i := i) (by simp; omega) (k := .i64)
        obtain ⟨hst, hown'⟩ := hown.store (P := Try.prog) s3 (i := i) (by simp; omega) (x := .int .i64 (-7 - (i : Int))) rfl rfl
        rw [ints_set] at hst hown'
        have hB5 : B < g'.next := hkg.wf _ _ hown.choose_spec.2
        have hk' := hkg.set (.cells (ints (xs.set i (-7 - (i : Int)))) .own) hB5 (.inl (by simp))
        apply WP.region; simp [hl, h39]
        apply WP.region; simp [hl, h7, haddr, wrap_small (show -9223372036854775808 ≤ -7 - (i : Int) by omega) (by omega), storeR_ptr hst]
        apply WP.region; simp [hl, h39, int_wrap (show i < 9223372036854775807 by omega)]
        exact ⟨want.length - (i + 1), by omega, h2, h7, h8, h9, h38, hk', i + 1, by omega, rfl, by simp, _, by simpa using hxl, hown'⟩
      · intro hge
        apply WP.exit
        simp
        have hk4 : Keep [M, B] h g' := (hkh3.more (by simp)).trans (hkg.more (by simp))
        have hgM := hkg.get _ _ hg3 (by simp; omega)
        have hCX4 : ChXs [M] g' C want b [] (-1) := (hCX3.keep hkg (by simp) (by simp; omega)).less (by simp)
        have hMg : M < g'.next := hkg.wf _ _ hgM
        have hwf := hkg.wf
        have hp4 : Sl g' wv (ints want) := hs.keep' hk4 (fun hne j hj hm => by
          have := hs.lt hw hne hj
          simp only [List.mem_cons, List.mem_nil_iff, or_false] at hm
          rcases hm with rfl | rfl <;> omega)
        have hCg' : C < g'.next := hCX4.ch.lt hwf
        have hidw : want ≠ [] → ∀ j, idOf wv = some j → j < h.next := fun hne j hj => hs.lt hw (by simpa [ints] using hne) hj
        have hCh : h.next ≤ C := by omega
        have hMh : h.next ≤ M := by omega
        have hssk : ∀ {ex : List Nat} {g'' : Heap}, Keep ex g' g'' → (∀ i, i ∈ ex → h.next ≤ i) → ∀ (i : Nat) v r, us[i]? = some v → qs[i]? = some r → Sl g'' v (bools r) := by
          intro ex g'' hkk hex i v r hv hr
          have hkk' := (hk4.more (ex' := ex) (by simp; omega)).trans hkk
          refine (hss'.2 i v r hv hr).keep' hkk' ?_
          intro hne j hj hm
          have := (hss'.2 i v r hv hr).lt hw hne hj
          have := hex j hm
          omega
        have hcsk : ∀ {ex : List Nat} {g'' : Heap}, Keep ex g' g'' → (∀ i, i ∈ ex → h.next ≤ i) → Sl g'' cw us := by
          intro ex g'' hkk hex
          have hkk' := (hk4.more (ex' := ex) (by simp; omega)).trans hkk
          refine hcs'.keep' hkk' ?_
          intro hne j hj hm
          have := hcs'.lt hw hne hj
          have := hex j hm
          omega
        have hgh : h.next ≤ g'.next := hk4.le
        have hCM : C ≠ M := by omega
        clear hkg hg3 hCX3 hk4 hown hown3 hkh3
        generalize g' = ga at *
        repeat apply WP.seq
        apply WP.region; simp [hl, h2, hlenc]
        repeat apply WP.seq
        apply WP.block
        refine WP.loop (fun k e g' => e.length = 122 ∧ nth e 8 = .ptr (some ⟨C, 0⟩) ∧ nth e 9 = .ptr (some ⟨M, 0⟩) ∧ nth e 48 = cw ∧ nth e 49 = .int .i64 qs.length ∧ Keep [C, M] ga g' ∧ ∃ x, x ≤ qs.length ∧ k = qs.length - x ∧ nth e 50 = .int .i64 (x : Int) ∧
          ∃ picks ages last pv cv2 cs, (∀ a ∈ ages, 0 ≤ a ∧ a ≤ (x : Int)) ∧ cs.length = x ∧ ChXs [M] g' C picks b ages last ∧ g'.get M = some (.cells [pv, .int .i64 b, cv2] .own) ∧ Sl g' pv (ints picks) ∧ (picks ≠ [] → ∀ j, idOf pv = some j → j < h.next) ∧ CallsAt g' cv2 cs ∧
            (∀ j, idOf cv2 = some j → ga.next ≤ j) ∧ (∀ y ∈ cs, ∀ j, idOf y.1 = some j → ga.next ≤ j) ∧ (∀ i, at0 ages i = (ageR (hist cs) i : Int)) ∧ last = lastOf cs) ?_ qs.length _ _ ?_
        · rintro k e g' ⟨hl, h8, h9, h48, h49, hkk, x, hx, rfl, h50, picks, ages, last, pv, cv2, cs, haok, hcl, hCX, hgM, hp, hpid, hca, hcid, hcsid, hA, hlast⟩
          have hex : ∀ i, i ∈ [C, M] → h.next ≤ i := by simp; omega
          repeat apply WP.seq
          apply WP.region; simp [hl, h49, h50]
          repeat apply WP.seq
          apply WP.cond (by simp [hl]; rfl)
          · intro hlt1
            have hlt1 : x < qs.length := by simpa using hlt1
            apply WP.skip; simp
            repeat apply WP.seq
            apply WP.block
            repeat apply WP.seq
            obtain ⟨v, r, hvi, hri, _⟩ := hss'.at hlt1
            have hrn := hrm r (List.mem_of_getElem? hri)
            have hsv := hssk hkk hex x v r hvi hri
            obtain ⟨l1, hl1, hl1', _⟩ := (hcsk hkk hex).at (P := Try.prog) u23 s31 a31 hvi (k := .i64)
            have hlv : ∀ h, lenA Try.prog h 31 v = some (.int .i64 (r.length : Nat)) := by
              intro h; obtain ⟨l, c, rfl⟩ := hsv.slice; simpa using lenA_slice (P := Try.prog) u31
            apply WP.region; simp [hl, h48, h50, hl1, hl1']
            repeat apply WP.seq
            -- the list that is given
            obtain ⟨v', g3, G, hap3, hown3, hG, hk3⟩ := hsv.clone (P := Try.prog) hkk.wf u31 s4 (fun _ => room4 (by simp; omega)) bools_ok
            have hCX3 := (hCX.cons hkk.wf hG).keep0 hk3
            have hM' : M < g'.next := hkk.wf _ _ hgM
            have hC' : C < g'.next := hCX.ch.lt hkk.wf
            have hG3 : G < g3.next := hk3.wf _ _ hown3.choose_spec.2
            have hca3 : CallsAt g3 cv2 cs := hca.keep' hk3 (by simp) (by simp)
            have hca3id : ∀ y ∈ cs, y.2.1 ≠ [] → ∀ i, idOf y.1 = some i → i < g'.next := fun y hy hne i hi => (hca.2 y hy).lt hkk.wf (by simpa [bools] using hne) hi
            have hp3 := hp.keep hk3 (by simp)
            have hgM3 := hk3.get _ _ hgM (by simp)
            have hld3 := load_whole (P := Try.prog) a29 s29 hgM3 rfl
            have hk3l := hk3.le
            have hkkl := hkk.le
            -- the reference
            obtain ⟨g4, pv4, cv4, rv4, hcall4, hk4, hp4', hca4, hpid4, hcid4, hrid4⟩ := refNext_ok o13 o26 hk3.wf hp3 (b := b) hca3 (by omega) (hsv.keep hk3 (by simp)) (by omega) hA hlast
            have hk4l := hk4.le
            have hCX4' := hCX3.keep0 hk4
            have hown4 := hown3.keep hk4 (by simp)
            have hgM4 := hk4.get _ _ hgM3 (by simp)
            have hstep := ages_step (picks := picks) (b := b) (last := last) (ready := r) hA rv4
            have hlst := next_last picks b ages last r
            have hpne := fun h => next_picks_ne (picks := picks) (b := b) (ages := ages) (last := last) (ready := r) h
            have hokN : ∀ a ∈ (nextP picks b ages last r).ages, 0 ≤ a ∧ a ≤ (x : Int) + 1 := by
              rw [nextP_ages]
              exact newAges_ok (by omega) (at0_le (by omega) (agesFor_le (by omega) haok r.length))
            -- its new state
            have hal5 := alloc29 (h := g4)
            have hk5 := (Keep.refl (ex := []) hk4.wf).alloc (.cells [.slice none 0 (.exact 0), .int .i64 0, .slice none 0 (.exact 0)] .own)
            have hg5 := Heap.get_alloc g4 (.cells [.slice none 0 (.exact 0), .int .i64 0, .slice none 0 (.exact 0)] .own)
            generalize g4.alloc (.cells [.slice none 0 (.exact 0), .int .i64 0, .slice none 0 (.exact 0)] .own) = g5 at hal5 hk5 hg5
            have hN4 : g4.next ≤ g4.next := Nat.le_refl _
            have hN5 := hk5.wf _ _ hg5
            generalize hNd : g4.next = D at hal5 hg5 hN4 hN5
            have hst5 := store_whole (P := Try.prog) s29 hg5 rfl (ds := [pv4, .int .i64 b, cv4]) rfl (by
              have h1 := sl_cellOk hp4'
              obtain ⟨l2, c2, h2⟩ := hca4.1.slice
              simp only [cellsOk, h1, h2, Bool.true_and]; rfl)
            have hg6 := Heap.get_set g5 D (.cells [pv4, .int .i64 b, cv4] .own)
            have hk6 := hk5.set (.cells [pv4, .int .i64 b, cv4] .own) hN5 (.inr (by omega))
            generalize g5.set D (.cells [pv4, .int .i64 b, cv4] .own) = g6 at hst5 hg6 hk6
            have hld6 := load_whole (P := Try.prog) a29 s29 hg6 rfl
            have hgM6 := hk6.get _ _ hgM4 (by simp)
            have hst7 := store_whole (P := Try.prog) s29 hgM6 rfl (ds := [pv4, .int .i64 b, cv4]) rfl (by
              have h1 := sl_cellOk hp4'
              obtain ⟨l2, c2, h2⟩ := hca4.1.slice
              simp only [cellsOk, h1, h2, Bool.true_and]; rfl)
            have hg7 := Heap.get_set g6 M (.cells [pv4, .int .i64 b, cv4] .own)
            have hk6l := hk6.le
            have hk7 := (Keep.refl (ex := [M]) hk6.wf).set (i := M) (.cells [pv4, .int .i64 b, cv4] .own) (by omega) (.inl (by simp))
            generalize g6.set M (.cells [pv4, .int .i64 b, cv4] .own) = g7 at hst7 hg7 hk7
            have hk7l := hk7.le
            have hCX7 := (hCX4'.keep0 hk6).keep hk7 (by simp) (by simp; omega)
            have hown7 := (hown4.keep hk6 (by simp)).keep hk7 (by simp; omega)
            -- the program
            have hvC : idOf v' ≠ some C := by rw [hown3.id]; simp; omega
            obtain ⟨g8, hcall8, hCX8, hk8⟩ := next_okXs O hk7.wf (by simp; omega) hCX7 hown7.sl hvC (by omega) (fun a ha => by have := haok a ha; omega)
            have hown8 := hown7.keep hk8 (by simp; omega)
            have hleft := left_ok o15 hCX8.ch
            have hg8 := hk8.get _ _ hg7 (by simp; omega)
            generalize nextP picks b ages last r = N at hcall4 hp4' hca4 hstep hlst hpne hokN hcall8 hCX8 hleft
            have hk48 : Keep [C, M] g4 g8 := ((hk6.more (by simp)).trans (hk7.more (by simp))).trans (hk8.more (by simp))
            have hp8 : Sl g8 pv4 (ints N.picks) := hp4'.keep' hk48 (fun hne j hj hm => by
              have := hpid (hpne (by simpa [ints] using hne)) j (hpid4 j hj)
              have := hex j hm
              omega)
            have hca8 : CallsAt g8 cv4 (cs ++ [(rv4, r, N.chosen)]) := hca4.keep' hk48 (fun j hj hm => by
                have := hcid4 j hj
                simp only [List.mem_cons, List.mem_nil_iff, or_false] at hm
                rcases hm with rfl | rfl <;> omega) (fun y hy hne j hj hm => by
                simp only [List.mem_cons, List.mem_nil_iff, or_false] at hm
                rcases List.mem_append.1 hy with hy | hy
                · have := hcsid y hy j hj
                  rcases hm with rfl | rfl <;> omega
                · simp only [List.mem_singleton] at hy
                  subst hy
                  have := hrid4 j hj
                  rcases hm with rfl | rfl <;> omega)
            have hkk8 : Keep [C, M] ga g8 := ((hkk.trans (hk3.more (by simp))).trans (hk4.more (by simp))).trans hk48
            apply WP.region; simp [hl, build31, hap3]
            repeat apply WP.seq
            apply WP.region; simp [hl, h9, hld3, hca13, hcall4, extractA, hal5, storeR_ptr hst5]
            repeat apply WP.seq
            apply WP.region; simp [hl, h9, hld6, storeR_ptr hst7]
            repeat apply WP.seq
            apply WP.region; simp [hl, h8, hca14, hcall8, extractA]
            repeat apply WP.seq
            have hld8 : loadA Try.prog g8 22 ⟨M, 0⟩ = some pv4 := load_cell a22 hg8 rfl
            have hlp8 : lenA Try.prog g8 22 pv4 = some (.int .i64 (N.picks.length : Nat)) := by simpa using hp8.len (P := Try.prog) u22
            refine WP.mono (K := fun out e g9 => out = .normal ∧ g8 = g9 ∧ e.length = 122 ∧ nth e 8 = .ptr (some ⟨C, 0⟩) ∧ nth e 9 = .ptr (some ⟨M, 0⟩) ∧ nth e 12 = v ∧ nth e 13 = v' ∧ nth e 48 = cw ∧ nth e 49 = .int .i64 qs.length ∧ nth e 50 = .int .i64 (x : Int) ∧ nth e 97 = .bool false) ?_ ?_
            · by_cases hch : 0 ≤ N.chosen
              · have hmx : max N.chosen 0 = N.chosen := by omega
                refine WP.drawDyn (by kernel_rfl) (dynOk_tw (pl := [(24, 22), (24, 28)]) (by kernel_rfl) ?_) ?_
                · simp [hl, h8, h9, guardA, bin_bne u4, hch, hmx, fa29, hca15, hleft, hld8, hlp8, loadSame]
                · simp [hl, h8, h9, h48, h49, h50, guardA, bin_bne u4, hch, hmx, fa29, hca15, hleft, hld8, hlp8]
              · have hmx : max N.chosen 0 = 0 := by omega
                refine WP.drawDyn (by kernel_rfl) (dynOk_tw (pl := [(24, 22), (24, 28)]) (by kernel_rfl) ?_) ?_
                · simp [hl, h8, h9, guardA, bin_bne u4, hch, hmx, fa29, hca15, hleft, hld8, hlp8, loadSame]
                · simp [hl, h8, h9, h48, h49, h50, guardA, bin_bne u4, hch, hmx, fa29, hca15, hleft, hld8, hlp8]
            clear hl h8 h9 h48 h49 h50
            rintro _ e _ ⟨rfl, rfl, hl, h8, h9, h12, h13, h48, h49, h50, h97⟩
            simp
            repeat apply WP.seq
            apply WP.cond (t := false) (by simp [h97]) (by simp)
            intro _
            apply WP.skip; simp
            repeat apply WP.seq
            apply WP.region; simp [hl, h12, hlv]
            repeat apply WP.seq
            apply WP.block
            refine WP.loop (fun k e g9 => e.length = 122 ∧ nth e 8 = .ptr (some ⟨C, 0⟩) ∧ nth e 9 = .ptr (some ⟨M, 0⟩) ∧ nth e 12 = v ∧ nth e 13 = v' ∧ nth e 48 = cw ∧ nth e 49 = .int .i64 qs.length ∧ nth e 50 = .int .i64 (x : Int) ∧ nth e 99 = .int .i64 r.length ∧ Keep [G] g8 g9 ∧
              ∃ i, i ≤ r.length ∧ k = r.length - i ∧ nth e 100 = .int .i64 (i : Int) ∧ Own g9 v' G (bools (flipTo r i))) ?_ r.length _ _ ?_
            · rintro k e g9 ⟨hl, h8, h9, h12, h13, h48, h49, h50, h99, hk9, i, hi, rfl, h100, hown9⟩
              repeat apply WP.seq
              apply WP.region; simp [hl, h99, h100]
              repeat apply WP.seq
              apply WP.cond (by simp [hl]; rfl)
              · intro hlt2
                have hlt2 : i < r.length := by simpa using hlt2
                apply WP.skip; simp
                repeat apply WP.seq
                apply WP.block
                repeat apply WP.seq
                obtain ⟨bb, hrb⟩ : ∃ bb, r[i]? = some bb := ⟨r[i], by simp [hlt2]⟩
                have hsv9 : Sl g9 v (bools r) := hssk ((hkk8.more (ex' := [C, M, G]) (by simp)).trans (hk9.more (by simp))) (by simp; omega) x v r hvi hri
                obtain ⟨l2, hl2, hl2', _⟩ := hsv9.at (P := Try.prog) u31 s4 a4 (bools_get hrb) (k := .i64)
                have haddr := hown9.addr (P := Try.prog) u31 s4 (i := i) (by rw [bools_length, flipTo_length]; exact hlt2) (k := .i64)
                have hload := hown9.load (P := Try.prog) a4 (bools_get (flipTo_at hrb))
                obtain ⟨hst, hown'⟩ := hown9.store (P := Try.prog) s4 (i := i) (by rw [bools_length, flipTo_length]; exact hlt2) (x := .bool (!bb)) rfl rfl
                rw [bools_set, flipTo_set hrb] at hst hown'
                have hG9 : G < g9.next := hk9.wf _ _ hown9.choose_spec.2
                have hk' := hk9.set (.cells (bools (flipTo r (i + 1))) .own) hG9 (.inl (by simp))
                apply WP.region; simp [hl, h100]
                repeat apply WP.seq
                apply WP.draw (by kernel_rfl) (by kernel_rfl)
                simp [hl, h12, h13, haddr, hload, hl2, hl2', bin_bne u4]
                repeat apply WP.seq
                apply WP.cond (t := false) (by simp [hl]) (by simp)
                intro _
                apply WP.skip; simp
                apply WP.region; simp [hl, h13, haddr, hload, storeR_ptr hst]
                apply WP.region; simp [hl, h100, int_wrap (show i < 9223372036854775807 by omega)]
                exact ⟨r.length - (i + 1), by omega, h8, h9, h12, h13, h48, h49, h50, h99, hk', i + 1, by omega, rfl, by simp, hown'⟩
              · intro hge
                apply WP.exit
                simp
                have hkG : Keep [C, M] ga g9 := ((hkk8.more (ex' := [C, M, G]) (by simp)).trans (hk9.more (by simp))).more (by
                  intro i hi
                  simp only [List.mem_cons, List.mem_nil_iff, or_false] at hi ⊢
                  rcases hi with rfl | rfl | rfl
                  · exact .inl (.inl rfl)
                  · exact .inl (.inr rfl)
                  · right; omega)
                have hCX9 : ChXs [M] g9 C N.picks b N.ages N.last := (hCX8.keep hk9 (by simp) (by simp; omega)).less (by simp)
                have hl9 : N.last = lastOf (cs ++ [(rv4, r, N.chosen)]) := by rw [hlst, lastOf_snoc, hlast]
                rw [hl9] at hCX9
                have hgM9 := hk9.get _ _ hg8 (by simp; omega)
                have hpid9 : N.picks ≠ [] → ∀ j, idOf pv4 = some j → j < h.next := fun hne j hj => hpid (hpne hne) j (hpid4 j hj)
                have hp9 : Sl g9 pv4 (ints N.picks) := hp8.keep' hk9 (fun hne j hj hm => by
                  have := hpid9 (by simpa [ints] using hne) j hj
                  simp only [List.mem_singleton] at hm
                  omega)
                have hca9 : CallsAt g9 cv4 (cs ++ [(rv4, r, N.chosen)]) := hca8.keep' hk9 (fun j hj hm => by
                  have := hcid4 j hj
                  simp only [List.mem_singleton] at hm
                  omega) (fun y hy hne j hj hm => by
                  simp only [List.mem_singleton] at hm
                  rcases List.mem_append.1 hy with hy | hy
                  · have := hca3id y hy hne j hj
                    omega
                  · simp only [List.mem_singleton] at hy
                    subst hy
                    have := hrid4 j hj
                    omega)
                apply WP.region; simp [hl, h50, int_wrap (show x < 9223372036854775807 by omega)]
                refine ⟨qs.length - (x + 1), by omega, h8, h9, h48, h49, hkG, x + 1, by omega, rfl, by simp, N.picks, N.ages, fun a ha => by have := hokN a ha; omega, lastOf (cs ++ [(rv4, r, N.chosen)]), pv4, cv4, cs ++ [(rv4, r, N.chosen)], by simp [hcl], hCX9, hgM9, hp9, hpid9, hca9, fun j hj => by have := hcid4 j hj; omega, ?_, hstep, rfl⟩
                intro y yl yc hy j hj
                rcases List.mem_append.1 hy with hy | hy
                · exact hcsid _ hy j hj
                · simp only [List.mem_singleton, Prod.mk.injEq] at hy
                  obtain ⟨rfl, _⟩ := hy
                  have := hrid4 j hj
                  omega
            · refine ⟨by simp [hl], by simp [hl, h8], by simp [hl, h9], by simp [hl, h12], by simp [hl, h13], by simp [hl, h48], by simp [hl, h49], by simp [hl, h50], by simp [hl], Keep.refl hk8.wf, 0, by omega, by omega, by simp [hl], by rw [flipTo_zero]; exact hown8⟩
          · intro hge
            apply WP.exit
            simp
            repeat apply WP.seq
            apply WP.region; simp [hl]
            apply WP.ret
            simp [hl, resultsA, resultA, single]
        · refine ⟨by simp [hl], by simp [hl, h8], by simp [hl, h9], by simp [hl, h2], by simp [hl], Keep.refl hwf, 0, by omega, by omega, by simp [hl], want, [], -1, wv, .slice none 0 (.exact 0), [], by simp, rfl, hCX4, hgM, hp4, hidw, ⟨⟨by simp [rowsOf], rfl, rfl⟩, by simp⟩, by simp [idOf], by simp, by simp [at0, hist, ageR], by simp [lastOf]⟩
    · refine ⟨by simp [hl], by simp [hl, h2], by simp [hl], by simp [hl], by simp [hl], by simp [hl], Keep.refl hk3.wf, 0, by omega, by omega, by simp [hl], want, rfl, hown3⟩
  obtain ⟨_, h', h1, rfl⟩ := main
  exact ⟨h', h1⟩
end
end Go.Am
