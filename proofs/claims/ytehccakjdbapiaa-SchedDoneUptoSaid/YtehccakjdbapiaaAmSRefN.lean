/- A part of the proof by the abstract machine: SRefN. -/
import Derived.Test.YtehccakjdbapiaaAmSRefB
import Derived.Test.YtehccakjdbapiaaAmDyn
set_option linter.unusedSimpArgs false
namespace Go.Am
open Go.RowKit Go.Proofs

attribute [simp] trace_nil trace_cons trace_guard tstep_ret tstep_none tguard_true tguard_false tcons_some TW_some sameV_load' pairsOk beqV_refl

theorem CallsAt.keep {h0 h : Heap} (hk : Keep [] h0 h) {cv : AV} {cs : List (AV × List Bool × Int)} (hc : CallsAt h0 cv cs) : CallsAt h cv cs := ⟨hc.1.keep' hk (by simp), fun x hx => (hc.2 x hx).keep hk (by simp)⟩

section
variable {ov : CallF}

set_option maxHeartbeats 4000000 in
theorem refNext_ok (o13 : ∀ a h, ov 13 a h = none) (o26 : ∀ a h, ov 26 a h = none) {h : Heap} (hw : Wf h) {pv : AV} {picks : List Int} (hp : Sl h pv (ints picks)) {b : Int} {cv : AV} {cs : List (AV × List Bool × Int)} (hc : CallsAt h cv cs) (hn : cs.length ≤ 100000000)
    {rv : AV} {ready : List Bool} (hr : Sl h rv (bools ready)) (hrn : ready.length ≤ 1000000000) {ages : List Int} {last : Int} (hA : ∀ i, at0 ages i = (ageR (hist cs) i : Int)) (hlast : last = lastOf cs) :
    ∃ h' pv' cv' rv', callT ov Try.prog 13 [.agg [pv, .int .i64 b, cv], rv] h = some (.ret (.tuple [.agg [pv', .int .i64 b, cv'], .int .i64 (nextP picks b ages last ready).chosen]) h') ∧ Keep [] h h' ∧ Sl h' pv' (ints (nextP picks b ages last ready).picks) ∧
      CallsAt h' cv' (cs ++ [(rv', ready, (nextP picks b ages last ready).chosen)]) ∧ (∀ j, idOf pv' = some j → idOf pv = some j) ∧ (∀ j, idOf cv' = some j → h.next ≤ j) ∧ (∀ j, idOf rv' = some j → h.next ≤ j) := by
  have main : ∃ u h', callT ov Try.prog 13 [.agg [pv, .int .i64 b, cv], rv] h = some (.ret u h') ∧ ∃ pv' cv' rv', u = .tuple [.agg [pv', .int .i64 b, cv'], .int .i64 (nextP picks b ages last ready).chosen] ∧ Keep [] h h' ∧ Sl h' pv' (ints (nextP picks b ages last ready).picks) ∧
      CallsAt h' cv' (cs ++ [(rv', ready, (nextP picks b ages last ready).chosen)]) ∧ (∀ j, idOf pv' = some j → idOf pv = some j) ∧ (∀ j, idOf cv' = some j → h.next ≤ j) ∧ (∀ j, idOf rv' = some j → h.next ≤ j) := by
    refine callT_wp (fn := Try.f13) (o13 _ _) (by kernel_rfl) rfl ?_
    have hl : (frameA Try.f13 [.agg [pv, .int .i64 b, cv], rv]).length = 140 := frameA_length (Nat.le_of_ble_eq_true rfl)
    have h0 : nth (frameA Try.f13 [.agg [pv, .int .i64 b, cv], rv]) 0 = .agg [pv, .int .i64 b, cv] := frameA_nth (Nat.le_of_ble_eq_true rfl)
    have h1 : nth (frameA Try.f13 [.agg [pv, .int .i64 b, cv], rv]) 1 = rv := frameA_nth (Nat.le_of_ble_eq_true rfl)
    generalize frameA Try.f13 [.agg [pv, .int .i64 b, cv], rv] = e at hl h0 h1
    have hca26 : ∀ args h, callA (callT ov Try.prog) Try.prog h 26 args = callT ov Try.prog 26 args h := fun args h => callA_of (fn := Try.f26) (by kernel_rfl) rfl
    have hlenr : ∀ h, lenA Try.prog h 31 rv = some (.int .i64 (ready.length : Nat)) := by
      intro h; obtain ⟨l, c, rfl⟩ := hr.slice; simpa using lenA_slice (P := Try.prog) u31
    -- the box and the answer's place
    have hk := (Keep.refl (ex := []) hw).alloc (.cells [pv, .int .i64 b, cv] .own)
    have hg := Heap.get_alloc h (.cells [pv, .int .i64 b, cv] .own)
    have hbox : boxA h (.agg [pv, .int .i64 b, cv]) = some (.ptr (some ⟨h.next, 0⟩), h.alloc (.cells [pv, .int .i64 b, cv] .own)) := rfl
    have hBn : (h.alloc (.cells [pv, .int .i64 b, cv] .own)).next = h.next + 1 := rfl
    generalize h.alloc (.cells [pv, .int .i64 b, cv] .own) = g at hk hg hbox hBn
    have hk2 := hk.alloc (.cells [.slice none 0 (.exact 0), .int .i64 0, .slice none 0 (.exact 0)] .own)
    have hD := Heap.get_alloc g (.cells [.slice none 0 (.exact 0), .int .i64 0, .slice none 0 (.exact 0)] .own)
    have hg2 := ((Keep.refl (ex := []) hk.wf).alloc (.cells [.slice none 0 (.exact 0), .int .i64 0, .slice none 0 (.exact 0)] .own)).get _ _ hg (by simp)
    have hal : allocA Try.prog g 29 = _ := alloc29 (h := g)
    generalize g.alloc (.cells [.slice none 0 (.exact 0), .int .i64 0, .slice none 0 (.exact 0)] .own) = g2 at hk2 hD hg2 hal
    have hDB : g.next ≠ h.next := by omega
    have hDn : h.next ≤ g.next := by omega
    generalize hB : h.next = B at hg hbox hg2 hDB hDn
    generalize g.next = D at hD hal hDB hDn
    repeat apply WP.seq
    apply WP.region; simp [hl, h0, hbox, hal]
    repeat apply WP.seq
    apply WP.region; simp [hl, build22]
    repeat apply WP.seq
    apply WP.region; simp [hl]
    repeat apply WP.seq
    apply WP.region; simp [hl, h1, hlenr]
    repeat apply WP.seq
    apply WP.block
    have hk3 : Keep [] g2 (g2.alloc (.cells [] .own)) := (Keep.refl hk2.wf).alloc _
    refine WP.loop (fun m e g' => e.length = 140 ∧ nth e 1 = rv ∧ nth e 2 = .ptr (some ⟨B, 0⟩) ∧ nth e 4 = .ptr (some ⟨D, 0⟩) ∧ nth e 19 = rv ∧ nth e 20 = .int .i64 ready.length ∧ Keep [] g2 g' ∧ ∃ i, i ≤ ready.length ∧ m = ready.length - i ∧ nth e 21 = .int .i64 (i : Nat) ∧ nth e 7 = .int .i64 (oldF ages (whoFrom (ready.take i) 0)) ∧ Acc g2.next g' (nth e 6) (nats (whoFrom (ready.take i) 0))) ?_ ready.length _ _ ?_
    · rintro m e g' ⟨hl, h1, h2, h4, h19, h20, hk', i, hi, rfl, h21, h7, hacc⟩
      repeat apply WP.seq
      apply WP.region; simp [hl, h20, h21]
      repeat apply WP.seq
      apply WP.cond (by simp [hl]; rfl)
      · intro hlt1
        have hlt1 : i < ready.length := by simpa using hlt1
        apply WP.skip; simp
        repeat apply WP.seq
        apply WP.block
        repeat apply WP.seq
        obtain ⟨bb, hrb⟩ : ∃ bb, ready[i]? = some bb := ⟨ready[i], by simp [hlt1]⟩
        have hsr := hr.keep (hk2.trans hk') (by simp)
        obtain ⟨l1, hl1, hl1', _⟩ := hsr.at (P := Try.prog) u31 s4 a4 (bools_get hrb) (k := .i64)
        have htake : ready.take (i + 1) = ready.take i ++ [bb] := by rw [List.take_add_one, hrb]; rfl
        have hwt : whoFrom (ready.take (i + 1)) 0 = whoFrom (ready.take i) 0 ++ (if bb then [i] else []) := by
          rw [htake, whoFrom_snoc]
          simp only [List.length_take, Nat.zero_add, Nat.min_eq_left hi]
        apply WP.region; simp [hl, h19, h21, hl1, hl1']
        repeat apply WP.seq
        apply WP.region; simp [hl]
        repeat apply WP.seq
        cases bb with
        | false =>
          apply WP.cond (t := true) (by simp [hl]) ?_ (by simp)
          intro _
          apply WP.exit; simp
          apply WP.region; simp [hl, h21, int_wrap (show i < 9223372036854775807 by omega)]
          refine ⟨ready.length - (i + 1), by omega, h1, h2, h4, h19, h20, hk', i + 1, by omega, rfl, by simp, ?_, ?_⟩
          · rw [hwt]; simpa using h7
          · rw [hwt]; simpa using hacc
        | true =>
          apply WP.cond (t := false) (by simp [hl]) (by simp)
          intro _
          apply WP.skip; simp
          repeat apply WP.seq
          simp only [if_true] at hwt
          have hg1 := hk'.alloc (.cells [.int .i64 (i : Int)] .own)
          have hacc1 := hacc.keep ((Keep.refl (ex := []) hk'.wf).alloc (.cells [.int .i64 (i : Int)] .own)) (by simp)
          have hy : Sl (g'.alloc (.cells [.int .i64 (i : Int)] .own)) (.slice (some ⟨g'.next, 0⟩) 1 (.exact 1)) [.int .i64 (i : Int)] :=
            ⟨⟨rfl, Nat.le_refl 1⟩, .inr ⟨_, _, Heap.get_alloc _ _, by simp, rfl⟩⟩
          have hwl := whoFrom_length (ready.take i) 0
          simp only [List.length_take] at hwl
          obtain ⟨v', g3, hap, hacc', hk3, hnx⟩ := Acc.push (P := Try.prog) hacc1 hg1 (Nat.le_refl _) (by rw [Heap.next_alloc]; have := hk'.le; omega) u22 s3 (room3 (by simp; omega)) hy rfl
          have hnw : nats (whoFrom (ready.take i) 0) ++ [.int .i64 (i : Int)] = nats (whoFrom (ready.take (i + 1)) 0) := by rw [hwt]; simp [nats, ints]
          rw [hnw] at hacc'
          have hold : oldF ages (whoFrom (ready.take (i + 1)) 0) = oldStep ages (oldF ages (whoFrom (ready.take i) 0)) i := by rw [hwt, oldF_snoc]
          apply WP.region; simp [hl, build22_i, hap]
          repeat apply WP.seq
          have hldB : ∀ {g4 : Heap}, Keep [] g2 g4 → loadA Try.prog g4 29 ⟨B, 0⟩ = some (.agg [pv, .int .i64 b, cv]) := fun hk4 => load_whole (P := Try.prog) a29 s29 (hk4.get _ _ hg2 (by simp)) rfl
          have hcg : ∀ {g4 : Heap}, Keep [] g2 g4 → CallsAt g4 cv cs := fun hk4 => hc.keep (hk2.trans hk4)
          generalize hO : oldF ages (whoFrom (ready.take i) 0) = o at h7 hold
          refine WP.mono (K := fun out e g5 => out = .normal ∧ e.length = 140 ∧ nth e 1 = rv ∧ nth e 2 = .ptr (some ⟨B, 0⟩) ∧ nth e 4 = .ptr (some ⟨D, 0⟩) ∧ nth e 6 = v' ∧ nth e 7 = .int .i64 o ∧ nth e 8 = .int .i64 (i : Int) ∧ nth e 19 = rv ∧ nth e 20 = .int .i64 ready.length ∧ nth e 21 = .int .i64 (i : Int) ∧ nth e 42 = .bool (decide (o < 0 ∨ at0 ages o.toNat < at0 ages i)) ∧ Keep [] g3 g5) ?_ ?_
          · by_cases ho : o < 0
            · refine WP.drawDyn (by kernel_rfl) (dynOk_tw (pl := [(3, 5), (6, 5), (6, 8)]) (by kernel_rfl) ?_) ?_
              · simp [hl, h7, guardA, ho]
              · simp [hl, h1, h2, h4, h7, h19, h20, h21, guardA, ho, Keep.refl hk3.wf]
            · obtain ⟨n, rfl⟩ := Int.eq_ofNat_of_zero_le (show 0 ≤ o by omega)
              obtain ⟨g4, hag1, hk4⟩ := age_ok o26 hk3.wf (pv := pv) (b := b) (hcg hk3) (by omega) i
              obtain ⟨g5, hag2, hk5⟩ := age_ok o26 hk4.wf (pv := pv) (b := b) (hcg (hk3.trans hk4)) (by omega) n
              rw [← hA] at hag1 hag2
              have hl3 := hldB hk3
              have hl4 := hldB (hk3.trans hk4)
              have hl5 := hldB ((hk3.trans hk4).trans hk5)
              have hkf := hk4.trans hk5
              refine WP.drawDyn (by kernel_rfl) (dynOk_tw (pl := [(3, 5), (6, 5), (6, 8)]) (by kernel_rfl) ?_) ?_
              · simp [hl, h2, h7, guardA, ho, hl3, hl4, hl5, hca26, hag1, hag2, loadSame]
              · simp [hl, h1, h2, h4, h7, h19, h20, h21, guardA, ho, hl3, hl4, hl5, hca26, hag1, hag2, hkf]
          · rintro _ e g5 ⟨rfl, hl, h1, h2, h4, h6, h7, h8, h19, h20, h21, h42, hk5⟩
            simp
            repeat apply WP.seq
            have hacc5 := hacc'.keep hk5 (by simp)
            have hk35 := hk3.trans hk5
            apply WP.cond (by rw [ev_tmp]; exact h42)
            · intro hcc
              have hcc := of_decide_eq_true hcc
              apply WP.region; simp [hl, h8]
              apply WP.region; simp [hl, h21, int_wrap (show i < 9223372036854775807 by omega)]
              refine ⟨ready.length - (i + 1), by omega, h1, h2, h4, h19, h20, hk35, i + 1, by omega, rfl, by simp, ?_, by rw [h6]; exact hacc5⟩
              rw [hold]; unfold oldStep; rw [if_pos hcc]
            · intro hcc
              have hcc := of_decide_eq_false hcc
              apply WP.skip; simp
              apply WP.region; simp [hl, h21, int_wrap (show i < 9223372036854775807 by omega)]
              refine ⟨ready.length - (i + 1), by omega, h1, h2, h4, h19, h20, hk35, i + 1, by omega, rfl, by simp, ?_, by rw [h6]; exact hacc5⟩
              rw [hold]; unfold oldStep; rw [if_neg hcc]; exact h7
      · intro hge
        have hge : ¬ i < ready.length := by simpa using hge
        have hi' : i = ready.length := by omega
        subst hi'
        apply WP.exit
        simp
        rw [List.take_length] at h7 hacc
        generalize hwv : nth e 6 = wv at hacc
        have hwn := whoFrom_length ready 0
        have hsw := hacc.sl
        have hlenw : ∀ h, lenA Try.prog h 22 wv = some (.int .i64 ((whoFrom ready 0).length : Nat)) := by
          intro h; obtain ⟨l, c, rfl⟩ := hsw.slice; simpa using lenA_slice (P := Try.prog) u22
        generalize hO : oldF ages (whoFrom ready 0) = o at h7
        repeat apply WP.seq
        apply WP.region; simp [hl]
        repeat apply WP.seq
        have hldB : ∀ {g4 : Heap}, Keep [] g2 g4 → loadA Try.prog g4 29 ⟨B, 0⟩ = some (.agg [pv, .int .i64 b, cv]) := fun hk4 => load_whole (P := Try.prog) a29 s29 (hk4.get _ _ hg2 (by simp)) rfl
        have hldB1 : ∀ {g4 : Heap}, Keep [] g2 g4 → loadA Try.prog g4 3 ⟨B, 1⟩ = some (.int .i64 b) := fun hk4 => load_cell (P := Try.prog) a3 (hk4.get _ _ hg2 (by simp)) rfl
        have hcg : ∀ {g4 : Heap}, Keep [] g2 g4 → CallsAt g4 cv cs := fun hk4 => hc.keep (hk2.trans hk4)
        refine WP.mono (K := fun out e g5 => out = .normal ∧ e.length = 140 ∧ nth e 1 = rv ∧ nth e 2 = .ptr (some ⟨B, 0⟩) ∧ nth e 4 = .ptr (some ⟨D, 0⟩) ∧ nth e 6 = wv ∧ nth e 7 = .int .i64 o ∧ nth e 10 = .int .i64 (-1) ∧ nth e 54 = .bool (decide (0 ≤ o ∧ b ≤ at0 ages o.toNat)) ∧ Keep [] g' g5) ?_ ?_
        · by_cases ho : 0 ≤ o
          · obtain ⟨n, rfl⟩ := Int.eq_ofNat_of_zero_le ho
            obtain ⟨g4, hag1, hk4⟩ := age_ok o26 hk'.wf (pv := pv) (b := b) (hcg hk') (by omega) n
            rw [← hA] at hag1
            have hl3 := hldB hk'
            have hl4 := hldB1 hk'
            have hl5 := hldB1 (hk'.trans hk4)
            refine WP.drawDyn (by kernel_rfl) (dynOk_tw (pl := [(3, 5), (7, 5), (7, 10)]) (by kernel_rfl) ?_) ?_
            · simp [hl, h2, h7, guardA, fa29, hl3, hl4, hl5, hca26, hag1, loadSame]
            · simp [hl, h1, h2, h4, h7, hwv, guardA, fa29, hl3, hl4, hl5, hca26, hag1, hk4]
          · refine WP.drawDyn (by kernel_rfl) (dynOk_tw (pl := [(3, 5), (7, 5), (7, 10)]) (by kernel_rfl) ?_) ?_
            · simp [hl, h7, guardA, ho]
            · simp [hl, h1, h2, h4, h7, hwv, guardA, ho, Keep.refl hk'.wf]
        rintro _ e g5 ⟨rfl, hl, h1, h2, h4, h6, h7, h10, h54, hk5⟩
        simp
        repeat apply WP.seq
        have hsw5 := hsw.keep hk5 (by simp)
        have hk25 := hk'.trans hk5
        have hgB := hk25.get _ _ hg2 (by simp)
        have hp5 := hp.keep (hk2.trans hk25) (by simp)
        refine WP.mono (K := fun out e g6 => out = .normal ∧ e.length = 140 ∧ nth e 1 = rv ∧ nth e 2 = .ptr (some ⟨B, 0⟩) ∧ nth e 4 = .ptr (some ⟨D, 0⟩) ∧ nth e 10 = .int .i64 (nextP picks b ages last ready).chosen ∧ Keep [B] g5 g6 ∧ ∃ pv', g6.get B = some (.cells [pv', .int .i64 b, cv] .own) ∧ Sl g6 pv' (ints (nextP picks b ages last ready).picks) ∧ (ints (nextP picks b ages last ready).picks ≠ [] → ∀ j, idOf pv' = some j → j < B) ∧ (∀ j, idOf pv' = some j → idOf pv = some j)) ?_ ?_
        · have hpid : ints picks ≠ [] → ∀ j, idOf pv = some j → j < B := fun hne j hj => by have := hp.lt hw hne hj; omega
          by_cases hne : whoFrom ready 0 = []
          · obtain ⟨hN1, hN2⟩ := next_none (picks := picks) (b := b) (ages := ages) (last := last) hne
            have ho : o = -1 := by rw [← hO, hne]; rfl
            rw [hN1, hN2]
            simp only [hne, List.length_nil] at hlenw
            apply WP.cond (t := false) (by rw [ev_tmp, h54]; simp [ho]) (by simp)
            intro _
            repeat apply WP.seq
            apply WP.region; simp [hl, h6, hlenw, guardA]
            repeat apply WP.seq
            apply WP.cond (t := false) (by simp [hl]) (by simp)
            intro _
            repeat apply WP.seq
            apply WP.region; simp [hl, h6, hlenw]
            repeat apply WP.seq
            apply WP.cond (t := false) (by simp [hl]) (by simp)
            intro _
            apply WP.skip
            refine ⟨rfl, by simp [hl], by simp [h1], by simp [h2], by simp [h4], by simp [h10], Keep.refl hk5.wf, pv, hgB, hp5, hpid, fun _ h => h⟩
          · have hcases := next_cases (picks := picks) (b := b) (ages := ages) (last := last) hne
            rw [hO] at hcases
            have ho : 0 ≤ o := by rw [← hO, oldF_best ages _ _ rfl hne]; omega
            generalize nextP picks b ages last ready = N at hcases
            rcases hcases with ⟨hc1, hN1, hN2⟩ | ⟨hc1, hrest⟩
            · apply WP.cond (t := true) (by rw [ev_tmp, h54]; simp [ho, hc1]) ?_ (by simp)
              intro _
              apply WP.region; simp [hl, h1, h2, h4, h7, hN1, hN2]
              exact ⟨Keep.refl hk5.wf, pv, hgB, hp5, hpid, fun _ h => h⟩
            · apply WP.cond (t := false) (by rw [ev_tmp, h54]; simp [hc1]) (by simp)
              intro _
              have hwpos : (whoFrom ready 0).length ≠ 0 := by have := List.length_pos_iff.2 hne; omega
              have hlp := load_cell (P := Try.prog) a22 hgB (o := 0) (v := pv) rfl
              have hlenp := hp5.len (P := Try.prog) u22
              have hwpos' : 0 < (whoFrom ready 0).length := by omega
              repeat apply WP.seq
              apply WP.region; simp [hl, h2, h6, hlenw, hwpos', guardA, fa29, hlp, hlenp]
              repeat apply WP.seq
              rcases hrest with ⟨p, ps, rfl, hN1, hN2⟩ | ⟨rfl, hN1, hN2⟩
              · apply WP.cond (t := true) (by simp [hl]) ?_ (by simp)
                intro _
                repeat apply WP.seq
                have hr0 := pickAt_range p hwpos'
                have hne0 : (((whoFrom ready 0).length : Nat) : Int) ≠ 0 := by omega
                obtain ⟨l5, hl5, hl5', _⟩ := hp5.at (P := Try.prog) u22 s3 a3 (ints_get (i := 0) (x := p) rfl) (k := .i64)
                simp at hl5
                obtain ⟨pv2, hsl2, hp2, hid2⟩ := Sl.tail (P := Try.prog) (x := .int .i64 p) (xs := ints ps) hp5 u22 s3 (k := .i64)
                obtain ⟨n, hn2⟩ := Int.eq_ofNat_of_zero_le hr0.1
                have hnl : n < (whoFrom ready 0).length := by omega
                obtain ⟨x, hx⟩ : ∃ x, (whoFrom ready 0)[n]? = some x := ⟨(whoFrom ready 0)[n], by simp [hnl]⟩
                have hgd : (whoFrom ready 0).getD n 0 = x := by simp [List.getD_eq_getElem?_getD, hx]
                rw [hn2, Int.toNat_natCast, hgd] at hN1
                obtain ⟨l1, hl1, hl1', _⟩ := hsw5.at (P := Try.prog) u22 s3 a3 (nats_get hx) (k := .i64)
                obtain ⟨l', c', rfl⟩ := hp2.slice
                have hstp := store_cell (P := Try.prog) s22 (v := .slice l' (ints ps).length c') rfl rfl hgB (by simp) (o := 0) (by simp)
                simp only [List.set_cons_zero] at hstp
                have hkp : Keep [B] g5 (g5.set B (.cells [.slice l' (ints ps).length c', .int .i64 b, cv] .own)) := (Keep.refl hk5.wf).set _ (hk5.wf _ _ hgB) (.inl (by simp))
                have hgp := Heap.get_set g5 B (.cells [.slice l' (ints ps).length c', .int .i64 b, cv] .own)
                generalize g5.set B (.cells [.slice l' (ints ps).length c', .int .i64 b, cv] .own) = gp at hstp hkp hgp
                simp only [ints_length] at hstp hsl2
                apply WP.region; simp [hl, h2, h6, fa29, hlp, hl5, hl5', hlenw, bin_rem hne0]
                repeat apply WP.seq
                apply WP.region; simp [hl]
                repeat apply WP.seq
                refine WP.mono (K := fun out e gx => out = .normal ∧ g5 = gx ∧ e.length = 140 ∧ nth e 1 = rv ∧ nth e 2 = .ptr (some ⟨B, 0⟩) ∧ nth e 4 = .ptr (some ⟨D, 0⟩) ∧ nth e 6 = wv ∧ nth e 11 = .int .i64 (n : Int)) ?_ ?_
                · apply WP.cond (by simp [hl]; rfl)
                  · intro hq
                    have hq : p.tmod (whoFrom ready 0).length < 0 := by simpa using hq
                    have hpa : p.tmod (whoFrom ready 0).length + (whoFrom ready 0).length = (n : Int) := by rw [← hn2]; simp only [pickAt, if_pos hq]
                    have hwp : IntKind.wrap .i64 (p.tmod (whoFrom ready 0).length + (whoFrom ready 0).length) = (n : Int) := by rw [hpa]; exact wrap_small (by omega) (by omega)
                    apply WP.region; simp [hl, h1, h2, h4, h6, hlenw, hwp]
                  · intro hq
                    have hq : ¬ p.tmod (whoFrom ready 0).length < 0 := by simpa using hq
                    have hpa : p.tmod (whoFrom ready 0).length = (n : Int) := by rw [← hn2]; simp only [pickAt, if_neg hq]
                    apply WP.skip; simp [hl, h1, h2, h4, h6, hpa]
                rintro _ e _ ⟨rfl, rfl, hl, h1, h2, h4, h6, h11⟩
                simp
                repeat apply WP.seq
                apply WP.region; simp [hl, h6, h11, hl1, hl1']
                apply WP.region; simp [hl, h1, h2, h4, fa29, hlp, hsl2, storeR_ptr hstp, hN1, hN2, hkp]
                have hlt2 : ∀ j, idOf (.slice l' (ints ps).length c') = some j → j < B := fun j hj => hpid (by simp [ints]) j (hid2 j hj)
                have hpk := hp2.keep hkp (fun i hi hm => by
                  have := hlt2 i hi
                  simp only [List.mem_singleton] at hm
                  omega)
                exact ⟨_, hgp, hpk, fun _ => hlt2, hid2⟩
              · apply WP.cond (t := false) (by simp [hl]) (by simp)
                intro _
                repeat apply WP.seq
                apply WP.region; simp [hl, h6, hlenw, hwpos']
                repeat apply WP.seq
                apply WP.cond (t := true) (by simp [hl]) ?_ (by simp)
                intro _
                repeat apply WP.seq
                apply WP.region; simp [hl]
                repeat apply WP.seq
                have hlc := load_cell (P := Try.prog) a27 hgB (o := 2) (v := cv) rfl
                have hcc5 := hcg hk25
                have hrlc := rowsOf_length cs
                have hlcn : lenA Try.prog g5 27 cv = some (.int .i64 (cs.length : Nat)) := by rw [← hrlc]; exact hcc5.1.len (P := Try.prog) g5 u27
                apply WP.region; simp [hl, h2, fa29, hlc, hlcn]
                repeat apply WP.seq
                apply WP.block
                refine WP.loop (fun m e gx => e.length = 140 ∧ nth e 1 = rv ∧ nth e 2 = .ptr (some ⟨B, 0⟩) ∧ nth e 4 = .ptr (some ⟨D, 0⟩) ∧ nth e 6 = wv ∧ nth e 90 = cv ∧ nth e 91 = .int .i64 cs.length ∧ Keep [] g5 gx ∧ ∃ k, k ≤ cs.length ∧ m = cs.length - k ∧ nth e 92 = .int .i64 (k : Nat) ∧ nth e 12 = .int .i64 (lastOf (cs.take k))) ?_ cs.length _ _ ?_
                · rintro m e gx ⟨hl, h1, h2, h4, h6, h90, h91, hkx, k, hkl, rfl, h92, h12⟩
                  repeat apply WP.seq
                  apply WP.region; simp [hl, h91, h92]
                  repeat apply WP.seq
                  apply WP.cond (by simp [hl]; rfl)
                  · intro hlt1
                    have hlt1 : k < cs.length := by simpa using hlt1
                    apply WP.skip; simp
                    repeat apply WP.seq
                    apply WP.block
                    repeat apply WP.seq
                    obtain ⟨⟨xv, xr, xc⟩, hx⟩ : ∃ x, cs[k]? = some x := ⟨cs[k], by simp [hlt1]⟩
                    have hrow : (rowsOf cs)[k]? = some [xv, .int .i64 xc] := by simp [rowsOf, hx]
                    have hcx := hcc5.keep hkx
                    obtain ⟨l1, hl1, hl1', _⟩ := hcx.1.at (P := Try.prog) u27 s65 a65 hrow (k := .i64)
                    have hxv := sl_cellOk (hcx.2 _ (List.mem_of_getElem? hx))
                    have hka := hkx.alloc (.cells [.slice none 0 (.exact 0), .int .i64 0] .own)
                    have hga := Heap.get_alloc gx (.cells [.slice none 0 (.exact 0), .int .i64 0] .own)
                    have hal65 : allocA Try.prog gx 65 = _ := alloc65 (h := gx)
                    generalize gx.alloc (.cells [.slice none 0 (.exact 0), .int .i64 0] .own) = ga at hka hga hal65
                    have hst := store_whole (P := Try.prog) s65 hga rfl (ds := [xv, .int .i64 xc]) rfl (by simp only [cellsOk, hxv, Bool.true_and]; rfl)
                    have hkb := hka.set (.cells [xv, .int .i64 xc] .own) (hka.wf _ _ hga) (.inr hkx.le)
                    have hgb := Heap.get_set ga gx.next (.cells [xv, .int .i64 xc] .own)
                    generalize ga.set gx.next (.cells [xv, .int .i64 xc] .own) = gb at hst hkb hgb
                    have hld1 := load_cell (P := Try.prog) a3 hgb (o := 1) (v := .int .i64 xc) rfl
                    have hlast' := lastOf_take hx
                    simp only at hlast'
                    apply WP.region; simp [hl, h90, h92, hl1, hl1', hal65, storeR_ptr hst]
                    repeat apply WP.seq
                    apply WP.region; simp [hl, fa65, hld1]
                    repeat apply WP.seq
                    apply WP.cond (by simp [hl]; rfl)
                    · intro hq
                      have hq : 0 ≤ xc := by simpa using hq
                      apply WP.region; simp [hl, fa65, hld1]
                      apply WP.region; simp [hl, h92, int_wrap (show k < 9223372036854775807 by omega)]
                      exact ⟨cs.length - (k + 1), by omega, h1, h2, h4, h6, h90, h91, hkb, k + 1, by omega, rfl, by simp, by rw [hlast', if_pos hq]⟩
                    · intro hq
                      have hq : ¬ 0 ≤ xc := by simpa using hq
                      apply WP.skip; simp
                      apply WP.region; simp [hl, h92, int_wrap (show k < 9223372036854775807 by omega)]
                      exact ⟨cs.length - (k + 1), by omega, h1, h2, h4, h6, h90, h91, hkb, k + 1, by omega, rfl, by simp, by rw [hlast', if_neg hq]; exact h12⟩
                  · intro hge
                    have hge : ¬ k < cs.length := by simpa using hge
                    have hk0 : k = cs.length := by omega
                    subst hk0
                    apply WP.exit
                    simp
                    rw [List.take_length, ← hlast] at h12
                    repeat apply WP.seq
                    have hswx := hsw5.keep hkx (by simp)
                    obtain ⟨x0, hx0⟩ : ∃ x, (whoFrom ready 0)[0]? = some x := ⟨(whoFrom ready 0)[0], by simp [hwpos']⟩
                    have hg0 : (whoFrom ready 0).getD 0 0 = x0 := by simp [List.getD_eq_getElem?_getD, hx0]
                    obtain ⟨l0, hl0, hl0', _⟩ := hswx.at (P := Try.prog) u22 s3 a3 (nats_get hx0) (k := .i64)
                    simp at hl0
                    have hwl1 : IntKind.wrap .i64 (((whoFrom ready 0).length : Int) - 1) = ((whoFrom ready 0).length : Int) - 1 := wrap_small (by omega) (by omega)
                    apply WP.region; simp [hl, h6, hl0, hl0']
                    repeat apply WP.seq
                    apply WP.region; simp [hl, h6, hlenw, hwl1]
                    apply WP.block
                    refine WP.loop (fun m e gy => gx = gy ∧ e.length = 140 ∧ nth e 1 = rv ∧ nth e 2 = .ptr (some ⟨B, 0⟩) ∧ nth e 4 = .ptr (some ⟨D, 0⟩) ∧ nth e 6 = wv ∧ nth e 12 = .int .i64 last ∧ ∃ k, k ≤ (whoFrom ready 0).length ∧ m = k ∧ nth e 15 = .int .i64 ((k : Int) - 1) ∧ nth e 10 = .int .i64 (scan last (whoFrom ready 0) k : Nat)) ?_ (whoFrom ready 0).length _ _ ?_
                    · rintro m e gy ⟨rfl, hl, h1, h2, h4, h6, h12, k, hkl, rfl, h15, h10⟩
                      repeat apply WP.seq
                      apply WP.region; simp [hl, h15]
                      repeat apply WP.seq
                      apply WP.cond (by simp [hl]; rfl)
                      · intro hpos
                        have hpos : 1 ≤ m := by
                          have : (0 : Int) ≤ (m : Int) - 1 := by simpa using hpos
                          omega
                        obtain ⟨k, rfl⟩ : ∃ k, m = k + 1 := ⟨m - 1, by omega⟩
                        have hki : ((k + 1 : Nat) : Int) - 1 = (k : Int) := by omega
                        rw [hki] at h15
                        obtain ⟨xk, hxk⟩ : ∃ x, (whoFrom ready 0)[k]? = some x := ⟨(whoFrom ready 0)[k], by simp [show k < (whoFrom ready 0).length by omega]⟩
                        have hstep := scan_step (last := last) hxk
                        obtain ⟨lk, hlk, hlk', _⟩ := hswx.at (P := Try.prog) u22 s3 a3 (nats_get hxk) (k := .i64)
                        apply WP.skip; simp
                        repeat apply WP.seq
                        apply WP.block
                        repeat apply WP.seq
                        apply WP.region; simp [hl, h6, h12, h15, hlk, hlk']
                        repeat apply WP.seq
                        apply WP.cond (by simp [hl]; rfl)
                        · intro hq
                          have hq : last < (xk : Int) := by simpa using hq
                          apply WP.region; simp [hl, h6, h15, hlk, hlk']
                          apply WP.region; simp [hl, h15, wrap_small (show -9223372036854775808 ≤ (k : Int) - 1 by omega) (by omega)]
                          exact ⟨k, by omega, h1, h2, h4, h6, h12, k, by omega, rfl, by simp, by rw [hstep, if_pos hq]⟩
                        · intro hq
                          have hq : ¬ last < (xk : Int) := by simpa using hq
                          apply WP.skip; simp
                          apply WP.region; simp [hl, h15, wrap_small (show -9223372036854775808 ≤ (k : Int) - 1 by omega) (by omega)]
                          exact ⟨k, by omega, h1, h2, h4, h6, h12, k, by omega, rfl, by simp, by rw [hstep, if_neg hq]; exact h10⟩
                      · intro hneg
                        have hm0 : m = 0 := by
                          have : ¬ (0 : Int) ≤ (m : Int) - 1 := by simpa using hneg
                          omega
                        subst hm0
                        apply WP.exit
                        have hgBx := hkx.get _ _ hgB (by simp)
                        simp [hl, h1, h2, h4, h10, hN1, hN2]
                        exact ⟨hkx.more (by simp), pv, hgBx, hp5.keep hkx (by simp), by simp [ints], fun _ h => h⟩
                    · refine ⟨rfl, by simp [hl], by simp [h1], by simp [h2], by simp [h4], by simp [h6], by simp [h12], _, Nat.le_refl _, rfl, by simp [hl], by simp [hl, scan_all]; rw [← hg0]; simp⟩
                · refine ⟨by simp [hl], by simp [h1], by simp [h2], by simp [h4], by simp [h6], by simp [hl], by simp [hl], Keep.refl hk5.wf, 0, by omega, by omega, by simp [hl], by simp [hl, lastOf]⟩
        rintro _ e g6 ⟨rfl, hl, h1, h2, h4, h10, hk6, pv', hgB6, hp6, hpid6, hpid7⟩
        simp
        generalize (nextP picks b ages last ready).chosen = ch at h10
        generalize (nextP picks b ages last ready).picks = ps at hp6 hpid6
        have hkh6 : Keep [B] h g6 := ((hk2.trans hk25).more (by simp)).trans hk6
        have hk26 : Keep [B] g2 g6 := (hk25.more (by simp)).trans hk6
        have hr6 : Sl g6 rv (bools ready) := hr.keep' hkh6 (by
          intro hne i hi hm
          have := hr.lt hw hne hi
          simp only [List.mem_singleton] at hm
          omega)
        have hc6 : CallsAt g6 cv cs := by
          refine ⟨hc.1.keep' hkh6 ?_, fun x hx => (hc.2 x hx).keep' hkh6 ?_⟩
          · intro hne i hi hm
            have := hc.1.lt hw hne hi
            simp only [List.mem_singleton] at hm
            omega
          · intro hne i hi hm
            have := (hc.2 x hx).lt hw hne hi
            simp only [List.mem_singleton] at hm
            omega
        have hgD6 : g6.get D = _ := hk26.get _ _ hD (by simp; omega)
        obtain ⟨ov', g7, B', hap, hown7, hB', hk7⟩ := hr6.clone (P := Try.prog) hk6.wf u31 s4 (fun _ => room4 (by simp; omega)) bools_ok
        repeat apply WP.seq
        apply WP.region; simp [hl, build31]
        repeat apply WP.seq
        apply WP.region; simp [hl, h1, hap]
        repeat apply WP.seq
        apply WP.region; simp [hl, build27]
        repeat apply WP.seq
        have hk8 : Keep [] g6 (g7.alloc (.cells [] .own)) := hk7.alloc _
        have hg8 := Heap.get_alloc g7 (.cells [] .own)
        have hk78 : Keep [] g7 (g7.alloc (.cells [] .own)) := (Keep.refl hk7.wf).alloc _
        have hn78 : g7.next ≤ (g7.alloc (.cells [] .own)).next := by rw [Heap.next_alloc]; omega
        generalize g7.alloc (.cells [] .own) = g8 at hk8 hg8 hk78 hn78
        have hA8 : Accr g7.next g8 2 (.slice (some ⟨g7.next, 0⟩) 0 (.exact 0)) [] := ⟨by simp, .inl ⟨rfl, _, rfl, fun x hx => by cases hx; exact ⟨Nat.le_refl _, rfl, [], hg8⟩⟩⟩
        have hc8 := hc6.keep hk8
        have hrl := rowsOf_length cs
        obtain ⟨v9, g9, hap9, hacc9, hk9, hn9⟩ := hA8.push hk78 (Nat.le_refl _) hn78 u27 s65 (by decide) hc8.1 (rowsOf_ok hc8.2) (fun _ => room65 (by simp [hrl]; omega))
        rw [List.nil_append] at hacc9
        have hld8 := load_cell (P := Try.prog) a27 (hk8.get _ _ hgB6 (by simp)) (o := 2) (v := cv) rfl
        apply WP.region; simp [hl, h2, fa29, hld8, hap9]
        repeat apply WP.seq
        have hsl7 := hown7.sl
        obtain ⟨c7, ⟨rfl, _⟩, hg7⟩ := hown7
        have hk10 := hk9.alloc (.cells [.slice (some ⟨B', 0⟩) (bools ready).length c7, .int .i64 ch] .own)
        have hk910 := (Keep.refl (ex := []) hk9.wf).alloc (.cells [.slice (some ⟨B', 0⟩) (bools ready).length c7, .int .i64 ch] .own)
        have hg10 := Heap.get_alloc g9 (.cells [.slice (some ⟨B', 0⟩) (bools ready).length c7, .int .i64 ch] .own)
        have hn10 : (g9.alloc (.cells [.slice (some ⟨B', 0⟩) (bools ready).length c7, .int .i64 ch] .own)).next = g9.next + 1 := rfl
        have hbs : buildSliceA Try.prog g9 27 1 [(0, .agg [.slice (some ⟨B', 0⟩) (bools ready).length c7, .int .i64 ch])] = some (.slice (some ⟨g9.next, 0⟩) 1 (.exact 1), g9.alloc (.cells [.slice (some ⟨B', 0⟩) (bools ready).length c7, .int .i64 ch] .own)) := build27_1
        generalize g9.alloc (.cells [.slice (some ⟨B', 0⟩) (bools ready).length c7, .int .i64 ch] .own) = g10 at hk10 hk910 hg10 hn10 hbs
        have hy : Slr g10 2 (.slice (some ⟨g9.next, 0⟩) 1 (.exact 1)) [[.slice (some ⟨B', 0⟩) (bools ready).length c7, .int .i64 ch]] :=
          ⟨by simp, rfl, .inr ⟨_, _, hg10, by simp, by simp⟩⟩
        obtain ⟨v11, g11, hap11, hacc11, hk11, hn11⟩ := (hacc9.keep hk910 (by simp)).push hk10 (Nat.le_refl _) (by omega) u27 s65 (by decide) hy rfl (fun _ => room65 (by simp [hrl]; omega))
        have hk611 := hk7.trans hk11
        have hv11 : cellsA v11 = some [v11] ∧ cellOk v11 = true := by obtain ⟨l, c, rfl⟩ := hacc11.slr.slice; exact ⟨rfl, rfl⟩
        have hgB11 := hk611.get _ _ hgB6 (by simp)
        have hst11 := store_cell (P := Try.prog) s27 hv11.1 hv11.2 hgB11 (by simp) (o := 2) (by simp)
        simp only [List.set_cons_succ, List.set_cons_zero] at hst11
        have hB11 : B < g11.next := hk611.wf _ _ hgB11
        have hk12 : Keep [B] g11 (g11.set B (.cells [pv', .int .i64 b, v11] .own)) := (Keep.refl hk611.wf).set _ hB11 (.inl (by simp))
        have hg12 := Heap.get_set g11 B (.cells [pv', .int .i64 b, v11] .own)
        generalize g11.set B (.cells [pv', .int .i64 b, v11] .own) = g12 at hst11 hk12 hg12
        have hl12 := load_whole (P := Try.prog) a29 s29 hg12 rfl
        have hgD12 := hk12.get _ _ (hk611.get _ _ hgD6 (by simp)) (by simp; omega)
        have hpc : cellOk pv' = true := sl_cellOk hp6
        have hst12 := store_whole (P := Try.prog) s29 hgD12 rfl (ds := [pv', .int .i64 b, v11]) rfl (by simp only [cellsOk, hpc, hv11.2, Bool.true_and, Bool.and_true]; rfl)
        have hk13 : Keep [D] g12 (g12.set D (.cells [pv', .int .i64 b, v11] .own)) := (Keep.refl hk12.wf).set _ (hk12.wf _ _ hgD12) (.inl (by simp))
        have hg13 := Heap.get_set g12 D (.cells [pv', .int .i64 b, v11] .own)
        generalize g12.set D (.cells [pv', .int .i64 b, v11] .own) = g13 at hst12 hk13 hg13
        have hl13 := load_whole (P := Try.prog) a29 s29 hg13 rfl
        simp only [bools_length] at hbs
        apply WP.region; simp [hl, h2, h10, fa29, build65, hbs, hap11, storeR_ptr hst11]
        repeat apply WP.seq
        apply WP.region; simp [hl, h2, h4, h10, hl12, storeR_ptr hst12]
        apply WP.ret
        have hkall : Keep [B, D] g6 g13 := ((hk611.more (by simp)).trans (hk12.more (by simp))).trans (hk13.more (by simp))
        have hkfin : Keep [] h g13 := ((hkh6.more (ex' := [B, D]) (by simp)).trans hkall).more (by
          intro i hi
          right
          simp only [List.mem_cons, List.mem_nil_iff, or_false] at hi
          rcases hi with rfl | rfl <;> omega)
        have hpf : Sl g13 pv' (ints ps) := hp6.keep' hkall (by
          intro hne i hi hm
          have := hpid6 hne i hi
          simp only [List.mem_cons, List.mem_nil_iff, or_false] at hm
          rcases hm with rfl | rfl <;> omega)
        have hD6 : D < g6.next := hk6.wf _ _ hgD6
        have hB6 : B < g6.next := hk6.wf _ _ hgB6
        have hk7l := hk7.le
        have hkbd : Keep [B, D] g11 g13 := (hk12.more (by simp)).trans (hk13.more (by simp))
        have hcf : CallsAt g13 v11 (cs ++ [(.slice (some ⟨B', 0⟩) ready.length c7, ready, ch)]) := by
          have hrw : rowsOf (cs ++ [(.slice (some ⟨B', 0⟩) ready.length c7, ready, ch)]) = rowsOf cs ++ [[.slice (some ⟨B', 0⟩) (bools ready).length c7, .int .i64 ch]] := by simp [rowsOf]
          refine ⟨?_, ?_⟩
          · rw [hrw]
            refine hacc11.slr.keep' hkbd fun _ i hi hm => ?_
            have := hacc11.id hi
            simp only [List.mem_cons, List.mem_nil_iff, or_false] at hm
            rcases hm with rfl | rfl <;> omega
          · intro x hx
            rcases List.mem_append.1 hx with hx | hx
            · exact (hc.2 x hx).keep hkfin (by simp)
            · simp only [List.mem_singleton] at hx
              subst hx
              rw [bools_length] at hsl7
              refine hsl7.keep (((hk11.more (ex' := [B, D]) (by simp)).trans hkbd)) fun i hi hm => ?_
              cases hi
              simp only [List.mem_cons, List.mem_nil_iff, or_false] at hm
              rcases hm with rfl | rfl <;> omega
        simp [hl, h4, resultsA, resultA, single, hl13, hkfin]
        refine ⟨pv', v11, ⟨rfl, rfl⟩, hpf, _, hcf, hpid7, fun j hj => ?_, fun j hj => ?_⟩
        · have := hacc11.id hj; have := hkh6.le; omega
        · have := hkh6.le
          cases hj
          show _ ≤ B'
          omega
    · refine ⟨by simp [hl], by simp [h1], by simp [hl], by simp [hl], by simp [hl], by simp [hl], hk3, 0, by omega, by omega, by simp [hl], by simp [hl, whoFrom, oldF], ?_⟩
      simp [hl, whoFrom, nats, ints]
      exact Acc.empty (Nat.le_refl _) (Heap.get_alloc _ _)
  obtain ⟨_, h', h1, pv', cv', rv', rfl, h2⟩ := main
  exact ⟨h', pv', cv', rv', h1, h2⟩
end
end Go.Am
