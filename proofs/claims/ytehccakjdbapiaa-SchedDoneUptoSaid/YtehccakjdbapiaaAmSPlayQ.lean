/- A part of the proof by the abstract machine: SPlayQ. -/
import Derived.Test.YtehccakjdbapiaaAmSPlayS
set_option linter.unusedSimpArgs false
namespace Go.Am
open Go.RowKit Go.Proofs

section
variable {ov : CallF}

set_option maxHeartbeats 4000000 in
theorem splay_ok (O : OvOk ov) (o19 : ∀ a h, ov 19 a h = none) (o21 : ∀ a h, ov 21 a h = none) (o22 : ∀ a h, ov 22 a h = none) (o23 : ∀ a h, ov 23 a h = none) (o24 : ∀ a h, ov 24 a h = none) (o46 : ∀ a h, ov 46 a h = none) (o47 : ∀ a h, ov 47 a h = none) {h : Heap} (hw : Wf h) {jv pv : AV} {jobs : List (Int × Int)} (hj : Slr h 2 jv (rowsJ jobs)) (hjn : jobs.length ≤ 1000000)
    {picks : List Int} (hp : Sl h pv (ints picks)) (hpn : picks.length ≤ 1000000000) (b steps : Int) (hst : steps ≤ 1000000) (hst' : -9223372036854775808 ≤ steps) (hon : (playOut jobs picks b steps).length ≤ 1000000000) :
    ∃ v' h', callT ov Try.prog 19 [jv, pv, .int .i64 b, .int .i64 steps] h = some (.ret v' h') ∧ Sl h' v' (ints (playOut jobs picks b steps)) ∧ (playOut jobs picks b steps ≠ [] → ∃ i, Own h' v' i (ints (playOut jobs picks b steps)) ∧ h.next ≤ i) ∧ Keep [] h h' := by
  have main : ∃ u h', callT ov Try.prog 19 [jv, pv, .int .i64 b, .int .i64 steps] h = some (.ret u h') ∧ Sl h' u (ints (playOut jobs picks b steps)) ∧ (playOut jobs picks b steps ≠ [] → ∃ i, Own h' u i (ints (playOut jobs picks b steps)) ∧ h.next ≤ i) ∧ Keep [] h h' := by
    refine callT_wp (fn := Try.f19) (o19 _ _) (by kernel_rfl) rfl ?_
    have hl : (frameA Try.f19 [jv, pv, .int .i64 b, .int .i64 steps]).length = 35 := frameA_length (Nat.le_of_ble_eq_true rfl)
    have h0 : nth (frameA Try.f19 [jv, pv, .int .i64 b, .int .i64 steps]) 0 = jv := frameA_nth (Nat.le_of_ble_eq_true rfl)
    have h1 : nth (frameA Try.f19 [jv, pv, .int .i64 b, .int .i64 steps]) 1 = pv := frameA_nth (Nat.le_of_ble_eq_true rfl)
    have h2 : nth (frameA Try.f19 [jv, pv, .int .i64 b, .int .i64 steps]) 2 = .int .i64 b := frameA_nth (Nat.le_of_ble_eq_true rfl)
    have h3 : nth (frameA Try.f19 [jv, pv, .int .i64 b, .int .i64 steps]) 3 = .int .i64 steps := frameA_nth (Nat.le_of_ble_eq_true rfl)
    generalize frameA Try.f19 [jv, pv, .int .i64 b, .int .i64 steps] = e at hl h0 h1 h2 h3
    have hca11 : ∀ args h, callA (callT ov Try.prog) Try.prog h 11 args = callT ov Try.prog 11 args h := fun args h => callA_of (fn := Try.f11) (by kernel_rfl) rfl
    have hca21 : ∀ args h, callA (callT ov Try.prog) Try.prog h 21 args = callT ov Try.prog 21 args h := fun args h => callA_of (fn := Try.f21) (by kernel_rfl) rfl
    have hca22 : ∀ args h, callA (callT ov Try.prog) Try.prog h 22 args = callT ov Try.prog 22 args h := fun args h => callA_of (fn := Try.f22) (by kernel_rfl) rfl
    have hca23 : ∀ args h, callA (callT ov Try.prog) Try.prog h 23 args = callT ov Try.prog 23 args h := fun args h => callA_of (fn := Try.f23) (by kernel_rfl) rfl
    have hca24 : ∀ args h, callA (callT ov Try.prog) Try.prog h 24 args = callT ov Try.prog 24 args h := fun args h => callA_of (fn := Try.f24) (by kernel_rfl) rfl
    have hlenj : ∀ h, lenA Try.prog h 41 jv = some (.int .i64 (jobs.length : Nat)) := fun h' => by simpa [rowsJ_length] using hj.len (P := Try.prog) h' u41
    obtain ⟨L, g1, hnl, hgL1, hk1, hLh, hL1⟩ := newLog_ok o21 hw
    repeat apply WP.seq
    apply WP.region; simp [hl]
    repeat apply WP.seq
    apply WP.region; simp [hl, hca21, hnl]
    repeat apply WP.seq
    apply WP.region; simp [hl]
    repeat apply WP.seq
    apply WP.region; simp [hl, h0, hlenj]
    repeat apply WP.seq
    apply WP.block
    refine WP.loop (fun k e g' => e.length = 35 ∧ nth e 1 = pv ∧ nth e 2 = .int .i64 b ∧ nth e 3 = .int .i64 steps ∧ nth e 9 = .ptr (some ⟨L, 0⟩) ∧ nth e 14 = jv ∧ nth e 15 = .int .i64 jobs.length ∧ Keep [] h g' ∧ ∃ (i : Nat) (av : AV) (Ws : List Nat), i ≤ jobs.length ∧ k = jobs.length - i ∧ nth e 16 = .int .i64 (i : Nat) ∧ nth e 10 = av ∧ Ws.length = i ∧
      Acc h.next g' av (acts Ws) ∧ g'.get L = some (.cells [.slice none 0 (.exact 0), .int .i64 (i : Nat)] .own) ∧ (∀ (k W : Nat) (j : Int × Int), Ws[k]? = some W → jobs[k]? = some j → g'.get W = some (.cells (wcells L j k 0) .own)) ∧ (∀ W ∈ Ws, L < W ∧ W < g'.next) ∧ (∀ i j W : Nat, Ws[i]? = some W → Ws[j]? = some W → i = j) ∧ (∀ j, idOf av = some j → j ≠ L ∧ j ∉ Ws)) ?_ jobs.length _ _ ?_
    · rintro k e g' ⟨hl, h1, h2, h3, h9, h14, h15, hkh, i, av, Ws, hi, rfl, h16, h10, hWl, hacc, hgL, hwk, hWn, hnd, hax⟩
      repeat apply WP.seq
      apply WP.region; simp [hl, h15, h16]
      repeat apply WP.seq
      apply WP.cond (by simp [hl]; rfl)
      · intro hlt1
        have hlt1 : i < jobs.length := by simpa using hlt1
        apply WP.skip; simp
        repeat apply WP.seq
        apply WP.block
        repeat apply WP.seq
        have hji : jobs[i]? = some jobs[i] := List.getElem?_eq_getElem hlt1
        generalize jobs[i] = j at hji
        obtain ⟨l1, hl1, hl1', _⟩ := (hj.keep' hkh (by simp)).at (P := Try.prog) u41 s49 a49 (rowsJ_get hji) (k := .i64)
        obtain ⟨B, ga, g3, hal, hst3, hk3, hg3, hB, hB', _⟩ := fresh49 hkh.wf j.1 j.2
        have hkl := hkh.le
        have hk3l := hk3.le
        have hgL3 := hk3.get _ _ hgL (by simp)
        have hLg : L < g'.next := hkh.wf _ _ hgL
        have hld3 := load_whole (P := Try.prog) a49 s49 hg3 rfl
        obtain ⟨W, g4, hadd, hgL4, hgW4, hk4, hW3, hW4⟩ := add_ok o23 hk3.wf hgL3 (by omega) j.1 j.2
        have hk4l := hk4.le
        have hbs := build54_1 (h := g4) (t := 69) (l := some ⟨W, 0⟩)
        have hk5 := (Keep.refl (ex := []) hk4.wf).alloc (.cells [.iface 69 (.ptr (some ⟨W, 0⟩))] .own)
        have hg5 := Heap.get_alloc g4 (.cells [.iface 69 (.ptr (some ⟨W, 0⟩))] .own)
        generalize g4.alloc (.cells [.iface 69 (.ptr (some ⟨W, 0⟩))] .own) = g5 at hbs hk5 hg5
        have hk5l := hk5.le
        have hacc5 := ((hacc.keep2 hk3 (by simp)).keep2 hk4 (fun j hj hm => by
          simp only [List.mem_singleton] at hm
          exact (hax j hj).1 hm)).keep2 hk5 (by simp)
        have hmem : ∀ j, j ∈ (idOf av).toList → idOf av = some j := fun j hj => by simpa using hj
        have hdge := fun j (hj : idOf av = some j) => hacc.id hj
        have halt := fun j (hj : idOf av = some j) => hacc.lt hkh.wf hj
        obtain ⟨av', g6, hap, hacc6, hk6, hid6⟩ := hacc5.pushX (P := Try.prog) (ex := (idOf av).toList) hk5.wf (by simp) (by omega) u54 s56 (room56 (by simp [acts]; omega)) (x := .iface 69 (.ptr (some ⟨W, 0⟩))) (y := .slice (some ⟨g4.next, 0⟩) 1 (.exact 1)) ⟨⟨rfl, by simp [capOk]⟩, .inr ⟨_, .own, hg5, by simp, rfl⟩⟩ rfl
        have hk6l := hk6.le
        have hac : acts Ws ++ [.iface 69 (.ptr (some ⟨W, 0⟩))] = acts (Ws ++ [W]) := by simp [acts]
        rw [hac] at hacc6
        have hgL6 := hk6.get _ _ (hk5.get _ _ hgL4 (by simp)) (fun hm => (hax L (hmem L hm)).1 rfl)
        have hgW6 := hk6.get _ _ (hk5.get _ _ hgW4 (by simp)) (fun hm => by have := halt W (hmem W hm); omega)
        have hkh6 : Keep [] h g6 := ((((hkh.trans hk3).more (ex' := L :: (idOf av).toList) (by simp)).trans (hk4.more (by simp))).trans ((hk5.more (by simp)).trans (hk6.more (fun j hj => .inl (List.mem_cons_of_mem _ hj))))).more (fun j hj => by
          rcases List.mem_cons.1 hj with h1 | h1
          · right; omega
          · right; exact hdge j (hmem j h1))
        have hwk6 : ∀ (k V : Nat) (j : Int × Int), (Ws ++ [W])[k]? = some V → jobs[k]? = some j → g6.get V = some (.cells (wcells L j k 0) .own) := by
          intro k V j' hV hj'
          by_cases hk : k < Ws.length
          · rw [List.getElem?_append_left hk] at hV
            have hVm := List.mem_of_getElem? hV
            have := hWn V hVm
            refine hk6.get _ _ (hk5.get _ _ (hk4.get _ _ (hk3.get _ _ (hwk k V j' hV hj') (by simp)) (by simp; omega)) (by simp)) (fun hm => (hax V (hmem V hm)).2 hVm)
          · have hk' : k = Ws.length := by
              have := (List.getElem?_eq_some_iff.1 hV).1
              simp at this; omega
            subst hk'
            simp at hV
            subst hV
            rw [hWl, hji] at hj'
            cases hj'
            rw [hWl]
            exact hgW6
        apply WP.region; simp [hl, h14, h16, hl1, hl1', hal, storeR_ptr hst3]
        apply WP.region; simp [hl, h9, h10, hld3, hca23, hadd, hbs, hap]
        apply WP.region; simp [hl, h16, int_wrap (show i < 9223372036854775807 by omega)]
        refine ⟨jobs.length - (i + 1), by omega, h1, h2, h3, h9, h14, h15, hkh6, i + 1, by omega, rfl, by simp, Ws ++ [W], by simp [hWl], hacc6, hgL6, fun k V a b => hwk6 k V (a, b), ?_, ?_, ?_⟩
        · intro V hV
          rcases List.mem_append.1 hV with h | h
          · have := hWn V h; omega
          · simp only [List.mem_singleton] at h; omega
        · intro x y V hx hy
          have hlast : ∀ k, (Ws ++ [W])[k]? = some V → (k < Ws.length ∧ Ws[k]? = some V ∧ V < g'.next) ∨ (k = Ws.length ∧ V = W) := by
            intro k hk
            by_cases hlt : k < Ws.length
            · rw [List.getElem?_append_left hlt] at hk
              exact .inl ⟨hlt, hk, (hWn V (List.mem_of_getElem? hk)).2⟩
            · have hk' : k = Ws.length := by
                have := (List.getElem?_eq_some_iff.1 hk).1
                simp at this; omega
              subst hk'
              simp at hk
              exact .inr ⟨rfl, hk.symm⟩
          rcases hlast x hx with ⟨_, q1, q2⟩ | ⟨q1, q2⟩
          · rcases hlast y hy with ⟨_, r1, _⟩ | ⟨r1, r2⟩
            · exact hnd x y V q1 r1
            · omega
          · rcases hlast y hy with ⟨_, r1, r2⟩ | ⟨r1, r2⟩
            · omega
            · omega
        · intro q hq
          have := hid6 q hq
          refine ⟨by omega, fun hm => ?_⟩
          rcases List.mem_append.1 hm with h | h
          · have := hWn q h; omega
          · simp only [List.mem_singleton] at h; omega
      · intro hge
        have hge : ¬ i < jobs.length := by simpa using hge
        apply WP.exit
        simp
        repeat apply WP.seq
        have hii : i = jobs.length := by omega
        have hkl := hkh.le
        have hLg : L < g'.next := hkh.wf _ _ hgL
        have halt := fun j (hj : idOf av = some j) => hacc.lt hkh.wf hj
        obtain ⟨C, g2, cpv, hnew, hgC, hcpv, hcid, hCn, hk2⟩ := new_ok O.o25 O.o11 hkh.wf (hp.keep hkh (by simp)) hpn b
        have hk2l := hk2.le
        have hgL2 := hk2.get _ _ hgL (by simp)
        have hLW : L ∉ Ws := fun hm => by have := hWn L hm; omega
        have hCW : C ∉ Ws := fun hm => by have := hWn C hm; omega
        have hCX : ChXs (L :: Ws) g2 C picks (max b 1) [] (-1) := by
          refine ⟨_, _, ⟨hgC, hcpv, ⟨rfl, rfl⟩, fun hi => (hcid _ hi).2 rfl, by simp [idOf]⟩, fun _ i hi hm => ?_, by simp [idOf]⟩
          have h1 := (hcid _ hi).1
          rcases List.mem_cons.1 hm with h2 | h2
          · omega
          · have := hWn i h2; omega
        have hrep : ∀ i : Nat, at0 (List.replicate jobs.length 0) i = 0 := by
          intro i
          by_cases hi : i < jobs.length
          · simp [at0, List.getD_eq_getElem?_getD, hi]
          · simp [at0, List.getD_eq_getElem?_getD, hi]
        have hwk2 : WkAt g2 L Ws jobs (List.replicate jobs.length 0) := by
          intro i W j hi hj
          rw [hrep]
          exact hk2.get _ _ (hwk i W j hi hj) (by simp)
        obtain ⟨r, g3, hrun, dv, hgL3, hacc3, hk3⟩ := run_ok O o24 o46 o47 hk2.wf (by omega) hnd hjn (hacc.sl.keep hk2 (by simp)) hLW hCW (by omega) (fun _ j hj hm => by
          have h1 := halt j hj
          rcases List.mem_cons.1 hm with h2 | h2
          · omega
          · rcases List.mem_cons.1 h2 with h2 | h2
            · exact (hax j hj).1 h2
            · exact (hax j hj).2 h2) hgL2 hwk2 hCX (fun W hW => by have := hWn W hW; omega) steps hst hst'
        have hF : (playN jobs (max b 1) steps.toNat (startP jobs picks)).out = playOut jobs picks b steps := rfl
        rw [hF] at hacc3
        have hk3l := hk3.le
        have hkh3 : Keep [] h g3 := (((hkh.trans hk2).more (ex' := C :: L :: Ws) (by simp)).trans hk3).more (fun j hj => by
          right
          rcases List.mem_cons.1 hj with h2 | h2
          · omega
          · rcases List.mem_cons.1 h2 with h2 | h2
            · omega
            · have := hWn j h2; omega)
        obtain ⟨v', g4, hdone, hsl4, ⟨dl, dc, rfl⟩, hown4, hk4⟩ := logDone_ok o22 O.o25 hk3.wf hgL3 hacc3.sl hon
        apply WP.region; simp [hl, h1, h2, h3, h10, hca11, hnew, hca24, hrun]
        repeat apply WP.seq
        apply WP.region; simp [hl, h9, hca22, hdone]
        apply WP.ret
        simp [hl, resultsA, resultA, single]
        refine ⟨hsl4, fun hne => ?_, hkh3.trans hk4⟩
        obtain ⟨i, q1, q2⟩ := hown4 hne
        exact ⟨i, q1, by omega⟩
    · refine ⟨by simp [hl], by simp [hl, h1], by simp [hl, h2], by simp [hl, h3], by simp [hl], by simp [hl, h0], by simp [hl], hk1, 0, .slice none 0 (.exact 0), [], by omega, by omega, by simp [hl], by simp [hl], rfl, Acc.nil, hgL1, by simp, by simp, by simp, by simp [idOf]⟩
  obtain ⟨u, h', h1, h2⟩ := main
  exact ⟨u, h', h1, h2⟩
end
end Go.Am
