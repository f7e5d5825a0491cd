/- The walk of SchedLogs. -/
import Derived.Test.YtehccakjdbapiaaAmGRLogs15
import Derived.Test.YtehccakjdbapiaaAmGRLogs12
set_option linter.unusedSimpArgs false
namespace Go.Am
open Go.RowKit Go.Proofs
attribute [simp] seqS_normal seqS_exit seqS_ret TP_done TP_stop chk_nil

def ifaceIs (P : Program) (t : TypeId) : Bool := match P.underlying t with
  | some (.interface _) => true
  | _ => false
theorem u56 : ∃ ms, Try.prog.underlying 56 = some (.interface ms) := by
  have h : ifaceIs Try.prog 56 = true := by kernel_rfl
  unfold ifaceIs at h
  split at h
  · rename_i ms hu
    exact ⟨ms, hu⟩
  · cases h
theorem bin_ifnil {h : Heap} {xo yo : Operand} {t : TypeId} {v : AV} : binA Try.prog h .eql 56 xo yo (.iface t v) .nilIface = some (.bool false) := by
  obtain ⟨ms, hu⟩ := u56
  simp [binA, eqA, hu]
theorem build54 {h : Heap} : buildSliceA Try.prog h 54 0 [] = some (.slice (some ⟨h.next, 0⟩) 0 (.exact 0), h.alloc (.cells [] .own)) := by kernel_rfl

theorem rowsJ_set (js : List (Int × Int)) (i : Nat) (x : Int × Int) : (rowsJ js).set i [.int .i64 x.1, .int .i64 x.2] = rowsJ (js.set i x) := by simp [rowsJ, List.map_set]
def mixJ (js : List (Int × Int)) (i : Nat) : List (Int × Int) := (js.take i).map norm15 ++ js.drop i
theorem mixJ_length (js : List (Int × Int)) (i : Nat) : (mixJ js i).length = js.length := by simp [mixJ]; omega
theorem mixJ_get {js : List (Int × Int)} {i : Nat} {j : Int × Int} (h : js[i]? = some j) : (mixJ js i)[i]? = some j := by
  have hi := (List.getElem?_eq_some_iff.1 h).1
  unfold mixJ
  rw [List.getElem?_append_right (by simp; omega)]
  simp only [List.length_map, List.length_take, Nat.min_eq_left (Nat.le_of_lt hi), Nat.sub_self, List.getElem?_drop, Nat.add_zero]
  exact h
theorem mixJ_set {js : List (Int × Int)} {i : Nat} {j : Int × Int} (h : js[i]? = some j) : (mixJ js i).set i (norm15 j) = mixJ js (i + 1) := by
  have hi := (List.getElem?_eq_some_iff.1 h).1
  unfold mixJ
  rw [List.take_add_one, h, List.drop_eq_getElem_cons (by omega), List.set_append_right _ _ (by simp; omega)]
  simp only [List.length_map, List.length_take, Nat.min_eq_left (Nat.le_of_lt hi), Nat.sub_self, List.set_cons_zero, Option.toList, List.map_append, List.map_cons, List.map_nil, List.append_assoc, List.cons_append, List.nil_append]

/-- The parts of the law that are made in an order that is not said. -/
structure Made (g0 g : Heap) (L C : Nat) (picks : List Int) (b : Int) : Prop where
  keep : Keep [] g0 g
  log : g.get L = some (.cells [.slice none 0 (.exact 0), .int .i64 0] .own)
  ch : ∃ v', g.get C = some (.cells [v', .int .i64 (max b 1), .slice none 0 (.exact 0), .int .i64 (-1)] .own) ∧ Sl g v' (ints picks) ∧ ∀ i, idOf v' = some i → g0.next ≤ i ∧ i ≠ C ∧ i ≠ L
  ne : L ≠ C
  lo : g0.next ≤ L ∧ g0.next ≤ C

set_option maxHeartbeats 4000000 in
theorem logs_ok {h : Heap} (hw : Wf h) {jv pv : AV} {js : List (Int × Int)} (hj : Slr h 2 jv (rowsJ js)) (hjn : js.length ≤ 2000000)
    {picks : List Int} (hp : Sl h pv (ints picks)) (hpn : picks.length ≤ 2000000) (b st first : Int) (O : OvOk (ovTrue 10)) (Q : PlayOv (ovTrue 10)) :
    SCall Try.prog 9 [.agg [jv, pv, .int .i64 b, .int .i64 st], .int .i64 first] h (fun r => ∃ h', r = .ret (.bool true) h') := by
  refine scall_of fns_ok (fn := Try.f9) (by kernel_rfl) rfl ?_
  have hl : (frameA Try.f9 [.agg [jv, pv, .int .i64 b, .int .i64 st], .int .i64 first]).length = 155 := frameA_length (Nat.le_of_ble_eq_true rfl)
  have h0 : nth (frameA Try.f9 [.agg [jv, pv, .int .i64 b, .int .i64 st], .int .i64 first]) 0 = .agg [jv, pv, .int .i64 b, .int .i64 st] := frameA_nth (Nat.le_of_ble_eq_true rfl)
  have h1 : nth (frameA Try.f9 [.agg [jv, pv, .int .i64 b, .int .i64 st], .int .i64 first]) 1 = .int .i64 first := frameA_nth (Nat.le_of_ble_eq_true rfl)
  generalize frameA Try.f9 [.agg [jv, pv, .int .i64 b, .int .i64 st], .int .i64 first] = e at hl h0 h1
  have hca10 : ∀ h, callA (callT (ovTrue 10) Try.prog) Try.prog h 10 [] = some (.ret (.bool true) h) := fun h => callT_ov _ _ (O.o10 h)
  have hbx := box_agg (h := h) (vs := [jv, pv, .int .i64 b, .int .i64 st]) rfl
  have hk1 := (Keep.refl (ex := []) hw).alloc (.cells [jv, pv, .int .i64 b, .int .i64 st] .own)
  have hg1 := Heap.get_alloc h (.cells [jv, pv, .int .i64 b, .int .i64 st] .own)
  generalize h.alloc (.cells [jv, pv, .int .i64 b, .int .i64 st] .own) = g1 at hbx hk1 hg1
  generalize h.next = G at hbx hg1
  have hGn := hk1.wf _ _ hg1
  have hl0 : loadA Try.prog g1 41 ⟨G, 0⟩ = some jv := load_cell a41 hg1 rfl
  obtain ⟨cv, g2, hcut, hcj, hk2⟩ := cutX_ok Q.o17 hk1.wf (hj.keep' hk1 (by simp)) hjn
  have hca17 : callA (callT (ovTrue 10) Try.prog) Try.prog g1 17 [jv] = _ := hcut
  repeat apply SWP.seq
  refine SWP.of fns_ok mixed_ok alive_ok ?_
  apply WP.region; simp [hl, h0, hbx]
  repeat apply SWP.seq
  refine SWP.of fns_ok mixed_ok alive_ok ?_
  apply WP.region; simp [hl, hca10]
  repeat apply SWP.seq
  refine SWP.of fns_ok mixed_ok alive_ok ?_
  apply WP.cond (t := false) (by simp [hl]) (by simp)
  intro _
  apply WP.skip; simp
  repeat apply SWP.seq
  refine SWP.of fns_ok mixed_ok alive_ok ?_
  apply WP.region; simp [hl, fa43, hl0, hca17]
  repeat apply SWP.seq
  refine SWP.of fns_ok mixed_ok alive_ok ?_
  have hjl : (js.take 20).length ≤ 20 := by simp; omega
  have hws := wsL_jobs js
  obtain ⟨js2, hjs2⟩ : ∃ l, l = js.take 20 := ⟨_, rfl⟩
  rw [← hjs2] at hcj hjl hws
  have hlenc : ∀ h, lenA Try.prog h 41 cv = some (.int .i64 (js2.length : Nat)) := fun h' => by simpa [rowsJ_length] using hcj.slr.len (P := Try.prog) h' u41
  apply WP.region; simp [hl, hlenc]
  repeat apply SWP.seq
  refine SWP.of fns_ok mixed_ok alive_ok ?_
  refine WP.mono (K := fun out e g => out = .normal ∧ e.length = 155 ∧ nth e 1 = .int .i64 first ∧ nth e 2 = .ptr (some ⟨G, 0⟩) ∧ nth e 5 = cv ∧ Keep [] g1 g ∧ Accr g1.next g 2 cv (rowsJ (js2.map norm15))) ?_ ?_
  · apply WP.block
    refine WP.loop (fun k e g => e.length = 155 ∧ nth e 1 = .int .i64 first ∧ nth e 2 = .ptr (some ⟨G, 0⟩) ∧ nth e 5 = cv ∧ nth e 24 = .int .i64 js2.length ∧ Keep [] g1 g ∧ ∃ i, i ≤ js2.length ∧ k = js2.length - i ∧ nth e 25 = .int .i64 (i : Nat) ∧ Accr g1.next g 2 cv (rowsJ (mixJ js2 i))) ?_ js2.length _ _ ?_
    · clear hl h0 h1
      rintro k e g ⟨hl, h1, h2, h5, h24, hkg, i, hi, rfl, h25, hacc⟩
      repeat apply WP.seq
      apply WP.region; simp [hl, h24, h25]
      repeat apply WP.seq
      apply WP.cond (by simp [hl]; rfl)
      · intro hlt1
        have hlt1 : i < js2.length := by simpa using hlt1
        apply WP.skip; simp
        repeat apply WP.seq
        apply WP.block
        repeat apply WP.seq
        obtain ⟨j, hji⟩ : ∃ j, js2[i]? = some j := ⟨_, List.getElem?_eq_getElem hlt1⟩
        have hrow := rowsJ_get (mixJ_get hji)
        have hml := mixJ_length js2 i
        obtain ⟨l1, hx1, hid1, hst1, hacc1⟩ := hacc.storef (P := Try.prog) u41 s49 hrow (t' := 3) s3 (j := 0) (by omega) (x := .int .i64 0) rfl rfl (kd := .i64)
        have hlo1 := hacc.id hid1
        have hlt2 : l1.id < g.next := by
          rcases hacc.2 with ⟨he, _⟩ | ⟨q, _, _, hv, hg⟩
          · rw [he] at hrow; simp at hrow
          · rw [hv] at hid1; cases hid1; exact hkg.wf _ _ hg
        have hkg1 := hkg.set (i := l1.id) (.cells ((rowsJ (mixJ js2 i)).set i ([AV.int .i64 j.1, .int .i64 j.2].set 0 (.int .i64 0))).flatten .own) hlt2 (.inr hlo1)
        generalize g.set l1.id (.cells ((rowsJ (mixJ js2 i)).set i ([AV.int .i64 j.1, .int .i64 j.2].set 0 (.int .i64 0))).flatten .own) = g3 at hst1 hacc1 hkg1
        have hr3 : (rowsJ (mixJ js2 i)).set i ([AV.int .i64 j.1, .int .i64 j.2].set 0 (.int .i64 0)) = rowsJ ((mixJ js2 i).set i (0, j.2)) := rowsJ_set _ _ (0, j.2)
        rw [hr3] at hacc1
        have hst1 : storeA Try.prog g 3 ⟨l1.id, l1.off⟩ (.int .i64 0) = some g3 := hst1
        have hrow3 : ((mixJ js2 i).set i (0, j.2))[i]? = some (0, j.2) := by rw [List.getElem?_set_self (by omega)]
        obtain ⟨l2, hx2, _, _, hf2⟩ := hacc1.slr.atf (P := Try.prog) u41 s49 a49 (rowsJ_get hrow3) (k := .i64)
        have hw2 : loadA Try.prog g3 3 ⟨l2.id, l2.off + 1⟩ = some (.int .i64 j.2) := hf2 3 1 _ a3 rfl
        rw [hx1] at hx2
        cases hx2
        apply WP.region; simp [hl]
        repeat apply WP.seq
        apply WP.region; simp [hl, h5, h25, hx1, fa49, storeR_ptr hst1]
        repeat apply WP.seq
        apply WP.region; simp [hl, h5, h25, hx1, fa49, hw2]
        repeat apply WP.seq
        have hns : norm15 j = (0, if 15 < j.2 then 15 else j.2) := rfl
        refine WP.mono (K := fun out e g => out = .normal ∧ e.length = 155 ∧ nth e 1 = .int .i64 first ∧ nth e 2 = .ptr (some ⟨G, 0⟩) ∧ nth e 5 = cv ∧ nth e 24 = .int .i64 js2.length ∧ nth e 25 = .int .i64 (i : Nat) ∧ Keep [] g1 g ∧ Accr g1.next g 2 cv (rowsJ (mixJ js2 (i + 1)))) ?_ ?_
        · apply WP.cond (by simp [hl]; rfl)
          · intro hc
            have hc : 15 < j.2 := by simpa using hc
            rw [if_pos hc] at hns
            obtain ⟨l3, hx3, hid3, hst3, hacc3⟩ := hacc1.storef (P := Try.prog) u41 s49 (rowsJ_get hrow3) (t' := 3) s3 (j := 1) (by omega) (x := .int .i64 15) rfl rfl (kd := .i64)
            rw [hx1] at hx3
            cases hx3
            have hlt3 : l1.id < g3.next := by
              rcases hacc1.2 with ⟨he, _⟩ | ⟨q, _, _, hv, hg⟩
              · have := rowsJ_get hrow3; rw [he] at this; simp at this
              · rw [hv] at hid3; cases hid3; exact hkg1.wf _ _ hg
            have hkg3 := hkg1.set (i := l1.id) (.cells ((rowsJ ((mixJ js2 i).set i (0, j.2))).set i ([AV.int .i64 (0, j.2).1, .int .i64 (0, j.2).2].set 1 (.int .i64 15))).flatten .own) hlt3 (.inr hlo1)
            generalize g3.set l1.id (.cells ((rowsJ ((mixJ js2 i).set i (0, j.2))).set i ([AV.int .i64 (0, j.2).1, .int .i64 (0, j.2).2].set 1 (.int .i64 15))).flatten .own) = g4 at hst3 hacc3 hkg3
            have hr4 : (rowsJ ((mixJ js2 i).set i (0, j.2))).set i ([AV.int .i64 (0, j.2).1, .int .i64 (0, j.2).2].set 1 (.int .i64 15)) = rowsJ (mixJ js2 (i + 1)) := by
              rw [← mixJ_set hji, hns]
              have := rowsJ_set ((mixJ js2 i).set i (0, j.2)) i (0, 15)
              rw [List.set_set] at this
              exact this
            rw [hr4] at hacc3
            apply WP.region; simp [hl, h1, h2, h5, h24, h25, hx1, fa49, storeR_ptr hst3]
            exact ⟨hkg3, hacc3⟩
          · intro hc
            have hc : ¬ 15 < j.2 := by simpa using hc
            rw [if_neg hc] at hns
            rw [← hns, mixJ_set hji] at hacc1
            apply WP.skip; simp [hl, h1, h2, h5, h24, h25]
            exact ⟨hkg1, hacc1⟩
        · clear hl h1 h2 h5 h24 h25
          rintro _ e g ⟨rfl, hl, h1, h2, h5, h24, h25, hkg, hacc⟩
          simp
          apply WP.region; simp [hl, h25, int_wrap (show i < 9223372036854775807 by omega)]
          exact ⟨js2.length - (i + 1), by omega, h1, h2, h5, h24, hkg, i + 1, by omega, rfl, by simp, hacc⟩
      · intro hge
        have hge : ¬ i < js2.length := by simpa using hge
        have hmx : mixJ js2 i = js2.map norm15 := by
          unfold mixJ
          rw [List.take_of_length_le (by omega), List.drop_eq_nil_of_le (by omega), List.append_nil]
        rw [hmx] at hacc
        apply WP.exit
        simp [hl, h1, h2, h5]
        exact ⟨hkg, hacc⟩
    · exact ⟨by simp [hl], by simp [hl, h1], by simp [hl], by simp [hl], by simp [hl], hk2, 0, by omega, by omega, by simp [hl], by simpa [mixJ] using hcj⟩
  clear hl h0 h1 hl0 hbx
  rw [hws]
  rintro _ e g3 ⟨rfl, hl, h1, h2, h5, hk13, hcj3⟩
  simp
  repeat apply SWP.seq
  refine SWP.of fns_ok mixed_ok alive_ok ?_
  apply WP.region; simp [hl, h1]
  repeat apply SWP.seq
  refine SWP.of fns_ok mixed_ok alive_ok ?_
  refine WP.mono (K := fun out e g' => out = .normal ∧ g3 = g' ∧ e.length = 155 ∧ nth e 2 = .ptr (some ⟨G, 0⟩) ∧ nth e 5 = cv ∧ ∃ x, nth e 1 = .int .i64 x ∧ 0 ≤ x) ?_ ?_
  · apply WP.cond (by simp [hl]; rfl)
    · intro hc
      apply WP.region; simp [hl, h2, h5]
    · intro hc
      have hc : ¬ first < 0 := by simpa using hc
      apply WP.skip; simp [hl, h1, h2, h5]; omega
  clear hl h1 h2 h5
  rintro _ e _ ⟨rfl, rfl, hl, h2, h5, x, h1, hx⟩
  simp
  repeat apply SWP.seq
  refine SWP.of fns_ok mixed_ok alive_ok ?_
  apply WP.region; simp [hl, h1]
  repeat apply SWP.seq
  refine SWP.of fns_ok mixed_ok alive_ok ?_
  refine WP.mono (K := fun out e g' => out = .normal ∧ g3 = g' ∧ e.length = 155 ∧ nth e 2 = .ptr (some ⟨G, 0⟩) ∧ nth e 5 = cv ∧ ∃ f : Nat, nth e 1 = .int .i64 (f : Nat) ∧ f ≤ 400) ?_ ?_
  · apply WP.cond (by simp [hl]; rfl)
    · intro hc
      apply WP.region; simp [hl, h2, h5]
      exact ⟨400, rfl, by omega⟩
    · intro hc
      have hc : ¬ 400 < x := by simpa using hc
      apply WP.skip; simp [hl, h1, h2, h5]
      exact ⟨x.toNat, by omega, by omega⟩
  clear hl h1 h2 h5
  rintro _ e _ ⟨rfl, rfl, hl, h2, h5, f, h1, hf⟩
  simp
  repeat apply SWP.seq
  have hca21 : ∀ args h, callA (callT (ovTrue 10) Try.prog) Try.prog h 21 args = callT (ovTrue 10) Try.prog 21 args h := fun _ _ => rfl
  have hca11 : ∀ args h, callA (callT (ovTrue 10) Try.prog) Try.prog h 11 args = callT (ovTrue 10) Try.prog 11 args h := fun _ _ => rfl
  have hk3 := hk1.trans hk13
  have hgG3 := hk13.get _ _ hg1 (by simp)
  have hp3 : Sl g3 pv (ints picks) := hp.keep hk3 (by simp)
  have hld : ∀ {g}, Keep [] g3 g → loadA Try.prog g 22 ⟨G, 1⟩ = some pv ∧ loadA Try.prog g 3 ⟨G, 2⟩ = some (.int .i64 b) := fun hk => ⟨load_cell a22 (hk.get _ _ hgG3 (by simp)) rfl, load_cell a3 (hk.get _ _ hgG3 (by simp)) rfl⟩
  refine SWP.mono (K := fun out e g => out = .normal ∧ e.length = 155 ∧ nth e 1 = .int .i64 (f : Nat) ∧ nth e 2 = .ptr (some ⟨G, 0⟩) ∧ nth e 5 = cv ∧ ∃ L C, nth e 7 = .ptr (some ⟨L, 0⟩) ∧ nth e 8 = .ptr (some ⟨C, 0⟩) ∧ Made g3 g L C picks b) ?_ ?_
  · refine SWP.tree fns_ok mixed_ok calls_ok (n := 155) (pl := .quiet 2 (.quiet 3 (.quiet 5 (.quiet 6 (.alt 0 [3, 6] (.alt 1 [3, 6] (.alt 4 [6] (.alt 7 [] (.quiet 8 (.quiet 9 (.done))) (.stop)) (.stop)) (.stop)) (.alt 1 [3, 6] (.alt 0 [3, 6] (.alt 4 [6] (.alt 7 [] (.quiet 8 (.quiet 9 (.done))) (.stop)) (.stop)) (.stop)) (.stop))))))) (by kernel_rfl) (by kernel_rfl) (by kernel_rfl) hl ?_
    obtain ⟨hb1, hb2⟩ := hld (Keep.refl hk3.wf)
    refine TP_quiet rfl ?_; simp [hl, h2, fa43]
    refine TP_quiet rfl ?_; simp [hl, hb1]
    refine TP_quiet rfl ?_; simp [hl, h2, fa43]
    refine TP_quiet rfl ?_; simp [hl, hb2]
    refine TP_alt rfl ?_ (TP_alt rfl ?_ trivial)
    · obtain ⟨L, ga, hnl, hgL, hka, hLlo, hLn⟩ := newLog_ok Q.o21 hk3.wf
      obtain ⟨hc1, hc2⟩ := hld hka
      have hbs := build22 (h := ga)
      have hkb := hka.alloc (.cells [] .own)
      have hkb1 := (Keep.refl (ex := []) hka.wf).alloc (.cells [] .own)
      have hgE := Heap.get_alloc ga (.cells [] .own)
      generalize ga.alloc (.cells [] .own) = gb at hbs hkb hgE hkb1
      obtain ⟨hd1, hd2⟩ := hld hkb
      obtain ⟨v1, gc, hap, hsl1, hkc⟩ := (hp3.keep hkb (by simp)).cloneE (P := Try.prog) hkb.wf u22 s3 (fun _ => room3 (by simp; omega)) ints_ok hgE
      obtain ⟨he1, he2⟩ := hld (hkb.trans hkc)
      obtain ⟨C, gd, v2, hnew, hgC, hslC, hidC, hClo, hkd⟩ := new_ok O.o25 O.o11 hkc.wf hsl1 (by omega) b
      have l1 := hka.le
      have l2 := hkb1.le
      have l3 := hkc.le
      simp [hl, hca21, hnl]
      refine ⟨chk_intro rfl (by simp [hl, sameV_load', loadSame, hc1]) (chk_intro rfl (by simp [hl, sameV_load', loadSame, hc2]) trivial), ?_⟩
      refine TP_alt rfl ?_ trivial
      simp [hl, hbs]
      refine ⟨chk_intro rfl (by simp [hl, sameV_load', loadSame, hd1]) (chk_intro rfl (by simp [hl, sameV_load', loadSame, hd2]) trivial), ?_⟩
      refine TP_alt rfl ?_ trivial
      simp [hl, hap]
      refine ⟨chk_intro rfl (by simp [hl, sameV_load', loadSame, he2]) trivial, ?_⟩
      refine TP_alt rfl ?_ trivial
      simp [hl, hca11, hnew]
      refine TP_quiet rfl ?_; simp [hl]
      refine TP_quiet rfl ?_; simp [hl, h1, h2, h5]
      exact {
        keep := (hkb.trans hkc).trans hkd
        log := hkd.get _ _ (hkc.get _ _ (hkb1.get _ _ hgL (by simp)) (by simp)) (by simp)
        ch := ⟨v2, hgC, hslC, fun i hi => ⟨by have := (hidC i hi).1; omega, (hidC i hi).2, by have := (hidC i hi).1; omega⟩⟩
        ne := by omega
        lo := ⟨hLlo, by omega⟩ }
    · have hbs := build22 (h := g3)
      have hkb := (Keep.refl (ex := []) hk3.wf).alloc (.cells [] .own)
      have hgE := Heap.get_alloc g3 (.cells [] .own)
      generalize g3.alloc (.cells [] .own) = gb at hbs hkb hgE
      obtain ⟨hc1, hc2⟩ := hld hkb
      obtain ⟨L, ga, hnl, hgL, hka, hLlo, hLn⟩ := newLog_ok Q.o21 hkb.wf
      obtain ⟨hd1, hd2⟩ := hld (hkb.trans hka)
      obtain ⟨v1, gc, hap, hsl1, hkc⟩ := ((hp3.keep hkb (by simp)).keep hka (by simp)).cloneE (P := Try.prog) hka.wf u22 s3 (fun _ => room3 (by simp; omega)) ints_ok (hka.get _ _ hgE (by simp))
      obtain ⟨he1, he2⟩ := hld ((hkb.trans hka).trans hkc)
      obtain ⟨C, gd, v2, hnew, hgC, hslC, hidC, hClo, hkd⟩ := new_ok O.o25 O.o11 hkc.wf hsl1 (by omega) b
      have l1 := hka.le
      have l2 := hkb.le
      have l3 := hkc.le
      simp [hl, hbs]
      refine ⟨chk_intro rfl (by simp [hl, sameV_load', loadSame, hc1]) (chk_intro rfl (by simp [hl, sameV_load', loadSame, hc2]) trivial), ?_⟩
      refine TP_alt rfl ?_ trivial
      simp [hl, hca21, hnl]
      refine ⟨chk_intro rfl (by simp [hl, sameV_load', loadSame, hd1]) (chk_intro rfl (by simp [hl, sameV_load', loadSame, hd2]) trivial), ?_⟩
      refine TP_alt rfl ?_ trivial
      simp [hl, hap]
      refine ⟨chk_intro rfl (by simp [hl, sameV_load', loadSame, he2]) trivial, ?_⟩
      refine TP_alt rfl ?_ trivial
      simp [hl, hca11, hnew]
      refine TP_quiet rfl ?_; simp [hl]
      refine TP_quiet rfl ?_; simp [hl, h1, h2, h5]
      exact {
        keep := ((hkb.trans hka).trans hkc).trans hkd
        log := hkd.get _ _ (hkc.get _ _ hgL (by simp)) (by simp)
        ch := ⟨v2, hgC, hslC, fun i hi => ⟨by have := (hidC i hi).1; omega, (hidC i hi).2, by have := (hidC i hi).1; omega⟩⟩
        ne := by omega
        lo := ⟨by omega, by omega⟩ }
  clear hl h1 h2 h5
  rintro _ e g ⟨rfl, hl, h1, h2, h5, L, C, h7, h8, M⟩
  simp
  have hca22 : ∀ args h, callA (callT (ovTrue 10) Try.prog) Try.prog h 22 args = callT (ovTrue 10) Try.prog 22 args h := fun _ _ => rfl
  have hca23 : ∀ args h, callA (callT (ovTrue 10) Try.prog) Try.prog h 23 args = callT (ovTrue 10) Try.prog 23 args h := fun _ _ => rfl
  have hca46 : ∀ args h, callA (callT (ovTrue 10) Try.prog) Try.prog h 46 args = callT (ovTrue 10) Try.prog 46 args h := fun _ _ => rfl
  have hca19 : ∀ args h, callA (callT (ovTrue 10) Try.prog) Try.prog h 19 args = callT (ovTrue 10) Try.prog 19 args h := fun _ _ => rfl
  have hca24 : ∀ args h, callA (callT (ovTrue 10) Try.prog) Try.prog h 24 args = callT (ovTrue 10) Try.prog 24 args h := fun _ _ => rfl
  have hca20 : ∀ args h, callA (callT (ovTrue 10) Try.prog) Try.prog h 20 args = callT (ovTrue 10) Try.prog 20 args h := fun _ _ => rfl
  obtain ⟨v0, g4, hdone0, _, ⟨l0, c0, rfl⟩, _, hk4⟩ := logDone_ok Q.o22 O.o25 M.keep.wf M.log (xs := []) (show Sl g (.slice none 0 (.exact 0)) (ints []) from ⟨rfl, rfl⟩) (by simp)
  have hlen0 : ∀ h, lenA Try.prog h 22 (.slice l0 0 c0) = some (.int .i64 ((0 : Nat) : Int)) := fun h => lenA_slice (P := Try.prog) u22
  repeat apply SWP.seq
  refine SWP.of fns_ok mixed_ok alive_ok ?_
  apply WP.region; simp [hl, h7, h8, guardA, bin_ptnil u51, bin_ptnil u25, hca22, hdone0, hlen0]
  repeat apply SWP.seq
  refine SWP.of fns_ok mixed_ok alive_ok ?_
  apply WP.cond (t := false) (by simp [hl]) (by simp)
  intro _
  apply WP.skip; simp
  repeat apply SWP.seq
  refine SWP.of fns_ok mixed_ok alive_ok ?_
  have hbs5 := build54 (h := g4)
  have hk5 := (hk4.more (ex' := [L]) (by simp)).alloc (.cells [] .own)
  have hk5' := (Keep.refl (ex := []) hk4.wf).alloc (.cells [] .own)
  have hgE5 := Heap.get_alloc g4 (.cells [] .own)
  generalize g4.alloc (.cells [] .own) = g5 at hbs5 hk5 hk5' hgE5
  have hgL5 := hk5'.get _ _ (hk4.get _ _ M.log (by simp)) (by simp)
  have hk4l := hk4.le
  have hLg : L < g.next := M.keep.wf _ _ M.log
  obtain ⟨pv2, hgC, hslC, hidC⟩ := M.ch
  have hCg : C < g.next := M.keep.wf _ _ hgC
  have hacc5 : Acc 0 g5 (.slice (some ⟨g4.next, 0⟩) 0 (.exact 0)) (acts []) := Acc.empty (Nat.zero_le _) hgE5
  have hid5 : ∀ j, idOf (.slice (some ⟨g4.next, 0⟩) 0 (.exact 0)) = some j → j ≠ L ∧ g.next ≤ j := fun j hj => by cases hj; exact ⟨by simp only []; omega, by simp only []; omega⟩
  generalize AV.slice (some ⟨g4.next, 0⟩) 0 (.exact 0) = av0 at hbs5 hacc5 hid5
  apply WP.region; simp [hl, hbs5]
  repeat apply SWP.seq
  refine SWP.of fns_ok mixed_ok alive_ok ?_
  obtain ⟨J, hJ⟩ : ∃ J, J = jobs0 (wsL js) := ⟨_, rfl⟩
  have hJl : J.length ≤ 20 := by rw [hJ, ← hws, List.length_map]; exact hjl
  rw [← hJ] at hcj3
  have hJ0 : ∀ (i : Nat) (j : Int × Int), J[i]? = some j → j.1 = 0 := fun i j hj => by
    rw [hJ, jobs0, List.getElem?_map, Option.map_eq_some_iff] at hj
    obtain ⟨w, _, rfl⟩ := hj
    rfl
  have hlenJ : ∀ h, lenA Try.prog h 41 cv = some (.int .i64 (J.length : Nat)) := fun h' => by simpa [rowsJ_length] using hcj3.slr.len (P := Try.prog) h' u41
  have h3g : ∀ {g'}, Keep [L] g g' → Keep [] g3 g' := fun hk => ((M.keep.more (ex' := [L]) (by simp)).trans hk).more (fun j hj => by
    simp only [List.mem_singleton] at hj
    right; rw [hj]; exact M.lo.1)
  apply WP.region; simp [hl, h5, hlenJ]
  repeat apply SWP.seq
  refine SWP.of fns_ok mixed_ok alive_ok ?_
  refine WP.mono (K := fun out e g' => out = .normal ∧ e.length = 155 ∧ nth e 1 = .int .i64 (f : Nat) ∧ nth e 2 = .ptr (some ⟨G, 0⟩) ∧ nth e 5 = cv ∧ nth e 7 = .ptr (some ⟨L, 0⟩) ∧ nth e 8 = .ptr (some ⟨C, 0⟩) ∧ Keep [L] g g' ∧ ∃ (av : AV) (Ws : List Nat), nth e 9 = av ∧ Ws.length = J.length ∧
      Acc 0 g' av (acts Ws) ∧ g'.get L = some (.cells [.slice none 0 (.exact 0), .int .i64 (J.length : Nat)] .own) ∧ (∀ (k W : Nat) (j : Int × Int), Ws[k]? = some W → J[k]? = some j → g'.get W = some (.cells (wcells L j k 0) .own)) ∧ (∀ W ∈ Ws, g.next ≤ W ∧ W < g'.next) ∧ (∀ i j W : Nat, Ws[i]? = some W → Ws[j]? = some W → i = j) ∧ (∀ j, idOf av = some j → j ≠ L ∧ g.next ≤ j ∧ j ∉ Ws)) ?_ ?_
  · apply WP.block
    refine WP.loop (fun k e g' => e.length = 155 ∧ nth e 1 = .int .i64 (f : Nat) ∧ nth e 2 = .ptr (some ⟨G, 0⟩) ∧ nth e 5 = cv ∧ nth e 7 = .ptr (some ⟨L, 0⟩) ∧ nth e 8 = .ptr (some ⟨C, 0⟩) ∧ nth e 68 = cv ∧ nth e 69 = .int .i64 J.length ∧ Keep [L] g g' ∧ ∃ (i : Nat) (av : AV) (Ws : List Nat), i ≤ J.length ∧ k = J.length - i ∧ nth e 70 = .int .i64 (i : Nat) ∧ nth e 9 = av ∧ Ws.length = i ∧
      Acc 0 g' av (acts Ws) ∧ g'.get L = some (.cells [.slice none 0 (.exact 0), .int .i64 (i : Nat)] .own) ∧ (∀ (k W : Nat) (j : Int × Int), Ws[k]? = some W → J[k]? = some j → g'.get W = some (.cells (wcells L j k 0) .own)) ∧ (∀ W ∈ Ws, g.next ≤ W ∧ W < g'.next) ∧ (∀ i j W : Nat, Ws[i]? = some W → Ws[j]? = some W → i = j) ∧ (∀ j, idOf av = some j → j ≠ L ∧ g.next ≤ j ∧ j ∉ Ws)) ?_ J.length _ _ ?_
    · clear hl h1 h2 h5 h7 h8
      rintro k e g' ⟨hl, h1, h2, h5, h7, h8, h68, h69, hkh, i, av, Ws, hi, rfl, h70, h9, hWl, hacc, hgL, hwk, hWn, hnd, hax⟩
      repeat apply WP.seq
      apply WP.region; simp [hl, h69, h70]
      repeat apply WP.seq
      apply WP.cond (by simp [hl]; rfl)
      · intro hlt1
        have hlt1 : i < J.length := by simpa using hlt1
        apply WP.skip; simp
        repeat apply WP.seq
        apply WP.block
        repeat apply WP.seq
        obtain ⟨j, hji⟩ : ∃ j, J[i]? = some j := ⟨_, List.getElem?_eq_getElem hlt1⟩
        have hj0 := hJ0 i j hji
        obtain ⟨l1, hl1, hl1', _⟩ := (hcj3.slr.keep' (h3g hkh) (by simp)).at (P := Try.prog) u41 s49 a49 (rowsJ_get hji) (k := .i64)
        obtain ⟨B, ga, g6, hal, hst6, hk6, hg6, hB, hB', _⟩ := fresh49 hkh.wf j.1 j.2
        have hkl := hkh.le
        have hk6l := hk6.le
        have hgL6 := hk6.get _ _ hgL (by simp)
        have hLg' : L < g'.next := hkh.wf _ _ hgL
        have hld6 := load_whole (P := Try.prog) a49 s49 hg6 rfl
        obtain ⟨W, g7, hadd, hgL7, hgW7, hk7, hW6, hW7⟩ := add_ok Q.o23 hk6.wf hgL6 (by omega) j.1 j.2
        have hk7l := hk7.le
        have hgB7 := hk7.get _ _ hg6 (by simp; omega)
        have hlB7 : loadA Try.prog g7 3 ⟨B, 1⟩ = some (.int .i64 j.2) := load_cell a3 hgB7 rfl
        have hrdy : callT (ovTrue 10) Try.prog 46 [.ptr (some ⟨W, 0⟩)] g7 = some (.ret (.bool (decide (0 < j.2))) g7) := by
          have h := ready_ok Q.o46 hgW7 hgL7 (xs := []) (show Sl g7 (.slice none 0 (.exact 0)) (ints []) from ⟨rfl, rfl⟩)
          rw [h, hj0]
          simp
        have hbs8 := build54_1 (h := g7) (t := 69) (l := some ⟨W, 0⟩)
        have hk8 := (Keep.refl (ex := []) hk7.wf).alloc (.cells [.iface 69 (.ptr (some ⟨W, 0⟩))] .own)
        have hg8 := Heap.get_alloc g7 (.cells [.iface 69 (.ptr (some ⟨W, 0⟩))] .own)
        generalize g7.alloc (.cells [.iface 69 (.ptr (some ⟨W, 0⟩))] .own) = g8 at hbs8 hk8 hg8
        have hk8l := hk8.le
        have hacc8 := ((hacc.keep2 hk6 (by simp)).keep2 hk7 (fun j hj hm => by
          simp only [List.mem_singleton] at hm
          exact (hax j hj).1 hm)).keep2 hk8 (by simp)
        have hmem : ∀ j, j ∈ (idOf av).toList → idOf av = some j := fun j hj => by simpa using hj
        have halt := fun j (hj : idOf av = some j) => hacc.lt hkh.wf hj
        obtain ⟨av', g9, hap, hacc9, hk9, hid9⟩ := hacc8.pushX (P := Try.prog) (ex := (idOf av).toList) hk8.wf (by simp) (Nat.zero_le _) u54 s56 (room56 (by simp [acts]; omega)) (x := .iface 69 (.ptr (some ⟨W, 0⟩))) (y := .slice (some ⟨g7.next, 0⟩) 1 (.exact 1)) ⟨⟨rfl, by simp [capOk]⟩, .inr ⟨_, .own, hg8, by simp, rfl⟩⟩ rfl
        have hk9l := hk9.le
        have hac : acts Ws ++ [.iface 69 (.ptr (some ⟨W, 0⟩))] = acts (Ws ++ [W]) := by simp [acts]
        rw [hac] at hacc9
        have hgL9 := hk9.get _ _ (hk8.get _ _ hgL7 (by simp)) (fun hm => (hax L (hmem L hm)).1 rfl)
        have hgW9 := hk9.get _ _ (hk8.get _ _ hgW7 (by simp)) (fun hm => by have := halt W (hmem W hm); omega)
        have hkh9 : Keep [L] g g9 := ((((hkh.more (ex' := L :: (idOf av).toList) (by simp)).trans (hk6.more (by simp))).trans (hk7.more (by simp))).trans ((hk8.more (by simp)).trans (hk9.more (fun j hj => .inl (List.mem_cons_of_mem _ hj))))).more (fun j hj => by
          rcases List.mem_cons.1 hj with h1 | h1
          · left; simp [h1]
          · right; exact (hax j (hmem j h1)).2.1)
        have hwk9 : ∀ (k V : Nat) (j : Int × Int), (Ws ++ [W])[k]? = some V → J[k]? = some j → g9.get V = some (.cells (wcells L j k 0) .own) := by
          intro k V j' hV hj'
          by_cases hk : k < Ws.length
          · rw [List.getElem?_append_left hk] at hV
            have hVm := List.mem_of_getElem? hV
            have := hWn V hVm
            refine hk9.get _ _ (hk8.get _ _ (hk7.get _ _ (hk6.get _ _ (hwk k V j' hV hj') (by simp)) (by simp; omega)) (by simp)) (fun hm => (hax V (hmem V hm)).2.2 hVm)
          · have hk' : k = Ws.length := by
              have := (List.getElem?_eq_some_iff.1 hV).1
              simp at this; omega
            subst hk'
            simp at hV
            subst hV
            rw [hWl, hji] at hj'
            cases hj'
            rw [hWl]
            exact hgW9
        have hbb : ∀ x : Bool, (x != x) = false := fun x => by cases x <;> rfl
        apply WP.region; simp [hl, h68, h70, hl1, hl1', hal, storeR_ptr hst6]
        repeat apply WP.seq
        apply WP.region; simp [hl, h7, hld6, hca23, hadd]
        repeat apply WP.seq
        refine WP.drawDyn (by kernel_rfl) (dynOk_tw (pl := [(6, 4), (6, 10)]) (by kernel_rfl) ?_) ?_
        · simp [hl, bin_ifnil, guardA, op_invoke, invR_iface meth69.1, hca46, hrdy, fa49, hlB7, bin_bne u4, loadSame]
        · simp [hl, bin_ifnil, guardA, op_invoke, invR_iface meth69.1, hca46, hrdy, fa49, hlB7, bin_bne u4, hbb]
          repeat apply WP.seq
          apply WP.cond (t := false) (by simp [hl]) (by simp)
          intro _
          apply WP.skip; simp
          apply WP.region; simp [hl, h9, hbs8, hap]
          apply WP.region; simp [hl, h70, int_wrap (show i < 9223372036854775807 by omega)]
          refine ⟨J.length - (i + 1), by omega, h1, h2, h5, h7, h8, h68, h69, hkh9, i + 1, by omega, rfl, by simp, Ws ++ [W], by simp [hWl], hacc9, hgL9, fun k V a b => hwk9 k V (a, b), ?_, ?_, ?_⟩
          · intro V hV
            rcases List.mem_append.1 hV with h | h
            · have := hWn V h; omega
            · simp only [List.mem_singleton] at h; omega
          · intro x y V hx hy
            have hlast : ∀ k, (Ws ++ [W])[k]? = some V → (k < Ws.length ∧ Ws[k]? = some V ∧ V < g'.next) ∨ (k = Ws.length ∧ V = W) := by
              intro k hk
              by_cases hlt : k < Ws.length
              · rw [List.getElem?_append_left hlt] at hk
                exact .inl ⟨hlt, hk, (hWn V (List.mem_of_getElem? hk)).2⟩
              · have hk' : k = Ws.length := by
                  have := (List.getElem?_eq_some_iff.1 hk).1
                  simp at this; omega
                subst hk'
                simp at hk
                exact .inr ⟨rfl, hk.symm⟩
            rcases hlast x hx with ⟨_, q1, q2⟩ | ⟨q1, q2⟩
            · rcases hlast y hy with ⟨_, r1, _⟩ | ⟨r1, r2⟩
              · exact hnd x y V q1 r1
              · omega
            · rcases hlast y hy with ⟨_, r1, r2⟩ | ⟨r1, r2⟩
              · omega
              · omega
          · intro q hq
            have := hid9 q hq
            refine ⟨by omega, by omega, fun hm => ?_⟩
            rcases List.mem_append.1 hm with h | h
            · have := hWn q h; omega
            · simp only [List.mem_singleton] at h; omega
      · intro hge
        have hge : ¬ i < J.length := by simpa using hge
        have hii : i = J.length := by omega
        subst hii
        apply WP.exit
        simp [hl, h1, h2, h5, h7, h8, h9]
        exact ⟨hkh, Ws, hWl, hacc, hgL, fun k W a b => hwk k W (a, b), hWn, hnd, hax⟩
    · refine ⟨by simp [hl], by simp [hl, h1], by simp [hl, h2], by simp [hl, h5], by simp [hl, h7], by simp [hl, h8], by simp [hl], by simp [hl], hk5, 0, av0, [], by omega, by omega, by simp [hl], by simp [hl], rfl, hacc5, hgL5, by simp, by simp, by simp, fun j hj => ⟨(hid5 j hj).1, (hid5 j hj).2, by simp⟩⟩
  clear hl h1 h2 h5 h7 h8
  rintro _ e g6 ⟨rfl, hl, h1, h2, h5, h7, h8, hk6, av, Ws, h9, hWl, hacc, hgL, hwk, hWn, hnd, hax⟩
  simp
  repeat apply SWP.seq
  refine SWP.of fns_ok mixed_ok alive_ok ?_
  have hk36 := h3g hk6
  have hk6l := hk6.le
  have hld6 := hld hk36
  -- the play
  have hbs7 := build22 (h := g6)
  have hk7 := (Keep.refl (ex := []) hk6.wf).alloc (.cells [] .own)
  have hgE7 := Heap.get_alloc g6 (.cells [] .own)
  generalize g6.alloc (.cells [] .own) = g7 at hbs7 hk7 hgE7
  have hld7 := hld (hk36.trans hk7)
  obtain ⟨v1, g8, hap8, hsl8, hk8⟩ := ((hp3.keep hk36 (by simp)).keep hk7 (by simp)).cloneE (P := Try.prog) hk7.wf u22 s3 (fun _ => room3 (by simp; omega)) ints_ok hgE7
  have hk38 := (hk36.trans hk7).trans hk8
  have hld8 := hld hk38
  have hol := playOut_len J picks b 800
  obtain ⟨wv, g9, hplay, hws9, hwown, hk9⟩ := splay_ok O Q.o19 Q.o21 Q.o22 Q.o23 Q.o24 Q.o46 Q.o47 hk8.wf (hcj3.slr.keep' hk38 (by simp)) (by omega) hsl8 (by omega) b 800 (by omega) (by omega) (by omega)
  have hk39 := hk38.trans hk9
  have hld9 := hld hk39
  have hall : ∀ k, (playN J (max b 1) (800 + k) (startP J picks)).out = playOut J picks b 800 := fun k => by rw [hJ]; exact logs_all js picks b k
  generalize playOut J picks b 800 = F at *
  have hk7l := hk7.le
  have hk8l := hk8.le
  have hk9l := hk9.le
  have hk69 := (hk7.trans hk8).trans hk9
  have hwid : ints F ≠ [] → ∀ j, idOf wv = some j → g6.next ≤ j ∧ j < g9.next := fun hne j hj => by
    obtain ⟨i, q1, q2⟩ := hwown (fun hz => hne (by rw [hz]; rfl))
    rw [q1.id] at hj
    cases hj
    exact ⟨by omega, hk9.wf _ _ q1.choose_spec.2⟩
  have hlenw : ∀ h, lenA Try.prog h 22 wv = some (.int .i64 (F.length : Nat)) := fun h => by
    obtain ⟨l, c, rfl⟩ := hws9.slice; simpa using lenA_slice (P := Try.prog) u22
  have hFl : F.length ≤ 800 := by omega
  refine WP.mono (K := fun out e g' => out = .normal ∧ g9 = g' ∧ e.length = 155 ∧ nth e 1 = .int .i64 (f : Nat) ∧ nth e 7 = .ptr (some ⟨L, 0⟩) ∧ nth e 8 = .ptr (some ⟨C, 0⟩) ∧ nth e 9 = av ∧ nth e 13 = wv) ?_ ?_
  · refine WP.drawDyn (by kernel_rfl) (dynOk_tw (pl := [(3, 1), (3, 4), (6, 1), (6, 4), (6, 7)]) (by kernel_rfl) ?_) ?_
    · simp [hl, h2, h5, hbs7, fa43, hld6.1, hld6.2, hld7.1, hld7.2, hap8, hld8.1, hld8.2, hca19, hplay, hld9.1, hld9.2, loadSame]
    · simp [hl, h1, h2, h5, h7, h8, h9, hbs7, fa43, hld6.1, hld6.2, hld7.1, hld7.2, hap8, hld8.1, hld8.2, hca19, hplay]
  clear hl h1 h2 h5 h7 h8 h9
  rintro _ e _ ⟨rfl, rfl, hl, h1, h7, h8, h9, h13⟩
  simp
  repeat apply SWP.seq
  refine SWP.of fns_ok mixed_ok alive_ok ?_
  -- the first run
  have halt := fun j (hj : idOf av = some j) => hacc.lt hk6.wf hj
  have hgL9 := hk69.get _ _ hgL (by simp)
  have hLW : L ∉ Ws := fun hm => by have := hWn L hm; omega
  have hCW : C ∉ Ws := fun hm => by have := hWn C hm; omega
  have hgC6 := hk6.get _ _ hgC (by simp only [List.mem_singleton]; exact fun h => M.ne h.symm)
  have hslC6 : Sl g6 pv2 (ints picks) := hslC.keep hk6 (fun j hj hm => by
    simp only [List.mem_singleton] at hm
    exact (hidC j hj).2.2 hm)
  have hpvlt : ints picks ≠ [] → ∀ j, idOf pv2 = some j → j < g.next := fun hne j hj => hslC.lt M.keep.wf hne hj
  have hCX : ChXs ((idOf (.slice none 0 (.exact 0))).toList ++ (L :: Ws)) g9 C (startP J picks).picks (max b 1) (startP J picks).ages (startP J picks).last := by
    refine ⟨pv2, .slice none 0 (.exact 0), ⟨hk69.get _ _ hgC6 (by simp), hslC6.keep hk69 (by simp), ⟨rfl, rfl⟩, fun hi => (hidC _ hi).2.1 rfl, by simp [idOf]⟩, fun hne i hi hm => ?_, by simp [idOf]⟩
    have h1 := hidC i hi
    have h2 := hpvlt (by simpa [startP, ints] using hne) i hi
    simp only [idOf, Option.map_none, Option.toList_none, List.nil_append] at hm
    rcases List.mem_cons.1 hm with h3 | h3
    · exact h1.2.2 h3
    · have := hWn i h3; omega
  have hrep : ∀ i : Nat, at0 (List.replicate J.length 0) i = 0 := by
    intro i
    by_cases hi : i < J.length
    · simp [at0, List.getD_eq_getElem?_getD, hi]
    · simp [at0, List.getD_eq_getElem?_getD, hi]
  have hwk9 : WkAt g9 L Ws J (startP J picks).cnt := by
    intro i W j hi hj
    show g9.get W = some (.cells (wcells L j i (at0 (List.replicate J.length 0) i)) .own)
    rw [hrep]
    exact hk69.get _ _ (hwk i W j hi hj) (by simp)
  have hav9 : Sl g9 av (acts Ws) := hacc.sl.keep hk69 (by simp)
  obtain ⟨g10, sF, dv1, d, hrun1, hd1, hol1, hall1, hcut1, hgL10, hacc10, hwk10, hCX10, haok10, hcok10, hcl10, hid10, hk10⟩ := runG_ok O Q.o24 Q.o46 Q.o47 hk39.wf hWl hnd (by omega) hav9 hLW hCW (fun h => M.ne h.symm) (s0 := startP J picks) (dv0 := .slice none 0 (.exact 0)) (fun _ j hj hm => by
      have h1 := hax j hj
      simp only [idOf, Option.map_none, Option.toList_none, List.nil_append] at hm
      rcases List.mem_cons.1 hm with h2 | h2
      · omega
      · rcases List.mem_cons.1 h2 with h2 | h2
        · exact h1.1 h2
        · exact h1.2.2 h2) hgL9 (by simp [idOf]) Acc.nil hwk9 hCX (fun W hW => by have := hWn W hW; omega) (B0 := 0) (by omega) (by simp [startP]) (by simp [startP]) (by simp [startP]) (by simp [startP]) ((f : Nat) : Int) (by omega) (by omega)
  have hol1' : sF.out.length = d := by rw [hol1]; simp [startP]
  have hfn : ((f : Nat) : Int).toNat = f := Int.toNat_natCast f
  rw [hfn] at hd1 hall1 hcut1
  have hk10l := hk10.le
  have hE10 : ∀ j, j ∈ C :: L :: ((idOf (.slice none 0 (.exact 0))).toList ++ Ws) → j < g6.next ∧ (j = C ∨ g.next ≤ j ∨ j = L) := fun j hj => by
    simp only [idOf, Option.map_none, Option.toList_none, List.nil_append] at hj
    rcases List.mem_cons.1 hj with h1 | h1
    · exact ⟨by omega, .inl h1⟩
    · rcases List.mem_cons.1 h1 with h1 | h1
      · exact ⟨by omega, .inr (.inr h1)⟩
      · have := hWn j h1; exact ⟨by omega, .inr (.inl (by omega))⟩
  have hws10 : Sl g10 wv (ints F) := hws9.keep' hk10 (fun hne j hj hm => by
    have := hwid hne j hj
    have := hE10 j hm
    omega)
  have hav10 : Sl g10 av (acts Ws) := hav9.keep' hk10 (fun hne j hj hm => by
    have h1 := hax j hj
    simp only [idOf, Option.map_none, Option.toList_none, List.nil_append] at hm
    rcases List.mem_cons.1 hm with h2 | h2
    · omega
    · rcases List.mem_cons.1 h2 with h2 | h2
      · exact h1.1 h2
      · exact h1.2.2 h2)
  apply WP.region; simp [hl, h1, h8, h9, hca24, hrun1]
  repeat apply SWP.seq
  refine SWP.of fns_ok mixed_ok alive_ok ?_
  -- how many
  obtain ⟨v2, g11, hdone1, _, ⟨l2, c2, rfl⟩, _, hk11⟩ := logDone_ok Q.o22 O.o25 hk10.wf hgL10 hacc10.sl (by omega)
  have hlen2 : ∀ h, lenA Try.prog h 22 (.slice l2 sF.out.length c2) = some (.int .i64 (d : Nat)) := fun h => by rw [← hol1']; exact lenA_slice (P := Try.prog) u22
  have hnd1 : ¬ ((f : Nat) : Int) < (d : Nat) := by omega
  have hk11l := hk11.le
  refine WP.mono (K := fun out e g' => out = .normal ∧ g11 = g' ∧ e.length = 155 ∧ nth e 7 = .ptr (some ⟨L, 0⟩) ∧ nth e 8 = .ptr (some ⟨C, 0⟩) ∧ nth e 9 = av ∧ nth e 13 = wv ∧ nth e 14 = .int .i64 (d : Nat) ∧ nth e 124 = .bool false) ?_ ?_
  · apply WP.region
    by_cases hdf : d < f
    · have hFd : F.length = d := by
        have h1 := hall1 (800 - f)
        rw [hcut1 hdf (800 - f), show f + (800 - f) = 800 + 0 by omega, hall 0] at h1
        rw [← h1, hol1']
      simp [hl, h1, h7, h8, h9, h13, guardA, hca22, hdone1, hlen2, hdf, hlenw, hFd, hnd1]
      try omega
    · simp [hl, h1, h7, h8, h9, h13, guardA, hca22, hdone1, hlen2, hdf, hnd1]
      try omega
  clear hl h1 h7 h8 h9 h13
  rintro _ e _ ⟨rfl, rfl, hl, h7, h8, h9, h13, h14, h124⟩
  simp
  repeat apply SWP.seq
  refine SWP.of fns_ok mixed_ok alive_ok ?_
  apply WP.cond (t := false) (by simp [h124]) (by simp)
  intro _
  apply WP.skip; simp
  repeat apply SWP.seq
  refine SWP.of fns_ok mixed_ok alive_ok ?_
  -- the second run
  have hdv1 : ∀ j, idOf dv1 = some j → g9.next ≤ j := fun j hj => by
    rcases hid10 j hj with h1 | h1
    · simp [idOf] at h1
    · exact h1
  obtain ⟨g12, sG, dv2, d2, hrun2, hd2, hol2, hall2, _, hgL12, hacc12, _, _, _, _, _, hid12, hk12⟩ := runG_ok O Q.o24 Q.o46 Q.o47 hk11.wf hWl hnd (by omega) (hav10.keep hk11 (by simp)) hLW hCW (fun h => M.ne h.symm) (s0 := sF) (dv0 := dv1) (fun _ j hj hm => by
      have h1 := hax j hj
      have h2 := halt j hj
      rcases List.mem_cons.1 hm with h3 | h3
      · omega
      · rcases List.mem_cons.1 h3 with h3 | h3
        · exact h1.1 h3
        · rcases List.mem_append.1 h3 with h3 | h3
          · have := hdv1 j (by simpa using h3); omega
          · exact h1.2.2 h3) (hk11.get _ _ hgL10 (by simp)) (fun j hj => by
      have h1 := hdv1 j hj
      exact ⟨by omega, by omega, fun hm => by have := hWn j hm; omega⟩) (hacc10.keep2 hk11 (by simp)) (hwk10.keep hk11 (by simp)) (hCX10.keep0 hk11) (fun W hW => by have := hWn W hW; omega) (B0 := 0 + d + 1) (by omega) (by omega) haok10 hcok10 hcl10 800 (by omega) (by omega)
  have hF2 : sG.out = F := by
    have h1 := hall2 0
    have h2 := hall1 800
    rw [show f + 800 = 800 + f by omega, hall f] at h2
    have h3 : (playN J (max b 1) 0 sG).out = sG.out := rfl
    rw [h3] at h1
    rw [h1, ← h2]
    rfl
  rw [hF2] at hacc12 hol2
  have hk12l := hk12.le
  have hws12 : Sl g12 wv (ints F) := (hws10.keep hk11 (by simp)).keep' hk12 (fun hne j hj hm => by
    have h1 := hwid hne j hj
    rcases List.mem_cons.1 hm with h3 | h3
    · omega
    · rcases List.mem_cons.1 h3 with h3 | h3
      · omega
      · rcases List.mem_append.1 h3 with h3 | h3
        · have := hdv1 j (by simpa using h3); omega
        · have := hWn j h3; omega)
  apply WP.region; simp [hl, h8, h9, hca24, hrun2]
  repeat apply SWP.seq
  refine SWP.of fns_ok mixed_ok alive_ok ?_
  obtain ⟨v3, g13, hdone2, hsl13, ⟨l3, c3, hv3⟩, hown13, hk13'⟩ := logDone_ok Q.o22 O.o25 hk12.wf hgL12 hacc12.sl (by omega)
  have hlen3 : ∀ h, lenA Try.prog h 22 v3 = some (.int .i64 (F.length : Nat)) := fun h => by rw [hv3]; exact lenA_slice (P := Try.prog) u22
  have hws13 := hws12.keep hk13' (by simp)
  have hsame := same_ok Q.o20 hsl13 hws13 (by omega) rfl
  apply WP.region; simp [hl, h7, hca22, hdone2]
  repeat apply SWP.seq
  refine SWP.of fns_ok mixed_ok alive_ok ?_
  have hsum : IntKind.wrap .i64 (((d : Nat) : Int) + (d2 : Nat)) = (F.length : Nat) := by
    rw [wrap_small (by omega) (by omega)]; omega
  apply WP.region; simp [hl, h13, h14, guardA, hca20, hsame, hsum, hlenw]
  repeat apply SWP.seq
  refine SWP.of fns_ok mixed_ok alive_ok ?_
  apply WP.cond (t := false) (by simp [hl]) (by simp)
  intro _
  apply WP.skip; simp
  repeat apply SWP.seq
  refine SWP.of fns_ok mixed_ok alive_ok ?_
  apply WP.region; simp [hl, hlen3]
  repeat apply SWP.seq
  refine SWP.of fns_ok mixed_ok alive_ok ?_
  obtain ⟨I, hI, hIn⟩ : ∃ I, (F ≠ [] → Own g13 v3 I (ints F)) ∧ g12.next ≤ I := by
    by_cases hF : F = []
    · exact ⟨g12.next, fun h => absurd hF h, Nat.le_refl _⟩
    · obtain ⟨i, q1, q2⟩ := hown13 hF
      exact ⟨i, fun _ => q1, q2⟩
  refine WP.mono (K := fun out e g' => out = .normal ∧ e.length = 155 ∧ nth e 7 = .ptr (some ⟨L, 0⟩) ∧ nth e 13 = wv ∧ Keep [I] g13 g') ?_ ?_
  · apply WP.block
    refine WP.loop (fun k e g' => e.length = 155 ∧ nth e 7 = .ptr (some ⟨L, 0⟩) ∧ nth e 13 = wv ∧ nth e 16 = v3 ∧ nth e 143 = .int .i64 F.length ∧ Keep [I] g13 g' ∧ ∃ i, i ≤ F.length ∧ k = F.length - i ∧ nth e 144 = .int .i64 (i : Nat) ∧ ∃ xs : List Int, xs.length = F.length ∧ (F ≠ [] → Own g' v3 I (ints xs))) ?_ F.length _ _ ?_
    · rintro k e g' ⟨hl, h7, h13, h16, h143, hk', i, hi, rfl, h144, xs, hxl, hown⟩
      repeat apply WP.seq
      apply WP.region; simp [hl, h143, h144]
      repeat apply WP.seq
      apply WP.cond (by simp [hl]; rfl)
      · intro hlt1
        have hlt1 : i < F.length := by simpa using hlt1
        have hne : F ≠ [] := by intro hh; rw [hh] at hlt1; simp at hlt1
        have hown := hown hne
        apply WP.skip; simp
        repeat apply WP.seq
        apply WP.block
        repeat apply WP.seq
        have haddr := hown.addr (P := Try.prog) u22 s3 (i := i) (by simp; omega) (k := .i64)
        obtain ⟨hst8, hown'⟩ := hown.store (P := Try.prog) s3 (i := i) (by simp; omega) (x := .int .i64 (-1)) rfl rfl
        rw [ints_set] at hst8 hown'
        have hI5 : I < g'.next := hk'.wf _ _ hown.choose_spec.2
        have hk2 := hk'.set (.cells (ints (xs.set i (-1))) .own) hI5 (.inl (by simp))
        apply WP.region; simp [hl, h144]
        apply WP.region; simp [hl, h16, haddr, storeR_ptr hst8]
        apply WP.region; simp [hl, h144, int_wrap (show i < 9223372036854775807 by omega)]
        exact ⟨F.length - (i + 1), by omega, h7, h13, h16, h143, hk2, i + 1, by omega, rfl, by simp, _, by simpa using hxl, fun _ => hown'⟩
      · intro hge
        apply WP.exit
        simp [hl, h7, h13]
        exact hk'
    · refine ⟨by simp [hl], by simp [hl, h7], by simp [hl, h13], by simp [hl], by simp [hl], Keep.refl hk13'.wf, 0, by omega, by omega, by simp [hl], F, rfl, hI⟩
  clear hl h7 h8 h9 h13 h14 h124
  rintro _ e g14 ⟨rfl, hl, h7, h13, hk14⟩
  simp
  have hLlt : L ≠ I := by omega
  have hgL14 := hk14.get _ _ (hk13'.get _ _ hgL12 (by simp)) (by simp only [List.mem_singleton]; exact hLlt)
  have hacc14 := (hacc12.keep2 hk13' (by simp)).keep2 hk14 (fun j hj hm => by
    have := hacc12.lt hk12.wf hj
    simp only [List.mem_singleton] at hm
    omega)
  have hws14 : Sl g14 wv (ints F) := hws13.keep' hk14 (fun hne j hj hm => by
    have := hwid hne j hj
    simp only [List.mem_singleton] at hm
    omega)
  obtain ⟨v4, g15, hdone3, hsl15, _, _, hk15⟩ := logDone_ok Q.o22 O.o25 hk14.wf hgL14 hacc14.sl (by omega)
  have hsame2 := same_ok Q.o20 hsl15 (hws14.keep hk15 (by simp)) (by omega) rfl
  repeat apply SWP.seq
  refine SWP.of fns_ok mixed_ok alive_ok ?_
  apply WP.region; simp [hl, h7, h13, hca22, hdone3, hca20, hsame2]
  refine SWP.ret ?_
  simp [hl, resultsA, resultA, single]
end Go.Am
