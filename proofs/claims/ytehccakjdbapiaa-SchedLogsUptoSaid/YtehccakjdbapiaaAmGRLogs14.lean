/- Parts of the proof by the abstract machine: SFair, SRunsP, SPlayP, SPlayF, SPlayR. -/
import Derived.Test.YtehccakjdbapiaaAmGRLogs13
set_option linter.unusedSimpArgs false
namespace Go.Am
open Go.RowKit Go.Proofs

/-- A chooser that does not use the block A. -/
def ChX (A : Nat) (h : Heap) (C : Nat) (picks : List Int) (bound : Int) (ages : List Int) (last : Int) : Prop :=
  ∃ pv av, ChAt h C pv av picks bound ages last ∧ (picks ≠ [] → idOf pv ≠ some A) ∧ (ages ≠ [] → idOf av ≠ some A)
theorem ChX.ch {A : Nat} {h : Heap} {C : Nat} {picks ages : List Int} {bound last : Int} (hC : ChX A h C picks bound ages last) : Ch h C picks bound ages last := by
  obtain ⟨p, a, h1, _⟩ := hC; exact ⟨p, a, h1⟩
theorem ChX.of {A : Nat} {h : Heap} (hw : Wf h) {C : Nat} {picks ages : List Int} {bound last : Int} (hC : Ch h C picks bound ages last) (hA : h.next ≤ A) : ChX A h C picks bound ages last := by
  obtain ⟨p, a, h1⟩ := hC
  refine ⟨p, a, h1, fun hne hi => ?_, fun hne hi => ?_⟩
  · have := h1.2.1.lt hw (by simpa [ints] using hne) hi; omega
  · have := h1.2.2.1.lt hw (by simpa [ints] using hne) hi; omega
theorem ChX.keep {A : Nat} {h0 h : Heap} (hk : Keep [] h0 h) {C : Nat} {picks ages : List Int} {bound last : Int} (hC : ChX A h0 C picks bound ages last) : ChX A h C picks bound ages last := by
  obtain ⟨p, a, hc, h2⟩ := hC
  exact ⟨p, a, hc.keep hk (by simp) (by simp) (by simp), h2⟩
theorem ChX.write {A : Nat} {h0 h : Heap} (hk : Keep [A] h0 h) {C : Nat} {picks ages : List Int} {bound last : Int} (hC : ChX A h0 C picks bound ages last) (hA : A ≠ C) : ChX A h C picks bound ages last := by
  obtain ⟨p, a, hc, h1, h2⟩ := hC
  refine ⟨p, a, ⟨hk.get _ _ hc.1 (by simp; omega), hc.2.1.keep' hk ?_, hc.2.2.1.keep' hk ?_, hc.2.2.2⟩, h1, h2⟩
  · intro hne i hi hm
    simp only [List.mem_singleton] at hm
    exact h1 (by simpa [ints] using hne) (by rw [hi, hm])
  · intro hne i hi hm
    simp only [List.mem_singleton] at hm
    exact h2 (by simpa [ints] using hne) (by rw [hi, hm])

section
variable {ov : CallF}

theorem next_okX (O : OvOk ov) {h : Heap} (hw : Wf h) {A C : Nat} (hA : A < h.next) {picks ages : List Int} {bound last : Int} (hC : ChX A h C picks bound ages last)
    {v : AV} {ready : List Bool} (hs : Sl h v (bools ready)) (hv : idOf v ≠ some C) (hn : ready.length ≤ 1000000000) (hages : ∀ a ∈ ages, 0 ≤ a ∧ a < 4611686018427387904) :
    ∃ h', callT ov Try.prog 14 [.ptr (some ⟨C, 0⟩), v] h = some (.ret (.tuple [.int .i64 (max (nextP picks bound ages last ready).chosen 0), .bool (decide (0 ≤ (nextP picks bound ages last ready).chosen))]) h') ∧
      ChX A h' C (nextP picks bound ages last ready).picks bound (nextP picks bound ages last ready).ages (nextP picks bound ages last ready).last ∧ Keep [C] h h' := by
  obtain ⟨pv, av, hCh, hx1, hx2⟩ := hC
  obtain ⟨h', h1, ⟨pv', av', h2, h3, h4⟩, h5⟩ := next_ok' O.o14 O.o27 O.o28 O.o29 O.o30 hw hCh hs hv hn hages
  refine ⟨h', h1, ⟨pv', av', h2, fun hne => ?_, fun _ hi => ?_⟩, h5⟩
  · obtain ⟨hq1, hq2⟩ := h3 hne
    rw [hq2]; exact hx1 hq1
  · have := h4 _ hi; omega

/-- A slice of slices of bools. -/
def Sls (h : Heap) (vs : List AV) (rs : List (List Bool)) : Prop := vs.length = rs.length ∧ ∀ (i : Nat) v r, vs[i]? = some v → rs[i]? = some r → Sl h v (bools r)
theorem Sls.at {h : Heap} {vs : List AV} {rs : List (List Bool)} (hs : Sls h vs rs) {i : Nat} (hi : i < rs.length) : ∃ v r, vs[i]? = some v ∧ rs[i]? = some r ∧ Sl h v (bools r) := by
  have h1 : i < vs.length := by rw [hs.1]; exact hi
  exact ⟨vs[i], rs[i], List.getElem?_eq_getElem h1, List.getElem?_eq_getElem hi, hs.2 i _ _ (List.getElem?_eq_getElem h1) (List.getElem?_eq_getElem hi)⟩

def maxLenTo (rs : List (List Bool)) : Nat → Nat
  | 0 => 0
  | k + 1 => if maxLenTo rs k < (rs.getD k []).length then (rs.getD k []).length else maxLenTo rs k
theorem maxLenTo_ge (rs : List (List Bool)) : ∀ (k i : Nat) (r : List Bool), i < k → rs[i]? = some r → r.length ≤ maxLenTo rs k
  | 0, i, r, h, _ => by omega
  | k + 1, i, r, h, hr => by
    simp only [maxLenTo]
    by_cases hi : i = k
    · subst hi
      have : rs.getD i [] = r := by simp [List.getD_eq_getElem?_getD, hr]
      rw [this]
      split <;> omega
    · have := maxLenTo_ge rs k i r (by omega) hr
      split <;> omega
theorem maxLenTo_le (rs : List (List Bool)) {M : Nat} (hM : ∀ r ∈ rs, r.length ≤ M) : ∀ k, k ≤ rs.length → maxLenTo rs k ≤ M
  | 0, _ => by simp [maxLenTo]
  | k + 1, hk => by
    have h1 := maxLenTo_le rs hM k (by omega)
    have h2 : (rs.getD k []).length ≤ M := by
      rw [List.getD_eq_getElem?_getD, List.getElem?_eq_getElem (by omega)]
      exact hM _ (List.getElem_mem (by omega))
    simp only [maxLenTo]
    split <;> omega

set_option maxHeartbeats 4000000 in
theorem fair_ok (O : OvOk ov) (o4 : ∀ a h, ov 4 a h = none) {h : Heap} (hw : Wf h) {wv cv : AV} {want : List Int} (hs : Sl h wv (ints want)) (hL : want.length ≤ 2000000) (b0 : Int) (hb0 : -9223372036854775808 ≤ b0 ∧ b0 ≤ 9223372036854775807)
    {vs : List AV} {rs : List (List Bool)} (hcs : Sl h cv vs) (hss : Sls h vs rs) (hrl : rs.length ≤ 2000000) (hrm : ∀ r ∈ rs, r.length ≤ 2000000) :
    ∃ h', callT ov Try.prog 4 [wv, .int .i64 b0, cv] h = some (.ret (.bool true) h') := by
  have main : ∃ u h', callT ov Try.prog 4 [wv, .int .i64 b0, cv] h = some (.ret u h') ∧ u = .bool true := by
    refine callT_wp (fn := Try.f4) (Q := fun u _ => u = .bool true) (o4 _ _) (by kernel_rfl) rfl ?_
    have hl : (frameA Try.f4 [wv, .int .i64 b0, cv]).length = 133 := frameA_length (Nat.le_of_ble_eq_true rfl)
    have h0 : nth (frameA Try.f4 [wv, .int .i64 b0, cv]) 0 = wv := frameA_nth (Nat.le_of_ble_eq_true rfl)
    have h1 : nth (frameA Try.f4 [wv, .int .i64 b0, cv]) 1 = .int .i64 b0 := frameA_nth (Nat.le_of_ble_eq_true rfl)
    have h2 : nth (frameA Try.f4 [wv, .int .i64 b0, cv]) 2 = cv := frameA_nth (Nat.le_of_ble_eq_true rfl)
    generalize frameA Try.f4 [wv, .int .i64 b0, cv] = e at hl h0 h1 h2
    have hca10 : ∀ h, callA (callT ov Try.prog) Try.prog h 10 [] = some (.ret (.bool true) h) := fun h => (callA_of (fn := Try.f10) (by kernel_rfl) rfl).trans (callT_ov _ _ (O.o10 h))
    have hca11 : ∀ args h, callA (callT ov Try.prog) Try.prog h 11 args = callT ov Try.prog 11 args h := fun args h => callA_of (fn := Try.f11) (by kernel_rfl) rfl
    have hca14 : ∀ args h, callA (callT ov Try.prog) Try.prog h 14 args = callT ov Try.prog 14 args h := fun args h => callA_of (fn := Try.f14) (by kernel_rfl) rfl
    have hvl : vs.length = rs.length := hss.1
    have hlenc : ∀ h, lenA Try.prog h 23 cv = some (.int .i64 (rs.length : Nat)) := by
      intro h; obtain ⟨l, c, rfl⟩ := hcs.slice; rw [hvl]; exact lenA_slice (P := Try.prog) u23
    repeat apply WP.seq
    apply WP.region; simp [hl]
    repeat apply WP.seq
    apply WP.region; simp [hl, hca10]
    repeat apply WP.seq
    apply WP.cond (t := false) (by simp [hl]) (by simp)
    intro _
    apply WP.skip; simp
    repeat apply WP.seq
    obtain ⟨wc, gc, B, hap, hownc, hB, hkc⟩ := hs.clone (P := Try.prog) hw u22 s3 (fun _ => room3 (by simp; omega)) ints_ok
    obtain ⟨C, g, pv, hnew, hgC, hpv, hidp, hCn, hk⟩ := new_ok O.o25 O.o11 hkc.wf hownc.sl (by omega) b0
    have hC : Ch g C want (max b0 1) [] (-1) := ⟨_, _, hgC, hpv, ⟨rfl, rfl⟩, fun hi => (hidp _ hi).2 rfl, by simp [idOf]⟩
    apply WP.region; simp [hl, h0, h1, build22, hap, hca11, hnew]
    repeat apply WP.seq
    apply WP.region; simp [hl, bin_ptnil u25]
    repeat apply WP.seq
    apply WP.cond (t := false) (by simp [hl]) (by simp)
    intro _
    apply WP.skip; simp
    repeat apply WP.seq
    have hk0 := hkc.trans hk
    clear hgC hpv hidp hnew hap hownc
    -- the bound
    apply WP.region; simp [hl, h1]
    repeat apply WP.seq
    refine WP.mono (K := fun o e g' => o = .normal ∧ g = g' ∧ e.length = 133 ∧ nth e 1 = .int .i64 (max b0 1) ∧ nth e 2 = cv ∧ nth e 7 = .ptr (some ⟨C, 0⟩)) ?_ ?_
    · apply WP.cond (by simp [hl]; rfl)
      · intro hc
        have hc : b0 < 1 := by simpa using hc
        have hm : max b0 1 = 1 := by omega
        apply WP.region; simp [hl, h2, hm]
      · intro hc
        have hc : ¬ b0 < 1 := by simpa using hc
        have hm : max b0 1 = b0 := by omega
        apply WP.skip; simp [hl, h1, h2, hm]
    rintro _ e _ ⟨rfl, rfl, hl, h1, h2, h7⟩
    generalize hb : max b0 1 = b at h1 hC
    have hb1 : 1 ≤ b ∧ b ≤ 9223372036854775807 := by omega
    simp
    repeat apply WP.seq
    apply WP.region; simp [hl]
    repeat apply WP.seq
    apply WP.region; simp [hl, h2, hlenc]
    repeat apply WP.seq
    apply WP.block
    refine WP.loop (fun k e g' => g = g' ∧ e.length = 133 ∧ nth e 1 = .int .i64 b ∧ nth e 2 = cv ∧ nth e 7 = .ptr (some ⟨C, 0⟩) ∧ nth e 29 = cv ∧ nth e 30 = .int .i64 rs.length ∧ ∃ i, i ≤ rs.length ∧ k = rs.length - i ∧ nth e 31 = .int .i64 (i : Nat) ∧ nth e 8 = .int .i64 (maxLenTo rs i : Nat)) ?_ rs.length _ _ ?_
    · rintro k e _ ⟨rfl, hl, h1, h2, h7, h29, h30, i, hi, rfl, h31, h8⟩
      have hssk : ∀ {ex : List Nat} {g' : Heap}, Keep ex g g' → (∀ i, i ∈ ex → h.next ≤ i) → ∀ (i : Nat) v r, vs[i]? = some v → rs[i]? = some r → Sl g' v (bools r) := by
        intro ex g' hkk hex i v r hv hr
        refine (hss.2 i v r hv hr).keep' (hk0.more (ex' := ex) (by simp) |>.trans hkk) ?_
        intro hne j hj hm
        have := (hss.2 i v r hv hr).lt hw hne hj
        have := hex j hm
        omega
      have hcsk : ∀ {ex : List Nat} {g' : Heap}, Keep ex g g' → (∀ i, i ∈ ex → h.next ≤ i) → Sl g' cv vs := by
        intro ex g' hkk hex
        refine hcs.keep' (hk0.more (ex' := ex) (by simp) |>.trans hkk) ?_
        intro hne j hj hm
        have := hcs.lt hw hne hj
        have := hex j hm
        omega
      repeat apply WP.seq
      apply WP.region; simp [hl, h30, h31]
      repeat apply WP.seq
      apply WP.cond (by simp [hl]; rfl)
      · intro hlt1
        have hlt1 : i < rs.length := by simpa using hlt1
        apply WP.skip; simp
        repeat apply WP.seq
        apply WP.block
        repeat apply WP.seq
        obtain ⟨v, r, hvi, hri, _⟩ := hss.at hlt1
        have hsv := hssk (Keep.refl (ex := []) hk0.wf) (by simp) i v r hvi hri
        obtain ⟨l1, hl1, hl1', _⟩ := (hcsk (Keep.refl (ex := []) hk0.wf) (by simp)).at (P := Try.prog) u23 s31 a31 hvi (k := .i64)
        have hlv := hsv.len (P := Try.prog) u31
        have hgd : rs.getD i [] = r := by simp [List.getD_eq_getElem?_getD, hri]
        apply WP.region; simp [hl, h29, h31, hl1, hl1']
        repeat apply WP.seq
        apply WP.region; simp [hl, h8, hlv]
        repeat apply WP.seq
        apply WP.cond (by simp [hl]; rfl)
        · intro hc
          have hc : maxLenTo rs i < r.length := by simpa using hc
          have hm : maxLenTo rs (i + 1) = r.length := by simp only [maxLenTo, hgd, if_pos hc]
          apply WP.region; simp [hl, hlv]
          apply WP.region; simp [hl, h31, int_wrap (show i < 9223372036854775807 by omega)]
          exact ⟨rs.length - (i + 1), by omega, h1, h2, h7, h29, h30, i + 1, by omega, rfl, by simp, by rw [hm]⟩
        · intro hc
          have hc : ¬ maxLenTo rs i < r.length := by simpa using hc
          have hm : maxLenTo rs (i + 1) = maxLenTo rs i := by simp only [maxLenTo, hgd, if_neg hc]
          apply WP.skip; simp
          apply WP.region; simp [hl, h31, int_wrap (show i < 9223372036854775807 by omega)]
          exact ⟨rs.length - (i + 1), by omega, h1, h2, h7, h29, h30, i + 1, by omega, rfl, by simp, by rw [hm]; exact h8⟩
      · intro hge
        have hge : ¬ i < rs.length := by simpa using hge
        have hi' : i = rs.length := by omega
        subst hi'
        apply WP.exit
        simp
        have hnm : ∀ (i : Nat) r, rs[i]? = some r → r.length ≤ maxLenTo rs rs.length := fun i r hr => maxLenTo_ge rs rs.length i r (List.getElem?_eq_some_iff.1 hr).1 hr
        have hnM : maxLenTo rs rs.length ≤ 2000000 := maxLenTo_le rs hrm rs.length (Nat.le_refl _)
        generalize maxLenTo rs rs.length = n at h8 hnm hnM
        -- the waits
        have hmk : makeSliceA Try.prog g 22 (.int .i64 (n : Nat)) (.int .i64 (n : Nat)) = _ := make22 (by omega)
        have hk2 : Keep [] g (g.alloc (.cells (List.replicate n (.int .i64 0)) .own)) := (Keep.refl hk0.wf).alloc _
        have hg2 : (g.alloc (.cells (List.replicate n (.int .i64 0)) .own)).get g.next = some (.cells (List.replicate n (.int .i64 0)) .own) := Heap.get_alloc _ _
        have hCg : C < g.next := hC.lt hk0.wf
        have hCX := (ChX.of hk0.wf hC (Nat.le_refl g.next)).keep hk2
        generalize g.alloc (.cells (List.replicate n (.int .i64 0)) .own) = g2 at hk2 hg2 hmk hCX
        have hown : Own g2 (.slice (some ⟨g.next, 0⟩) n (.exact n)) g.next (ints (waitsOf [] n)) :=
          ⟨.exact n, ⟨by simp [waitsOf], by simp [capOk, waitsOf]⟩, by
            rw [hg2]
            rw [waits_nil]; simp [ints]⟩
        have hAC : g.next ≠ C := by omega
        have hAh : h.next ≤ g.next := hk0.le
        have hCh : h.next ≤ C := by have := hkc.le; omega
        generalize hA : g.next = A at hown hmk hAC hAh hCX
        have hlenr : ∀ g, lenA Try.prog g 22 (.slice (some ⟨A, 0⟩) n (.exact n)) = some (.int .i64 (n : Nat)) := fun g => lenA_slice u22
        generalize AV.slice (some ⟨A, 0⟩) n (.exact n) = ws at hown hmk hlenr
        have hex : ∀ i, i ∈ [C, A] → h.next ≤ i := by
          intro i hi
          simp only [List.mem_cons, List.mem_nil_iff, or_false] at hi
          rcases hi with rfl | rfl <;> omega
        repeat apply WP.seq
        apply WP.region; simp [hl, h8, hmk]
        repeat apply WP.seq
        apply WP.region; simp [hl, h2, hlenc]
        repeat apply WP.seq
        apply WP.block
        refine WP.loop (fun k e g' => e.length = 133 ∧ nth e 1 = .int .i64 b ∧ nth e 2 = cv ∧ nth e 7 = .ptr (some ⟨C, 0⟩) ∧ nth e 8 = .int .i64 n ∧ nth e 11 = ws ∧ nth e 44 = cv ∧ nth e 45 = .int .i64 rs.length ∧ Keep [C, A] g g' ∧ ∃ x, x ≤ rs.length ∧ k = rs.length - x ∧ nth e 46 = .int .i64 (x : Int) ∧
          ∃ picks ages last, (∀ a ∈ ages, 0 ≤ a ∧ a ≤ (x : Int)) ∧ Fair n b ages ∧ Own g' ws A (ints (waitsOf ages n)) ∧ ChX A g' C picks b ages last) ?_ rs.length _ _ ?_
        · rintro k e g' ⟨hl, h1, h2, h7, h8, h11, h44, h45, hkk, x, hx, rfl, h46, picks, ages, last, haok, hfair, hown, hCX⟩
          repeat apply WP.seq
          apply WP.region; simp [hl, h45, h46]
          repeat apply WP.seq
          apply WP.cond (by simp [hl]; rfl)
          · intro hlt1
            have hlt1 : x < rs.length := by simpa using hlt1
            apply WP.skip; simp
            repeat apply WP.seq
            apply WP.block
            repeat apply WP.seq
            obtain ⟨v, r, hvi, hri, _⟩ := hss.at hlt1
            have hsv := hssk hkk hex x v r hvi hri
            obtain ⟨l1, hl1, hl1', _⟩ := (hcsk hkk hex).at (P := Try.prog) u23 s31 a31 hvi (k := .i64)
            have hrn := hnm x r hri
            apply WP.region; simp [hl, h44, h46, hl1, hl1']
            repeat apply WP.seq
            obtain ⟨v', g3, B', hap, hown3, hB', hk3⟩ := hsv.clone (P := Try.prog) hkk.wf u31 s4 (fun _ => room4 (by simp; omega)) bools_ok
            have hC3 := hCX.keep hk3
            have hA' : A < g'.next := hkk.wf _ _ hown.choose_spec.2
            have hC' : C < g'.next := hCX.ch.lt hkk.wf
            have hk3l := hk3.le
            have hvC : idOf v' ≠ some C := by rw [hown3.id]; simp; omega
            obtain ⟨g4, hcall, hC4, hk4⟩ := next_okX O hk3.wf (A := A) (by omega) hC3 hown3.sl hvC (by omega) (fun a ha => by have := haok a ha; omega)
            have hspec := next_spec picks b ages last r
            have hfair' : Fair n b (nextP picks b ages last r).ages := hfair.next hb1.1 hrn
            have hNa : ∀ i, at0 (nextP picks b ages last r).ages i = if r.getD i false = true ∧ (i : Int) ≠ (nextP picks b ages last r).chosen then at0 ages i + 1 else 0 := by
              intro i; rw [nextP_ages]; exact newAges_at _ _ _ _
            have hokN : ∀ a ∈ (nextP picks b ages last r).ages, 0 ≤ a ∧ a ≤ (x : Int) + 1 := by
              rw [nextP_ages]
              exact newAges_ok (by omega) (at0_le (by omega) (agesFor_le (by omega) haok r.length))
            generalize nextP picks b ages last r = N at hcall hC4 hspec hfair' hNa hokN
            have hown4 := (hown.keep hk3 (by simp)).keep hk4 (by simp [hAC])
            have hkk4 : Keep [C, A] g g4 := (hkk.trans (hk3.more (by simp))).trans (hk4.more (by simp))
            have hlv : ∀ h, lenA Try.prog h 31 v = some (.int .i64 (r.length : Nat)) := by
              intro h; obtain ⟨l, c, rfl⟩ := hsv.slice; simpa using lenA_slice (P := Try.prog) u31
            apply WP.region; simp [hl, h7, build31, hap, hca14, hcall, extractA]
            repeat apply WP.seq
            apply WP.region; simp [hl]
            repeat apply WP.seq
            apply WP.region; simp [hl, h11, hlenr]
            repeat apply WP.seq
            apply WP.block
            refine WP.loop (fun k e g5 => e.length = 133 ∧ nth e 1 = .int .i64 b ∧ nth e 2 = cv ∧ nth e 7 = .ptr (some ⟨C, 0⟩) ∧ nth e 8 = .int .i64 n ∧ nth e 11 = ws ∧ nth e 13 = v ∧ nth e 14 = .int .i64 (max N.chosen 0) ∧ nth e 15 = .bool (decide (0 ≤ N.chosen)) ∧ nth e 44 = cv ∧ nth e 45 = .int .i64 rs.length ∧ nth e 46 = .int .i64 (x : Int) ∧ nth e 59 = .int .i64 n ∧ Keep [A] g4 g5 ∧
              ∃ i, i ≤ n ∧ k = n - i ∧ nth e 60 = .int .i64 (i : Int) ∧ nth e 16 = .bool (anyTo r i) ∧ Own g5 ws A (ints (mixW ages N.ages i n))) ?_ n _ _ ?_
            · rintro k e g5 ⟨hl, h1, h2, h7, h8, h11, h13, h14, h15, h44, h45, h46, h59, hk5, i, hi, rfl, h60, h16, hown5⟩
              repeat apply WP.seq
              apply WP.region; simp [hl, h59, h60]
              repeat apply WP.seq
              apply WP.cond (by simp [hl]; rfl)
              · intro hlt2
                have hlt2 : i < n := by simpa using hlt2
                apply WP.skip; simp
                repeat apply WP.seq
                apply WP.block
                repeat apply WP.seq
                have hml := mixW_length ages N.ages i n
                have hms := mixW_set ages N.ages hlt2
                have haddr := hown5.addr (P := Try.prog) u22 s3 (i := i) (by simp [hml, hlt2]) (k := .i64)
                have hload := hown5.load (P := Try.prog) a3 (ints_get (mixW_at ages N.ages hlt2))
                have hai := at0_le (by omega) haok i
                have hni := at0_le (by omega) hokN i
                have hNi := hNa i
                have hA5 : A < g5.next := hk5.wf _ _ hown5.choose_spec.2
                have hsv5 : Sl g5 v (bools r) := hssk (hkk4.trans (hk5.more (by simp))) hex x v r hvi hri
                have fin : at0 N.ages i = 0 → ∃ g6, storeA Try.prog g5 3 ⟨A, i⟩ (.int .i64 0) = some g6 ∧ Keep [A] g4 g6 ∧ Own g6 ws A (ints (mixW ages N.ages (i + 1) n)) := by
                  intro hz
                  obtain ⟨hst, hown6⟩ := hown5.store (P := Try.prog) s3 (i := i) (by simp [hml, hlt2]) (x := .int .i64 (at0 N.ages i)) rfl rfl
                  rw [ints_set, hms] at hst hown6
                  rw [hz] at hst
                  exact ⟨_, hst, hk5.set _ hA5 (.inl (by simp)), hown6⟩
                apply WP.region; simp [hl, h60]
                repeat apply WP.seq
                apply WP.region
                by_cases hlr : i < r.length
                rotate_left
                · have hgd : r.getD i false = false := by simp [List.getD_eq_getElem?_getD, hlr]
                  have hany : anyTo r (i + 1) = anyTo r i := by simp only [anyTo, hgd, Bool.or_false]
                  obtain ⟨g6, hst, hk6, hown6⟩ := fin (by rw [hNi, hgd]; simp)
                  have hle : r.length ≤ i := by omega
                  simp [hl, h13, hlv, guardA, hle]
                  repeat apply WP.seq
                  apply WP.cond (t := true) (by simp [hl]) ?_ (by simp)
                  intro _
                  repeat apply WP.seq
                  apply WP.region; simp [hl, h11, haddr, storeR_ptr hst]
                  apply WP.exit; simp
                  apply WP.region; simp [hl, h60, int_wrap (show i < 9223372036854775807 by omega)]
                  exact ⟨n - (i + 1), by omega, h1, h2, h7, h8, h11, h13, h14, h15, h44, h45, h46, h59, hk6, i + 1, by omega, rfl, by simp, by rw [hany]; exact h16, hown6⟩
                · obtain ⟨bb, hrb⟩ : ∃ bb, r[i]? = some bb := ⟨r[i], by simp [hlr]⟩
                  have hgd : r.getD i false = bb := by simp [List.getD_eq_getElem?_getD, hrb]
                  have hle : ¬ r.length ≤ i := by omega
                  obtain ⟨l2, hl2, hl2', _⟩ := hsv5.at u31 s4 a4 (bools_get hrb) (k := .i64)
                  cases bb with
                  | false =>
                    have hany : anyTo r (i + 1) = anyTo r i := by simp only [anyTo, hgd, Bool.or_false]
                    obtain ⟨g6, hst, hk6, hown6⟩ := fin (by rw [hNi, hgd]; simp)
                    simp [hl, h13, hlv, guardA, hle, hl2, hl2']
                    repeat apply WP.seq
                    apply WP.cond (t := true) (by simp [hl]) ?_ (by simp)
                    intro _
                    repeat apply WP.seq
                    apply WP.region; simp [hl, h11, haddr, storeR_ptr hst]
                    apply WP.exit; simp
                    apply WP.region; simp [hl, h60, int_wrap (show i < 9223372036854775807 by omega)]
                    exact ⟨n - (i + 1), by omega, h1, h2, h7, h8, h11, h13, h14, h15, h44, h45, h46, h59, hk6, i + 1, by omega, rfl, by simp, by rw [hany]; exact h16, hown6⟩
                  | true =>
                    have hany : anyTo r (i + 1) = true := by simp only [anyTo, hgd, Bool.or_true]
                    have hiw : i ∈ whoFrom r 0 := by simpa using whoFrom_has r 0 i hrb
                    obtain ⟨c, hNc⟩ : ∃ c : Nat, N.chosen = c := by
                      rcases hspec with ⟨he, _⟩ | ⟨c, hc, _⟩
                      · rw [he] at hiw; cases hiw
                      · exact ⟨c, hc⟩
                    have hmx : max (c : Int) 0 = c := by omega
                    have hc0 : (0 : Int) ≤ c := by omega
                    rw [hNc] at h14 h15 hNi
                    rw [hmx] at h14
                    simp only [hc0, decide_true] at h15
                    rw [hgd] at hNi
                    obtain ⟨hst, hown6⟩ := hown5.store (P := Try.prog) s3 (i := i) (by simp [hml, hlt2]) (x := .int .i64 (at0 ages i + 1)) rfl rfl
                    have hk6 := hk5.set (.cells ((ints (mixW ages N.ages i n)).set i (.int .i64 (at0 ages i + 1))) .own) hA5 (.inl (by simp))
                    generalize g5.set A (.cells ((ints (mixW ages N.ages i n)).set i (.int .i64 (at0 ages i + 1))) .own) = g6 at hst hown6 hk6
                    rw [ints_set] at hown6
                    have hA6 : A < g6.next := hk6.wf _ _ hown6.choose_spec.2
                    have haddr6 := hown6.addr (P := Try.prog) u22 s3 (i := i) (by simp [hml, hlt2]) (k := .i64)
                    simp [hl, h13, hlv, guardA, hle, hl2, hl2']
                    repeat apply WP.seq
                    apply WP.cond (t := false) (by simp [hl]) (by simp)
                    intro _
                    apply WP.skip; simp
                    repeat apply WP.seq
                    apply WP.region; simp [hl]
                    repeat apply WP.seq
                    apply WP.region; simp [hl, h11, haddr, hload, wrap_small (show -9223372036854775808 ≤ at0 ages i + 1 by omega) (by omega), storeR_ptr hst]
                    repeat apply WP.seq
                    apply WP.region; simp [hl, h14, h15, guardA]
                    repeat apply WP.seq
                    apply WP.cond (by simp [hl]; rfl)
                    · intro hci
                      have hci : c = i := by
                        have : (c : Int) = i := by simpa using hci
                        omega
                      subst hci
                      have hz : at0 N.ages c = 0 := by rw [hNi]; simp
                      obtain ⟨hst7, hown7⟩ := hown6.store (P := Try.prog) s3 (i := c) (by simp [hml, hlt2]) (x := .int .i64 (at0 N.ages c)) rfl rfl
                      rw [ints_set, List.set_set, hms] at hst7 hown7
                      have hk7 := hk6.set (.cells (ints (mixW ages N.ages (c + 1) n)) .own) hA6 (.inl (by simp))
                      generalize g6.set A (.cells (ints (mixW ages N.ages (c + 1) n)) .own) = g7 at hst7 hown7 hk7
                      rw [hz] at hst7
                      have hml7 := mixW_length ages N.ages (c + 1) n
                      have hw7 : (mixW ages N.ages (c + 1) n)[c]? = some 0 := by rw [← hz]; simp [mixW, hlt2]
                      have haddr7 := hown7.addr (P := Try.prog) u22 s3 (i := c) (by simp [hml7, hlt2]) (k := .i64)
                      have hload7 := hown7.load (P := Try.prog) a3 (ints_get hw7)
                      have hn0 : n ≠ 0 := by omega
                      apply WP.region; simp [hl, h11, haddr6, storeR_ptr hst7]
                      repeat apply WP.seq
                      apply WP.region; simp [hl, h8, h11, haddr7, hload7, guardA, hn0]
                      repeat apply WP.seq
                      apply WP.cond (t := false) (by simp [hl]) (by simp)
                      intro _
                      apply WP.skip; simp
                      apply WP.region; simp [hl, h60, int_wrap (show c < 9223372036854775807 by omega)]
                      exact ⟨n - (c + 1), by omega, h1, h2, h7, h8, h11, h13, by rw [h14, hNc, hmx], by rw [h15, hNc]; simp [hc0], h44, h45, h46, h59, hk7, c + 1, by omega, rfl, by simp, by rw [hany], hown7⟩
                    · intro hci
                      have hci : ¬ (i : Int) = c := by
                        have : ¬ (c : Int) = i := by simpa using hci
                        omega
                      have hz : at0 N.ages i = at0 ages i + 1 := by rw [hNi]; simp [hci]
                      rw [← hz, hms] at hown6
                      have hml7 := mixW_length ages N.ages (i + 1) n
                      have hw7 : (mixW ages N.ages (i + 1) n)[i]? = some (at0 N.ages i) := by simp [mixW, hlt2]
                      have haddr7 := hown6.addr (P := Try.prog) u22 s3 (i := i) (by simp [hml7, hlt2]) (k := .i64)
                      have hload7 := hown6.load (P := Try.prog) a3 (ints_get hw7)
                      have hlt := hfair'.lt (by omega) (by omega) i
                      apply WP.skip; simp
                      repeat apply WP.seq
                      apply WP.region
                      by_cases hnw : (n : Int) ≤ at0 N.ages i
                      · have hbw : ¬ b ≤ at0 N.ages i - n := by omega
                        simp [hl, h1, h8, h11, haddr7, hload7, guardA, hnw, wrap_small (show -9223372036854775808 ≤ at0 N.ages i - n by omega) (by omega), hbw]
                        repeat apply WP.seq
                        apply WP.cond (t := false) (by simp [hl]) (by simp)
                        intro _
                        apply WP.skip; simp
                        apply WP.region; simp [hl, h60, int_wrap (show i < 9223372036854775807 by omega)]
                        exact ⟨n - (i + 1), by omega, h1, h2, h7, h8, h11, h13, by rw [h14, hNc, hmx], by rw [h15, hNc]; simp [hc0], h44, h45, h46, h59, hk6, i + 1, by omega, rfl, by simp, by rw [hany], hown6⟩
                      · simp [hl, h1, h8, h11, haddr7, hload7, guardA, hnw]
                        repeat apply WP.seq
                        apply WP.cond (t := false) (by simp [hl]) (by simp)
                        intro _
                        apply WP.skip; simp
                        apply WP.region; simp [hl, h60, int_wrap (show i < 9223372036854775807 by omega)]
                        exact ⟨n - (i + 1), by omega, h1, h2, h7, h8, h11, h13, by rw [h14, hNc, hmx], by rw [h15, hNc]; simp [hc0], h44, h45, h46, h59, hk6, i + 1, by omega, rfl, by simp, by rw [hany], hown6⟩
              · intro hge
                have hge : ¬ i < n := by simpa using hge
                have hi' : i = n := by omega
                subst hi'
                apply WP.exit
                simp
                rw [mixW_all] at hown5
                have hC5 := hC4.write hk5 hAC
                have hkk5 : Keep [C, A] g g5 := hkk4.trans (hk5.more (by simp))
                have hsv5 : Sl g5 v (bools r) := hssk hkk5 hex x v r hvi hri
                repeat apply WP.seq
                rcases hspec with ⟨he, hNc⟩ | ⟨c, hNc, hcm, _⟩
                · rw [anyTo_none he] at h16
                  rw [hNc] at h14 h15
                  apply WP.region; simp [hl, h13, h14, h15, h16, guardA, bin_bne u4]
                  repeat apply WP.seq
                  apply WP.cond (t := false) (by simp [hl]) (by simp)
                  intro _
                  apply WP.skip; simp
                  apply WP.region; simp [hl, h46, int_wrap (show x < 9223372036854775807 by omega)]
                  exact ⟨rs.length - (x + 1), by omega, h1, h2, h7, h8, h11, h44, h45, hkk5, x + 1, by omega, rfl, by simp, N.picks, N.ages, fun a ha => by have := hokN a ha; omega, hfair', hown5, N.last, hC5⟩
                · have hcw := whoFrom_mem r 0 c hcm
                  simp only [Nat.zero_add, Nat.sub_zero] at hcw
                  rw [anyTo_some hrn hcm] at h16
                  have hmx : max (c : Int) 0 = c := by omega
                  have hc0 : (0 : Int) ≤ c := by omega
                  rw [hNc] at h14 h15
                  rw [hmx] at h14
                  simp only [hc0, decide_true] at h15
                  obtain ⟨l2, hl2, hl2', _⟩ := hsv5.at u31 s4 a4 (bools_get hcw.2.2) (k := .i64)
                  have hc1 : ¬ (c : Int) < 0 := by omega
                  have hc2 : ¬ r.length ≤ c := by omega
                  apply WP.region; simp [hl, h13, h14, h15, h16, guardA, bin_bne u4, hc1, hc2, hlv, hl2, hl2']
                  repeat apply WP.seq
                  apply WP.cond (t := false) (by simp [hl]) (by simp)
                  intro _
                  apply WP.skip; simp
                  apply WP.region; simp [hl, h46, int_wrap (show x < 9223372036854775807 by omega)]
                  exact ⟨rs.length - (x + 1), by omega, h1, h2, h7, h8, h11, h44, h45, hkk5, x + 1, by omega, rfl, by simp, N.picks, N.ages, fun a ha => by have := hokN a ha; omega, hfair', hown5, N.last, hC5⟩
            · refine ⟨by simp [hl], by simp [h1], by simp [h2], by simp [h7], by simp [h8], by simp [h11], by simp [hl], by simp [hl], by simp [hl], by simp [h44], by simp [h45], by simp [h46], by simp [hl], Keep.refl hk4.wf, 0, by omega, by omega, by simp [hl], by simp [hl, anyTo], by rw [mixW_zero]; exact hown4⟩
          · intro hge
            apply WP.exit
            simp
            repeat apply WP.seq
            apply WP.region; simp [hl]
            apply WP.ret
            simp [hl, resultsA, resultA, single]
        · refine ⟨by simp [hl], by simp [h1], by simp [h2], by simp [h7], by simp [h8], by simp [hl], by simp [hl], by simp [hl], hk2.more (by simp), 0, by omega, by omega, by simp [hl], want, [], -1, by simp, Fair.nil _ _, hown, hCX⟩
    · refine ⟨rfl, by simp [hl], by simp [h1], by simp [h2], by simp [h7], by simp [hl], by simp [hl], 0, by omega, by omega, by simp [hl], by simp [hl, maxLenTo]⟩
  obtain ⟨_, h', h1, rfl⟩ := main
  exact ⟨h', h1⟩
end
end Go.Am

set_option linter.unusedSimpArgs false
namespace Go.Am
open Go.RowKit Go.Proofs

section
variable {P : Program}
/-- What is ahead of a place. -/
theorem Sl.upto {h : Heap} {v : AV} {xs : List AV} (hs : Sl h v xs) {t el : TypeId} (hu : P.underlying t = some (.slice el)) (h1 : sizeA P el = some 1) {k : IntKind} {m : Nat} (hm : m < xs.length) :
    ∃ v', sliceA P t v none (some (.int k (m : Int))) none = some v' ∧ Sl h v' (xs.take m) := by
  match v, hs with
  | .slice none n c, hs => obtain ⟨_, rfl⟩ := hs; simp at hm
  | .slice (some l) n c, hs =>
    obtain ⟨⟨rfl, hcap⟩, h0 | ⟨cs, k', hg, hle, hd⟩⟩ := hs
    · omega
    · have hd' : (cs.drop l.off).take m = xs.take m := by
        rw [← hd, List.take_take, Nat.min_eq_left (by omega)]
      have hb : ∀ y, m ≤ y → boundA (some (.int k (m : Int))) xs.length y = some m := by
        intro y hy
        simp only [boundA]
        rw [if_pos ⟨by omega, by omega⟩]
        rfl
      have b2 : boundA none 0 m = some 0 := rfl
      have hlt : Nat.blt 0 xs.length = true := (blt_iff _ _).2 (by omega)
      have hlen : (xs.take m).length = m := by simp; omega
      simp only [sliceA, hu, sliceOf, h1]
      cases c with
      | exact n =>
        simp only [capOk] at hcap
        rw [hb _ (by simp only [Cap.sure]; omega)]
        simp only [b2]
        have hl : (bif Nat.beq n 0 then l else locAdd l (0 * 1)) = l := by cases n <;> simp [locAdd]
        rw [hl]
        exact ⟨_, rfl, ⟨⟨by rw [hlen]; omega, by simp only [capOk]; omega⟩, .inr ⟨cs, k', hg, by omega, by simpa using hd'⟩⟩⟩
      | tip e =>
        simp only [capOk] at hcap
        subst hcap
        rw [hb _ (by simp only [Cap.sure]; omega)]
        simp only [b2, hlt, cond_true, Trie.beq1, decide_true]
        exact ⟨_, rfl, ⟨⟨by rw [hlen]; omega, rfl⟩, .inr ⟨cs, k', hg, by simp only [locAdd]; omega, by simpa [locAdd] using hd'⟩⟩⟩
      | dim =>
        rw [hb _ (by simp only [Cap.sure]; omega)]
        simp only [b2, hlt, cond_true]
        exact ⟨_, rfl, ⟨⟨by rw [hlen]; omega, trivial⟩, .inr ⟨cs, k', hg, by simp only [locAdd]; omega, by simpa [locAdd] using hd'⟩⟩⟩
end

/-- A chooser that does not use some blocks. -/
def ChXs (ex : List Nat) (h : Heap) (C : Nat) (picks : List Int) (bound : Int) (ages : List Int) (last : Int) : Prop :=
  ∃ pv av, ChAt h C pv av picks bound ages last ∧ (picks ≠ [] → ∀ i, idOf pv = some i → i ∉ ex) ∧ (ages ≠ [] → ∀ i, idOf av = some i → i ∉ ex)
theorem ChXs.ch {ex : List Nat} {h : Heap} {C : Nat} {picks ages : List Int} {bound last : Int} (hC : ChXs ex h C picks bound ages last) : Ch h C picks bound ages last := by
  obtain ⟨p, a, h1, _⟩ := hC; exact ⟨p, a, h1⟩
theorem ChXs.nil {h : Heap} {C : Nat} {picks ages : List Int} {bound last : Int} (hC : Ch h C picks bound ages last) : ChXs [] h C picks bound ages last := by
  obtain ⟨p, a, h1⟩ := hC; exact ⟨p, a, h1, by simp, by simp⟩
theorem ChXs.cons {ex : List Nat} {A : Nat} {h : Heap} (hw : Wf h) {C : Nat} {picks ages : List Int} {bound last : Int} (hC : ChXs ex h C picks bound ages last) (hA : h.next ≤ A) : ChXs (A :: ex) h C picks bound ages last := by
  obtain ⟨p, a, h1, h2, h3⟩ := hC
  refine ⟨p, a, h1, fun hne i hi hm => ?_, fun hne i hi hm => ?_⟩
  · have := h1.2.1.lt hw (by simpa [ints] using hne) hi
    rcases List.mem_cons.1 hm with rfl | hm
    · omega
    · exact h2 hne i hi hm
  · have := h1.2.2.1.lt hw (by simpa [ints] using hne) hi
    rcases List.mem_cons.1 hm with rfl | hm
    · omega
    · exact h3 hne i hi hm
theorem ChXs.less {ex ex' : List Nat} {h : Heap} {C : Nat} {picks ages : List Int} {bound last : Int} (hC : ChXs ex h C picks bound ages last) (hx : ∀ i, i ∈ ex' → i ∈ ex) : ChXs ex' h C picks bound ages last := by
  obtain ⟨p, a, h1, h2, h3⟩ := hC
  exact ⟨p, a, h1, fun hne i hi hm => h2 hne i hi (hx i hm), fun hne i hi hm => h3 hne i hi (hx i hm)⟩
/-- Kept by writes into those blocks. -/
theorem ChXs.keep {ex ex' : List Nat} {h0 h : Heap} (hk : Keep ex' h0 h) {C : Nat} {picks ages : List Int} {bound last : Int} (hC : ChXs ex h0 C picks bound ages last) (hx : ∀ i, i ∈ ex' → i ∈ ex) (hc : C ∉ ex') : ChXs ex h C picks bound ages last := by
  obtain ⟨p, a, hc', h1, h2⟩ := hC
  refine ⟨p, a, ⟨hk.get _ _ hc'.1 hc, hc'.2.1.keep' hk ?_, hc'.2.2.1.keep' hk ?_, hc'.2.2.2⟩, h1, h2⟩
  · intro hne i hi hm
    exact h1 (by simpa [ints] using hne) i hi (hx i hm)
  · intro hne i hi hm
    exact h2 (by simpa [ints] using hne) i hi (hx i hm)
theorem ChXs.keep0 {ex : List Nat} {h0 h : Heap} (hk : Keep [] h0 h) {C : Nat} {picks ages : List Int} {bound last : Int} (hC : ChXs ex h0 C picks bound ages last) : ChXs ex h C picks bound ages last := hC.keep hk (by simp) (by simp)

theorem next_picks_ne {picks : List Int} {b : Int} {ages : List Int} {last : Int} {ready : List Bool} (h : (nextP picks b ages last ready).picks ≠ []) : picks ≠ [] := by
  rintro rfl
  apply h
  by_cases hne : whoFrom ready 0 = []
  · exact (next_none hne).2
  · rcases next_cases (picks := []) (b := b) (ages := ages) (last := last) hne with ⟨_, _, h3⟩ | ⟨_, ⟨p, ps, h1, _⟩ | ⟨_, _, h3⟩⟩
    · exact h3
    · cases h1
    · exact h3
theorem next_last (picks : List Int) (b : Int) (ages : List Int) (last : Int) (ready : List Bool) : (nextP picks b ages last ready).last = if 0 ≤ (nextP picks b ages last ready).chosen then (nextP picks b ages last ready).chosen else last := by
  by_cases hne : whoFrom ready 0 = []
  · simp [nextP, hne]
  · simp only [nextP, if_neg hne]
    rw [if_pos (by omega)]
theorem lastOf_snoc (cs : List (AV × List Bool × Int)) (x : AV × List Bool × Int) : lastOf (cs ++ [x]) = if 0 ≤ x.2.2 then x.2.2 else lastOf cs := by simp [lastOf]
theorem hist_snoc (cs : List (AV × List Bool × Int)) (x : AV × List Bool × Int) : hist (cs ++ [x]) = x.2 :: hist cs := by simp [hist]
/-- Ages in the whole history, one call on. -/
theorem ages_step {cs : List (AV × List Bool × Int)} {picks : List Int} {b : Int} {ages : List Int} {last : Int} {ready : List Bool} (hA : ∀ i, at0 ages i = (ageR (hist cs) i : Int)) (v : AV) (i : Nat) :
    at0 (nextP picks b ages last ready).ages i = (ageR (hist (cs ++ [(v, ready, (nextP picks b ages last ready).chosen)])) i : Int) := by
  rw [nextP_ages, newAges_at, hist_snoc]
  simp only [ageR]
  by_cases h1 : ready.getD i false = true
  · by_cases h2 : (nextP picks b ages last ready).chosen = (i : Int)
    · rw [if_neg (by intro h; exact h.2 h2.symm), if_pos (.inr h2)]; rfl
    · rw [if_pos ⟨h1, fun h => h2 h.symm⟩, if_neg (by rw [h1]; simp [h2]), hA]
      omega
  · rw [if_neg (by intro h; exact h1 h.1), if_pos (.inl (by simpa using h1))]; rfl
theorem CallsAt.keep' {ex : List Nat} {h0 h : Heap} (hk : Keep ex h0 h) {cv : AV} {cs : List (AV × List Bool × Int)} (hc : CallsAt h0 cv cs) (h1 : ∀ i, idOf cv = some i → i ∉ ex) (h2 : ∀ x ∈ cs, x.2.1 ≠ [] → ∀ i, idOf x.1 = some i → i ∉ ex) : CallsAt h cv cs :=
  ⟨hc.1.keep' hk (fun _ => h1), fun x hx => (hc.2 x hx).keep' hk (fun hne => h2 x hx (by simpa [bools] using hne))⟩

section
variable {ov : CallF}
theorem next_okXs (O : OvOk ov) {h : Heap} (hw : Wf h) {ex : List Nat} {C : Nat} (hA : ∀ A ∈ ex, A < h.next) {picks ages : List Int} {bound last : Int} (hC : ChXs ex h C picks bound ages last)
    {v : AV} {ready : List Bool} (hs : Sl h v (bools ready)) (hv : idOf v ≠ some C) (hn : ready.length ≤ 1000000000) (hages : ∀ a ∈ ages, 0 ≤ a ∧ a < 4611686018427387904) :
    ∃ h', callT ov Try.prog 14 [.ptr (some ⟨C, 0⟩), v] h = some (.ret (.tuple [.int .i64 (max (nextP picks bound ages last ready).chosen 0), .bool (decide (0 ≤ (nextP picks bound ages last ready).chosen))]) h') ∧
      ChXs ex h' C (nextP picks bound ages last ready).picks bound (nextP picks bound ages last ready).ages (nextP picks bound ages last ready).last ∧ Keep [C] h h' := by
  obtain ⟨pv, av, hCh, hx1, hx2⟩ := hC
  obtain ⟨h', h1, ⟨pv', av', h2, h3, h4⟩, h5⟩ := next_ok' O.o14 O.o27 O.o28 O.o29 O.o30 hw hCh hs hv hn hages
  refine ⟨h', h1, ⟨pv', av', h2, fun hne => ?_, fun _ i hi hm => ?_⟩, h5⟩
  · obtain ⟨hq1, hq2⟩ := h3 hne
    rw [hq2]; exact hx1 hq1
  · have := h4 _ hi; have := hA _ hm; omega
end
end Go.Am

set_option linter.unusedSimpArgs false
namespace Go.Am
open Go.RowKit Go.Proofs

structure PS where
  picks : List Int
  ages : List Int
  last : Int
  cnt : List Int
  out : List Int
def readyAt (jobs : List (Int × Int)) (s : PS) (i : Nat) : Bool := decide ((jobs.getD i (0, 0)).1 ≤ (s.out.length : Int)) && decide (at0 s.cnt i < (jobs.getD i (0, 0)).2)
def readyP (jobs : List (Int × Int)) (s : PS) : List Bool := (List.range jobs.length).map (readyAt jobs s)
def nextS (jobs : List (Int × Int)) (b : Int) (s : PS) : NextR := nextP s.picks b s.ages s.last (readyP jobs s)
def moved (s : PS) (N : NextR) : PS := ⟨N.picks, N.ages, N.last, s.cnt.set N.chosen.toNat (at0 s.cnt N.chosen.toNat + 1), s.out ++ [N.chosen]⟩
def playN (jobs : List (Int × Int)) (b : Int) : Nat → PS → PS
  | 0, s => s
  | n + 1, s => if (nextS jobs b s).chosen < 0 then s else playN jobs b n (moved s (nextS jobs b s))
def startP (jobs : List (Int × Int)) (picks : List Int) : PS := ⟨picks, [], -1, List.replicate jobs.length 0, []⟩
def playOut (jobs : List (Int × Int)) (picks : List Int) (b steps : Int) : List Int := (playN jobs (max b 1) steps.toNat (startP jobs picks)).out

theorem playN_stop {jobs : List (Int × Int)} {b : Int} {s : PS} (h : (nextS jobs b s).chosen < 0) : ∀ n, playN jobs b n s = s
  | 0 => rfl
  | n + 1 => by simp only [playN, if_pos h]
theorem playN_go {jobs : List (Int × Int)} {b : Int} {s : PS} (h : ¬ (nextS jobs b s).chosen < 0) {n : Nat} (hn : 0 < n) : playN jobs b n s = playN jobs b (n - 1) (moved s (nextS jobs b s)) := by
  cases n with
  | zero => omega
  | succ n => simp only [playN, if_neg h, Nat.add_sub_cancel]
theorem readyP_length (jobs : List (Int × Int)) (s : PS) : (readyP jobs s).length = jobs.length := by simp [readyP]
theorem readyP_get {jobs : List (Int × Int)} {s : PS} {i : Nat} (h : i < jobs.length) : (readyP jobs s)[i]? = some (readyAt jobs s i) := by simp [readyP, h]
theorem whoFrom_lt {l : List Bool} {a : Nat} (h : a ∈ whoFrom l 0) : a < l.length := by
  have := whoFrom_mem l 0 a h; omega
theorem next_chosen_lt {jobs : List (Int × Int)} {b : Int} {s : PS} (h : ¬ (nextS jobs b s).chosen < 0) : ∃ c : Nat, (nextS jobs b s).chosen = c ∧ c < jobs.length ∧ readyAt jobs s c = true := by
  rcases next_spec s.picks b s.ages s.last (readyP jobs s) with ⟨_, hc⟩ | ⟨c, hc, hcm, _⟩
  · exfalso; apply h; show (nextP _ _ _ _ _).chosen < 0; omega
  · have hw := whoFrom_mem _ _ _ hcm
    have hlt := whoFrom_lt hcm
    rw [readyP_length] at hlt
    refine ⟨c, hc, hlt, ?_⟩
    have h3 := hw.2.2
    rw [Nat.sub_zero, readyP_get hlt] at h3
    exact Option.some.inj h3

/-- Jobs as they lie in memory. -/
def rowsJ (jobs : List (Int × Int)) : List (List AV) := jobs.map fun j => [.int .i64 j.1, .int .i64 j.2]
theorem rowsJ_length (jobs : List (Int × Int)) : (rowsJ jobs).length = jobs.length := by simp [rowsJ]
theorem rowsJ_get {jobs : List (Int × Int)} {i : Nat} {j : Int × Int} (h : jobs[i]? = some j) : (rowsJ jobs)[i]? = some [.int .i64 j.1, .int .i64 j.2] := by simp [rowsJ, h]

theorem u41 : Try.prog.underlying 41 = some (.slice 49) := by kernel_rfl
theorem u51 : Try.prog.underlying 51 = some (.pointer 68) := by kernel_rfl
theorem u54 : Try.prog.underlying 54 = some (.slice 56) := by kernel_rfl
theorem u69 : Try.prog.underlying 69 = some (.pointer 71) := by kernel_rfl
theorem s49 : sizeA Try.prog 49 = some 2 := by kernel_rfl
theorem a49 : aggA Try.prog 49 = some true := by kernel_rfl
theorem s56 : sizeA Try.prog 56 = some 1 := by kernel_rfl
theorem a56 : aggA Try.prog 56 = some false := by kernel_rfl
theorem s51 : sizeA Try.prog 51 = some 1 := by kernel_rfl
theorem a51 : aggA Try.prog 51 = some false := by kernel_rfl
theorem a41 : aggA Try.prog 41 = some false := by kernel_rfl
theorem i49 : Try.prog.info? 49 = some Try.t49 := by kernel_rfl
theorem i56 : Try.prog.info? 56 = some Try.t56 := by kernel_rfl
theorem room49 {n : Nat} (hn : n ≤ 1000000000) : roomA Try.prog 49 n = true := room_of i49 (b := 16) (by kernel_rfl) (by omega) (by omega) (z := .agg #[.int .i64 0, .int .i64 0]) (by kernel_rfl) (by kernel_rfl) (by kernel_rfl)
theorem room56 {n : Nat} (hn : n ≤ 1000000000) : roomA Try.prog 56 n = true := room_of i56 (b := 16) (by kernel_rfl) (by omega) (by omega) (z := .nilIface) (by kernel_rfl) (by kernel_rfl) (by kernel_rfl)
theorem fa49 {l : Loc} : fieldAddrA Try.prog 49 (.ptr (some l)) 0 = some (.ptr (some ⟨l.id, l.off + 0⟩)) ∧ fieldAddrA Try.prog 49 (.ptr (some l)) 1 = some (.ptr (some ⟨l.id, l.off + 1⟩)) := by
  refine ⟨?_, ?_⟩ <;> kernel_rfl
theorem fa68 {l : Loc} : fieldAddrA Try.prog 68 (.ptr (some l)) 0 = some (.ptr (some ⟨l.id, l.off + 0⟩)) ∧ fieldAddrA Try.prog 68 (.ptr (some l)) 1 = some (.ptr (some ⟨l.id, l.off + 1⟩)) := by
  refine ⟨?_, ?_⟩ <;> kernel_rfl
theorem fa71 {l : Loc} : fieldAddrA Try.prog 71 (.ptr (some l)) 0 = some (.ptr (some ⟨l.id, l.off + 0⟩)) ∧ fieldAddrA Try.prog 71 (.ptr (some l)) 1 = some (.ptr (some ⟨l.id, l.off + 1⟩)) ∧
    fieldAddrA Try.prog 71 (.ptr (some l)) 2 = some (.ptr (some ⟨l.id, l.off + 3⟩)) ∧ fieldAddrA Try.prog 71 (.ptr (some l)) 3 = some (.ptr (some ⟨l.id, l.off + 4⟩)) := by
  refine ⟨?_, ?_, ?_, ?_⟩ <;> kernel_rfl
theorem alloc49 {h : Heap} : allocA Try.prog h 49 = some (.ptr (some ⟨h.next, 0⟩), h.alloc (.cells [.int .i64 0, .int .i64 0] .own)) := by kernel_rfl
theorem build41 {h : Heap} : buildSliceA Try.prog h 41 0 [] = some (.slice (some ⟨h.next, 0⟩) 0 (.exact 0), h.alloc (.cells [] .own)) := by kernel_rfl
theorem build41_1 {h : Heap} {k k' : IntKind} {x y : Int} : buildSliceA Try.prog h 41 1 [(0, .agg [.int k x, .int k' y])] = some (.slice (some ⟨h.next, 0⟩) 1 (.exact 1), h.alloc (.cells [.int k x, .int k' y] .own)) := by kernel_rfl
theorem build31_b {h : Heap} {b : Bool} : buildSliceA Try.prog h 31 1 [(0, .bool b)] = some (.slice (some ⟨h.next, 0⟩) 1 (.exact 1), h.alloc (.cells [.bool b] .own)) := by kernel_rfl
theorem build54_1 {h : Heap} {t : TypeId} {l : Option Loc} : buildSliceA Try.prog h 54 1 [(0, .iface t (.ptr l))] = some (.slice (some ⟨h.next, 0⟩) 1 (.exact 1), h.alloc (.cells [.iface t (.ptr l)] .own)) := by kernel_rfl
theorem build49 {k k' : IntKind} {x y : Int} : buildA Try.prog 49 [(0, .int k x), (1, .int k' y)] = some (.agg [.int k x, .int k' y]) := by kernel_rfl
theorem build49_1 {k' : IntKind} {y : Int} : buildA Try.prog 49 [(1, .int k' y)] = some (.agg [.int .i64 0, .int k' y]) := by kernel_rfl
theorem build68 : buildA Try.prog 68 [] = some (.agg [.slice none 0 (.exact 0), .int .i64 0]) := by kernel_rfl
theorem build71 {l : Option Loc} {k k' k'' : IntKind} {x y z : Int} : buildA Try.prog 71 [(0, .ptr l), (1, .agg [.int k x, .int k' y]), (2, .int k'' z)] = some (.agg [.ptr l, .int k x, .int k' y, .int k'' z, .int .i64 0]) := by kernel_rfl
theorem mk69 {l : Option Loc} : makeInterfaceA Try.prog 69 (.ptr l) = some (.iface 69 (.ptr l)) := by kernel_rfl
theorem box_agg {h : Heap} {vs cs : List AV} (hc : cellsA (.agg vs) = some cs) : boxA h (.agg vs) = some (.ptr (some ⟨h.next, 0⟩), h.alloc (.cells cs .own)) := by simp only [boxA, hc]; rfl
theorem meth69 : methodA Try.prog 69 "Ready" = some 46 ∧ methodA Try.prog 69 "Step" = some 47 := by
  refine ⟨?_, ?_⟩ <;> kernel_rfl
end Go.Am

set_option linter.unusedSimpArgs false
namespace Go.Am
open Go.RowKit Go.Proofs

def invR (call : CallF) (P : Program) (h : Heap) (name : String) (r : AV) (args : List AV) : Option CRes := match r with
  | .iface t v => (match methodA P t name with
    | some g => callA call P h g (v :: args)
    | none => none)
  | _ => none
theorem op_invoke {call : CallF} {P : Program} {e : List AV} {h : Heap} {r : Operand} {name : String} {xs : Array Operand} {ats : Array TypeId} : opA call P e h (.call ⟨.invoke r name, xs, ats⟩) = invR call P h name (evalA P e r) (evals P e xs.toList) := rfl
theorem invR_iface {call : CallF} {P : Program} {h : Heap} {name : String} {t : TypeId} {v : AV} {args : List AV} {g : FuncId} (hm : methodA P t name = some g) : invR call P h name (.iface t v) args = callA call P h g (v :: args) := by simp only [invR, hm]

/-- One element is appended; what is lost is told. -/
theorem Acc.pushX {P : Program} {n0 : Nat} {ex : List Nat} {h : Heap} {v : AV} {xs : List AV} (ha : Acc n0 h v xs) (hw : Wf h) (hex : ∀ i, idOf v = some i → i ∈ ex) (hn' : n0 ≤ h.next) {t el : TypeId} (hu : P.underlying t = some (.slice el)) (h1 : sizeA P el = some 1) (hroom : roomA P el (xs.length + 1) = true)
    {x y : AV} (hy : Sl h y [x]) (hok : cellOk x = true) : ∃ v' h', appendA P h t t v y = some (v', h') ∧ Acc n0 h' v' (xs ++ [x]) ∧ Keep ex h h' ∧ (∀ i, idOf v' = some i → h.next ≤ i) := by
  have hsrc := hy.src (P := P) hu (by simp [cellsOk, hok])
  have hk := Keep.refl (ex := ex) hw
  rcases ha with ⟨rfl, l, rfl, hl⟩ | ⟨i, hi, hne, rfl, hg⟩
  · simp only [List.length_nil, Nat.zero_add] at hroom
    refine ⟨.slice (some ⟨h.next, 0⟩) 1 (.tip 1), h.alloc (.cells [x] .own), ?_, .inr ⟨h.next, hn', by simp, by simp, Heap.get_alloc _ _⟩, hk.alloc _, by simp [idOf]⟩
    cases l with
    | none => simp only [appendA, hu, h1, hsrc, List.length_singleton, Nat.zero_add, hroom, cond_true]
    | some y =>
      obtain ⟨_, hx0, cs, hgx⟩ := hl y rfl
      have hb : Nat.ble 1 0 = false := rfl
      have hrd : readA h y (0 * 1) = some [] := by
        have : Nat.ble y.off cs.length = true := by rw [ble_iff, hx0]; omega
        simp [readA, hgx, this]
      simp only [appendA, hu, h1, hsrc, List.length_singleton, Nat.zero_add, hroom, cond_true, hb, cond_false, hrd, List.nil_append]
  · refine ⟨.slice (some ⟨h.next, 0⟩) (xs.length + 1) (.tip 1), (h.del i).alloc (.cells (xs ++ [x]) .own), ?_, .inr ⟨h.next, hn', by simp, by simp, Heap.get_alloc _ _⟩, (hk.del (.inl (hex i rfl))).alloc _, by simp [idOf]⟩
    have hb : Nat.ble (0 + (xs.length + 1) * 1) xs.length = false := by
      cases hb : Nat.ble (0 + (xs.length + 1) * 1) xs.length with
      | false => rfl
      | true => rw [ble_iff] at hb; omega
    have hb2 : Nat.beq (0 + xs.length * 1) xs.length = true := by simp
    have hx : cellsOk [x] = true := by simp [cellsOk, hok]
    simp only [appendA, hu, h1, hsrc, List.length_singleton, hroom, cond_true, hg, hb, cond_false]
    rw [hb2]
    simp only [hx, Bool.and_true, cond_true, List.drop_zero]
    rfl

/-- A job's own box. -/
theorem fresh49 {h : Heap} (hw : Wf h) (x y : Int) : ∃ B g1 g2, allocA Try.prog h 49 = some (.ptr (some ⟨B, 0⟩), g1) ∧ storeA Try.prog g1 49 ⟨B, 0⟩ (.agg [.int .i64 x, .int .i64 y]) = some g2 ∧ Keep [] h g2 ∧ g2.get B = some (.cells [.int .i64 x, .int .i64 y] .own) ∧ h.next ≤ B ∧ B < g2.next ∧ Keep [] h g1 := by
  have hk1 := (Keep.refl (ex := []) hw).alloc (.cells [.int .i64 0, .int .i64 0] .own)
  have hg1 := Heap.get_alloc h (.cells [.int .i64 0, .int .i64 0] .own)
  have hb := hk1.wf _ _ hg1
  have hk2 := hk1.set (.cells [.int .i64 x, .int .i64 y] .own) hb (.inr (Nat.le_refl _))
  exact ⟨_, _, _, alloc49, store_whole (P := Try.prog) s49 hg1 rfl (ds := [.int .i64 x, .int .i64 y]) rfl rfl, hk2, Heap.get_set _ _ _, Nat.le_refl _, hk2.wf _ _ (Heap.get_set _ _ _), hk1⟩
theorem cellsOk_rowsJ : ∀ {jobs : List (Int × Int)}, cellsOk (rowsJ jobs).flatten = true
  | [] => rfl
  | j :: jobs => by
    have := cellsOk_rowsJ (jobs := jobs)
    simp only [rowsJ] at this
    simp only [rowsJ, List.map_cons, List.flatten_cons, List.cons_append, List.nil_append, cellsOk, this, cellOk, Bool.true_and]
theorem rowsJ_append (a b : List (Int × Int)) : rowsJ (a ++ b) = rowsJ a ++ rowsJ b := by simp [rowsJ]
theorem slr_one {h : Heap} {B : Nat} {r : List AV} (hg : h.get B = some (.cells r .own)) {s : Nat} (hr : r.length = s) {c : Cap} : Slr h s (.slice (some ⟨B, 0⟩) 1 c) [r] := by
  refine ⟨by simp [hr], rfl, .inr ⟨r, .own, hg, by simp only []; omega, ?_⟩⟩
  simp [← hr]

section
variable {ov : CallF}

theorem cut_ok (o17 : ∀ a h, ov 17 a h = none) {h : Heap} (hw : Wf h) {v : AV} {jobs : List (Int × Int)} (hs : Slr h 2 v (rowsJ jobs)) (hn : jobs.length ≤ 2000000) :
    ∃ v' h', callT ov Try.prog 17 [v] h = some (.ret v' h') ∧ Slr h' 2 v' (rowsJ (jobs.take 20)) ∧ Keep [] h h' := by
  refine callT_wp (fn := Try.f17) (o17 _ _) (by kernel_rfl) rfl ?_
  have hl : (frameA Try.f17 [v]).length = 26 := frameA_length (Nat.le_of_ble_eq_true rfl)
  have h0 : nth (frameA Try.f17 [v]) 0 = v := frameA_nth (Nat.le_of_ble_eq_true rfl)
  generalize frameA Try.f17 [v] = e at hl h0
  have hlen : ∀ h, lenA Try.prog h 41 v = some (.int .i64 (jobs.length : Nat)) := fun h' => by simpa [rowsJ_length] using hs.len (P := Try.prog) h' u41
  repeat apply WP.seq
  apply WP.region; simp [hl]
  repeat apply WP.seq
  have hk0 := (Keep.refl (ex := []) hw).alloc (.cells [] .own)
  have hacc0 : Accr h.next (h.alloc (.cells [] .own)) 2 (.slice (some ⟨h.next, 0⟩) 0 (.exact 0)) (rowsJ (([] : List (Int × Int)))) := ⟨by simp [rowsJ], .inl ⟨rfl, _, rfl, fun _ hx => by cases hx; exact ⟨Nat.le_refl _, rfl, _, Heap.get_alloc _ _⟩⟩⟩
  apply WP.region; simp [hl, build41]
  generalize h.alloc (.cells [] .own) = g at hk0 hacc0
  repeat apply WP.seq
  apply WP.region; simp [hl, h0, hlen]
  repeat apply WP.seq
  apply WP.block
  refine WP.loop (fun k e g' => e.length = 26 ∧ nth e 7 = v ∧ nth e 8 = .int .i64 jobs.length ∧ Keep [] h g' ∧ ∃ i, i ≤ jobs.length ∧ k = jobs.length - i ∧ nth e 9 = .int .i64 (i : Nat) ∧ Accr h.next g' 2 (nth e 3) (rowsJ ((jobs.take i).take 20))) ?_ jobs.length _ _ ?_
  · rintro k e g' ⟨hl, h7, h8, hk, i, hi, rfl, h9, hacc⟩
    repeat apply WP.seq
    apply WP.region; simp [hl, h8, h9]
    repeat apply WP.seq
    apply WP.cond (by simp [hl]; rfl)
    · intro hlt1
      have hlt1 : i < jobs.length := by simpa using hlt1
      apply WP.skip; simp
      repeat apply WP.seq
      apply WP.block
      repeat apply WP.seq
      have hji : jobs[i]? = some jobs[i] := List.getElem?_eq_getElem hlt1
      generalize jobs[i] = j at hji
      have hsg : Slr g' 2 v (rowsJ jobs) := hs.keep' hk (by simp)
      obtain ⟨l1, hl1, hl1', _⟩ := hsg.at (P := Try.prog) u41 s49 a49 (rowsJ_get hji) (k := .i64)
      obtain ⟨B, g1, g2, hal, hst, hk2, hg2, hB, hB', _⟩ := fresh49 hk.wf j.1 j.2
      have hacc2 := hacc.keep hk2 (by simp)
      have hkh2 := hk.trans hk2
      have hle := hk.le
      have ht : jobs.take (i + 1) = jobs.take i ++ [j] := by rw [List.take_add_one, hji]; rfl
      have hld0 : loadA Try.prog g2 3 ⟨B, 0⟩ = some (.int .i64 j.1) := load_cell a3 hg2 rfl
      have hld1 : loadA Try.prog g2 3 ⟨B, 1⟩ = some (.int .i64 j.2) := load_cell a3 hg2 rfl
      apply WP.region; simp [hl, h7, h9, hl1, hl1', hal, storeR_ptr hst]
      repeat apply WP.seq
      apply WP.region; simp [hl, h9]
      repeat apply WP.seq
      apply WP.cond (by simp [hl]; rfl)
      · intro hc
        have hc : i < 20 := by
          have : (i : Int) < 20 := by simpa using hc
          omega
        have hk3 := hkh2.alloc (.cells [.int .i64 j.1, .int .i64 j.2] .own)
        have hacc3 := hacc2.keep ((Keep.refl (ex := []) hk2.wf).alloc (.cells [.int .i64 j.1, .int .i64 j.2] .own)) (by simp)
        have hg3 := Heap.get_alloc g2 (.cells [.int .i64 j.1, .int .i64 j.2] .own)
        have hbs := build41_1 (h := g2) (k := .i64) (k' := .i64) (x := j.1) (y := j.2)
        generalize g2.alloc (.cells [.int .i64 j.1, .int .i64 j.2] .own) = g3 at hk3 hacc3 hg3 hbs
        have hlen3 := rowsJ_length ((jobs.take i).take 20)
        obtain ⟨v', g4, hap, hacc4, hk4, _⟩ := hacc3.push (P := Try.prog) hk3 (Nat.le_refl _) (by have := hk3.le; omega) u41 s49 (by omega) (slr_one hg3 rfl (c := .exact 1)) (by simp [cellsOk, cellOk]) (fun _ => room49 (by simp [rowsJ_length]; omega))
        have hfin : rowsJ ((jobs.take i).take 20) ++ [[.int .i64 j.1, .int .i64 j.2]] = rowsJ ((jobs.take (i + 1)).take 20) := by
          have h1 : (jobs.take i).take 20 = jobs.take i := List.take_of_length_le (by simp; omega)
          have h2 : (jobs.take (i + 1)).take 20 = jobs.take (i + 1) := List.take_of_length_le (by simp; omega)
          rw [h1, h2, ht, rowsJ_append]; rfl
        rw [hfin] at hacc4
        apply WP.region; simp [hl, fa49, hld0, hld1, build49, hbs, hap]
        apply WP.region; simp [hl, h9, int_wrap (show i < 9223372036854775807 by omega)]
        exact ⟨jobs.length - (i + 1), by omega, h7, h8, hk4, i + 1, by omega, rfl, by simp, hacc4⟩
      · intro hc
        have hc : ¬ i < 20 := by
          have : ¬ (i : Int) < 20 := by simpa using hc
          omega
        have hfin : (jobs.take i).take 20 = (jobs.take (i + 1)).take 20 := by
          rw [List.take_take, List.take_take]; congr 1; omega
        rw [hfin] at hacc2
        apply WP.skip; simp
        apply WP.region; simp [hl, h9, int_wrap (show i < 9223372036854775807 by omega)]
        exact ⟨jobs.length - (i + 1), by omega, h7, h8, hkh2, i + 1, by omega, rfl, by simp, hacc2⟩
    · intro hge
      have hge : ¬ i < jobs.length := by simpa using hge
      apply WP.exit
      simp
      repeat apply WP.seq
      apply WP.region; simp [hl]
      apply WP.ret
      have hi' : jobs.take i = jobs := List.take_of_length_le (by omega)
      rw [hi'] at hacc
      have hsl := hacc.slr
      obtain ⟨l, c, hv⟩ := hsl.slice
      rw [hv] at hsl
      simp [hl, hv, resultsA, resultA, single]
      exact ⟨hsl, hk⟩
  · refine ⟨by simp [hl], by simp [hl], by simp [hl], hk0, 0, by omega, by omega, by simp [hl], by simpa [hl] using hacc0⟩

theorem same_ok (o20 : ∀ a h, ov 20 a h = none) {h : Heap} {u v : AV} {xs ys : List Int} (hx : Sl h u (ints xs)) (hy : Sl h v (ints ys)) (hn : xs.length ≤ 2000000) (he : xs = ys) :
    callT ov Try.prog 20 [u, v] h = some (.ret (.bool true) h) := by
  subst he
  have main : ∃ r g, callT ov Try.prog 20 [u, v] h = some (.ret r g) ∧ r = .bool true ∧ g = h := by
    refine callT_wp (fn := Try.f20) (o20 _ _) (by kernel_rfl) rfl ?_
    have hl : (frameA Try.f20 [u, v]).length = 26 := frameA_length (Nat.le_of_ble_eq_true rfl)
    have h0 : nth (frameA Try.f20 [u, v]) 0 = u := frameA_nth (Nat.le_of_ble_eq_true rfl)
    have h1 : nth (frameA Try.f20 [u, v]) 1 = v := frameA_nth (Nat.le_of_ble_eq_true rfl)
    generalize frameA Try.f20 [u, v] = e at hl h0 h1
    have hlu := hx.len (P := Try.prog) u22
    have hlv := hy.len (P := Try.prog) u22
    rw [ints_length] at hlu hlv
    repeat apply WP.seq
    apply WP.region; simp [hl]
    repeat apply WP.seq
    apply WP.region; simp [hl, h0, h1, hlu, hlv]
    repeat apply WP.seq
    apply WP.cond (t := false) (by simp [hl]) (by simp)
    intro _
    apply WP.skip; simp
    repeat apply WP.seq
    apply WP.region; simp [hl]
    repeat apply WP.seq
    apply WP.block
    refine WP.loop (fun k e g' => h = g' ∧ e.length = 26 ∧ nth e 0 = u ∧ nth e 1 = v ∧ ∃ i, i ≤ xs.length ∧ k = xs.length - i ∧ nth e 5 = .int .i64 (i : Nat)) ?_ xs.length _ _ ?_
    · rintro k e _ ⟨rfl, hl, h0, h1, i, hi, rfl, h5⟩
      repeat apply WP.seq
      apply WP.region; simp [hl, h0, h5, hlu]
      repeat apply WP.seq
      apply WP.cond (by simp [hl]; rfl)
      · intro hlt1
        have hlt1 : i < xs.length := by simpa using hlt1
        apply WP.skip; simp
        repeat apply WP.seq
        apply WP.block
        repeat apply WP.seq
        have hji : xs[i]? = some xs[i] := List.getElem?_eq_getElem hlt1
        obtain ⟨l1, hl1, hl1', _⟩ := hx.at (P := Try.prog) u22 s3 a3 (ints_get hji) (k := .i64)
        obtain ⟨l2, hl2, hl2', _⟩ := hy.at (P := Try.prog) u22 s3 a3 (ints_get hji) (k := .i64)
        apply WP.draw (by kernel_rfl) (by kernel_rfl)
        simp [hl, h0, h1, h5, hl1, hl1', hl2, hl2']
        repeat apply WP.seq
        apply WP.cond (t := false) (by simp [hl]) (by simp)
        intro _
        apply WP.skip; simp
        apply WP.region; simp [hl, h5, int_wrap (show i < 9223372036854775807 by omega)]
        exact ⟨xs.length - (i + 1), by omega, h0, h1, i + 1, by omega, rfl, by simp⟩
      · intro hge
        apply WP.exit
        simp
        repeat apply WP.seq
        apply WP.region; simp [hl]
        apply WP.ret
        simp [hl, resultsA, resultA, single]
    · exact ⟨rfl, by simp [hl], by simp [hl, h0], by simp [hl, h1], 0, by omega, by omega, by simp [hl]⟩
  obtain ⟨_, _, h1, rfl, rfl⟩ := main
  exact h1

theorem newLog_ok (o21 : ∀ a h, ov 21 a h = none) {h : Heap} (hw : Wf h) :
    ∃ L h', callT ov Try.prog 21 [] h = some (.ret (.ptr (some ⟨L, 0⟩)) h') ∧ h'.get L = some (.cells [.slice none 0 (.exact 0), .int .i64 0] .own) ∧ Keep [] h h' ∧ h.next ≤ L ∧ L < h'.next := by
  have main : ∃ r g, callT ov Try.prog 21 [] h = some (.ret r g) ∧ r = .ptr (some ⟨h.next, 0⟩) ∧ g = h.alloc (.cells [.slice none 0 (.exact 0), .int .i64 0] .own) := by
    refine callT_wp (fn := Try.f21) (o21 _ _) (by kernel_rfl) rfl ?_
    have hl : (frameA Try.f21 []).length = 3 := frameA_length (Nat.le_of_ble_eq_true rfl)
    generalize frameA Try.f21 [] = e at hl
    have hbx := box_agg (h := h) (vs := [.slice none 0 (.exact 0), .int .i64 0]) rfl
    repeat apply WP.seq
    apply WP.region; simp [hl]
    repeat apply WP.seq
    apply WP.region; simp [hl, build68, hbx]
    apply WP.ret
    simp [hl, resultsA, resultA, single]
  obtain ⟨_, _, h1, rfl, rfl⟩ := main
  have hk := (Keep.refl (ex := []) hw).alloc (.cells [.slice none 0 (.exact 0), .int .i64 0] .own)
  exact ⟨_, _, h1, Heap.get_alloc _ _, hk, Nat.le_refl _, hk.wf _ _ (Heap.get_alloc _ _)⟩

/-- A copy that is the caller's own, or nothing. -/
theorem clone_own (hov : ∀ a h, ov 25 a h = none) {h : Heap} (hw : Wf h) {v : AV} {xs : List Int} (hs : Sl h v (ints xs)) (hn : xs.length ≤ 1000000000) :
    ∃ v' h', callT ov Try.prog 25 [v] h = some (.ret v' h') ∧ Sl h' v' (ints xs) ∧ (∃ l c, v' = .slice l xs.length c) ∧ (xs ≠ [] → ∃ i, Own h' v' i (ints xs) ∧ h.next ≤ i) ∧ Keep [] h h' := by
  refine callT_wp (fn := Try.f25) (hov _ _) (by kernel_rfl) rfl ?_
  have hl : (frameA Try.f25 [v]).length = 8 := frameA_length (Nat.le_of_ble_eq_true rfl)
  have h0 : nth (frameA Try.f25 [v]) 0 = v := frameA_nth (Nat.le_of_ble_eq_true rfl)
  generalize frameA Try.f25 [v] = e at hl h0
  obtain ⟨l, c, rfl⟩ := hs.slice
  apply WP.seq; apply WP.region; simp [hl, h0]
  apply WP.seq; apply WP.seq; apply WP.region; simp [hl, h0, bin_slnil u22]
  apply WP.cond (t := l.isNone) (by simp [hl])
  · intro hn
    obtain rfl : l = none := by simpa using hn
    obtain ⟨h1, h2⟩ := hs
    have hx : xs = [] := List.length_eq_zero_iff.1 (by simpa using h1)
    subst hx
    apply WP.seq; apply WP.region; simp [hl, h0]
    apply WP.ret
    simp [hl, h0, resultsA, resultA, single, Sl, idOf, Keep.refl hw, ints]
  · intro _
    apply WP.skip; simp
    obtain ⟨v', h', i, hap, hown, hi, hk⟩ := hs.clone hw u22 s3 (fun _ => room3 (by simpa using hn)) ints_ok
    have hsl := hown.sl
    have hown' := hown
    obtain ⟨c', ⟨rfl, _⟩, hg⟩ := hown
    simp at hap
    apply WP.seq; apply WP.region; simp [hl, h0, build22, hap]
    apply WP.ret
    simp [hl, resultsA, resultA, single, hk]
    rw [ints_length] at hsl hown'
    exact ⟨hsl, fun _ => ⟨i, hown', hi⟩⟩

theorem logDone_ok (o22 : ∀ a h, ov 22 a h = none) (o25 : ∀ a h, ov 25 a h = none) {h : Heap} (hw : Wf h) {L : Nat} {dv n : AV} {xs : List Int} (hg : h.get L = some (.cells [dv, n] .own)) (hs : Sl h dv (ints xs)) (hn : xs.length ≤ 1000000000) :
    ∃ v' h', callT ov Try.prog 22 [.ptr (some ⟨L, 0⟩)] h = some (.ret v' h') ∧ Sl h' v' (ints xs) ∧ (∃ l c, v' = .slice l xs.length c) ∧ (xs ≠ [] → ∃ i, Own h' v' i (ints xs) ∧ h.next ≤ i) ∧ Keep [] h h' := by
  obtain ⟨v', h', hc, hsl, ⟨l, c, rfl⟩, hown, hk⟩ := clone_own o25 hw hs hn
  have main : ∃ r g, callT ov Try.prog 22 [.ptr (some ⟨L, 0⟩)] h = some (.ret r g) ∧ r = .slice l xs.length c ∧ g = h' := by
    refine callT_wp (fn := Try.f22) (o22 _ _) (by kernel_rfl) rfl ?_
    have hl : (frameA Try.f22 [.ptr (some ⟨L, 0⟩)]).length = 8 := frameA_length (Nat.le_of_ble_eq_true rfl)
    have h0 : nth (frameA Try.f22 [.ptr (some ⟨L, 0⟩)]) 0 = .ptr (some ⟨L, 0⟩) := frameA_nth (Nat.le_of_ble_eq_true rfl)
    generalize frameA Try.f22 [.ptr (some ⟨L, 0⟩)] = e at hl h0
    have hca25 : ∀ args h, callA (callT ov Try.prog) Try.prog h 25 args = callT ov Try.prog 25 args h := fun args h => callA_of (fn := Try.f25) (by kernel_rfl) rfl
    have hld : loadA Try.prog h 22 ⟨L, 0⟩ = some dv := load_cell a22 hg rfl
    repeat apply WP.seq
    apply WP.region; simp [hl]
    repeat apply WP.seq
    apply WP.region; simp [hl, h0, fa68, hld, hca25, hc]
    apply WP.ret
    simp [hl, resultsA, resultA, single]
  obtain ⟨_, _, h1, rfl, rfl⟩ := main
  exact ⟨_, _, h1, hsl, ⟨l, c, rfl⟩, hown, hk⟩

theorem add_ok (o23 : ∀ a h, ov 23 a h = none) {h : Heap} (hw : Wf h) {L : Nat} {dv : AV} {n : Nat} (hg : h.get L = some (.cells [dv, .int .i64 (n : Int)] .own)) (hn : n ≤ 1000000000) (x y : Int) :
    ∃ W h', callT ov Try.prog 23 [.ptr (some ⟨L, 0⟩), .agg [.int .i64 x, .int .i64 y]] h = some (.ret (.iface 69 (.ptr (some ⟨W, 0⟩))) h') ∧ h'.get L = some (.cells [dv, .int .i64 ((n + 1 : Nat) : Int)] .own) ∧
      h'.get W = some (.cells [.ptr (some ⟨L, 0⟩), .int .i64 x, .int .i64 y, .int .i64 (n : Int), .int .i64 0] .own) ∧ Keep [L] h h' ∧ h.next ≤ W ∧ W < h'.next := by
  have hlt := hw _ _ hg
  have hbx := box_agg (h := h) (vs := [.int .i64 x, .int .i64 y]) rfl
  have hk1 := (Keep.refl (ex := [L]) hw).alloc (.cells [.int .i64 x, .int .i64 y] .own)
  have hg1 := Heap.get_alloc h (.cells [.int .i64 x, .int .i64 y] .own)
  have hgL1 := ((Keep.refl (ex := []) hw).alloc (.cells [.int .i64 x, .int .i64 y] .own)).get _ _ hg (by simp)
  generalize h.alloc (.cells [.int .i64 x, .int .i64 y] .own) = g1 at hbx hk1 hg1 hgL1
  have hst : storeA Try.prog g1 3 ⟨L, 1⟩ (.int .i64 ((n + 1 : Nat) : Int)) = some (g1.set L (.cells [dv, .int .i64 ((n + 1 : Nat) : Int)] .own)) := store_cell s3 rfl rfl hgL1 (by simp) (by simp)
  have hk1l := hk1.le
  have hk2 := hk1.set (.cells [dv, .int .i64 ((n + 1 : Nat) : Int)] .own) (by omega) (.inl (List.mem_singleton.2 rfl))
  have hg2 := Heap.get_set g1 L (.cells [dv, .int .i64 ((n + 1 : Nat) : Int)] .own)
  have hgB := (Keep.refl (ex := [L]) hk1.wf).set (.cells [dv, .int .i64 ((n + 1 : Nat) : Int)] .own) (by omega) (.inl (List.mem_singleton.2 rfl)) |>.get _ _ hg1 (by simp; omega)
  generalize g1.set L (.cells [dv, .int .i64 ((n + 1 : Nat) : Int)] .own) = g2 at hst hk2 hg2 hgB
  have hbx2 := box_agg (h := g2) (vs := [.ptr (some ⟨L, 0⟩), .int .i64 x, .int .i64 y, .int .i64 (n : Int), .int .i64 0]) rfl
  have hk3 := hk2.alloc (.cells [.ptr (some ⟨L, 0⟩), .int .i64 x, .int .i64 y, .int .i64 (n : Int), .int .i64 0] .own)
  have hg3 := Heap.get_alloc g2 (.cells [.ptr (some ⟨L, 0⟩), .int .i64 x, .int .i64 y, .int .i64 (n : Int), .int .i64 0] .own)
  have hgL3 := ((Keep.refl (ex := []) hk2.wf).alloc (.cells [.ptr (some ⟨L, 0⟩), .int .i64 x, .int .i64 y, .int .i64 (n : Int), .int .i64 0] .own)).get _ _ hg2 (by simp)
  generalize g2.alloc (.cells [.ptr (some ⟨L, 0⟩), .int .i64 x, .int .i64 y, .int .i64 (n : Int), .int .i64 0] .own) = g3 at hbx2 hk3 hg3 hgL3
  have hl1 : loadA Try.prog g1 3 ⟨L, 1⟩ = some (.int .i64 (n : Int)) := load_cell a3 hgL1 rfl
  have hl2 : loadA Try.prog g2 3 ⟨L, 1⟩ = some (.int .i64 ((n + 1 : Nat) : Int)) := load_cell a3 hg2 rfl
  have hlB := load_whole (P := Try.prog) a49 s49 hgB rfl
  have hk2l := hk2.le
  have main : ∃ r g, callT ov Try.prog 23 [.ptr (some ⟨L, 0⟩), .agg [.int .i64 x, .int .i64 y]] h = some (.ret r g) ∧ r = .iface 69 (.ptr (some ⟨g2.next, 0⟩)) ∧ g = g3 := by
    refine callT_wp (fn := Try.f23) (o23 _ _) (by kernel_rfl) rfl ?_
    have hl : (frameA Try.f23 [.ptr (some ⟨L, 0⟩), .agg [.int .i64 x, .int .i64 y]]).length = 22 := frameA_length (Nat.le_of_ble_eq_true rfl)
    have h0 : nth (frameA Try.f23 [.ptr (some ⟨L, 0⟩), .agg [.int .i64 x, .int .i64 y]]) 0 = .ptr (some ⟨L, 0⟩) := frameA_nth (Nat.le_of_ble_eq_true rfl)
    have h1 : nth (frameA Try.f23 [.ptr (some ⟨L, 0⟩), .agg [.int .i64 x, .int .i64 y]]) 1 = .agg [.int .i64 x, .int .i64 y] := frameA_nth (Nat.le_of_ble_eq_true rfl)
    generalize frameA Try.f23 [.ptr (some ⟨L, 0⟩), .agg [.int .i64 x, .int .i64 y]] = e at hl h0 h1
    repeat apply WP.seq
    apply WP.region; simp [hl, h1, hbx]
    repeat apply WP.seq
    have hst' : storeA Try.prog g1 3 ⟨L, 1⟩ (.int .i64 ((n : Int) + 1)) = some g2 := hst
    apply WP.region; simp [hl, h0, fa68, hl1, wrap_small (show -9223372036854775808 ≤ (n : Int) + 1 by omega) (by omega), storeR_ptr hst']
    repeat apply WP.seq
    have hl2' : loadA Try.prog g2 3 ⟨L, 1⟩ = some (.int .i64 ((n : Int) + 1)) := hl2
    apply WP.draw (by kernel_rfl) (by kernel_rfl)
    simp [hl, h0, fa68, hlB, hl2', wrap_small (show -9223372036854775808 ≤ (n : Int) by omega) (by omega), build71, hbx2, mk69]
    apply WP.ret
    simp [hl, resultsA, resultA, single]
  obtain ⟨_, _, h1, rfl, rfl⟩ := main
  exact ⟨_, _, h1, hgL3, hg3, hk3, by omega, hk3.wf _ _ hg3⟩

/-- Whether a worker is ready. -/
theorem ready_ok (o46 : ∀ a h, ov 46 a h = none) {h : Heap} {W L : Nat} {x y i c : Int} {dv n : AV} {xs : List Int} (hg : h.get W = some (.cells [.ptr (some ⟨L, 0⟩), .int .i64 x, .int .i64 y, .int .i64 i, .int .i64 c] .own)) (hL : h.get L = some (.cells [dv, n] .own)) (hs : Sl h dv (ints xs)) :
    callT ov Try.prog 46 [.ptr (some ⟨W, 0⟩)] h = some (.ret (.bool (decide (x ≤ (xs.length : Int)) && decide (c < y))) h) := by
  have main : ∃ r g, callT ov Try.prog 46 [.ptr (some ⟨W, 0⟩)] h = some (.ret r g) ∧ r = .bool (decide (x ≤ (xs.length : Int)) && decide (c < y)) ∧ g = h := by
    refine callT_wp (fn := Try.f46) (o46 _ _) (by kernel_rfl) rfl ?_
    have hl : (frameA Try.f46 [.ptr (some ⟨W, 0⟩)]).length = 29 := frameA_length (Nat.le_of_ble_eq_true rfl)
    have h0 : nth (frameA Try.f46 [.ptr (some ⟨W, 0⟩)]) 0 = .ptr (some ⟨W, 0⟩) := frameA_nth (Nat.le_of_ble_eq_true rfl)
    generalize frameA Try.f46 [.ptr (some ⟨W, 0⟩)] = e at hl h0
    have hl0 : loadA Try.prog h 51 ⟨W, 0⟩ = some (.ptr (some ⟨L, 0⟩)) := load_cell a51 hg rfl
    have hl1 : loadA Try.prog h 3 ⟨W, 1⟩ = some (.int .i64 x) := load_cell a3 hg rfl
    have hl2 : loadA Try.prog h 3 ⟨W, 2⟩ = some (.int .i64 y) := load_cell a3 hg rfl
    have hl4 : loadA Try.prog h 3 ⟨W, 4⟩ = some (.int .i64 c) := load_cell a3 hg rfl
    have hlL : loadA Try.prog h 22 ⟨L, 0⟩ = some dv := load_cell a22 hL rfl
    have hln : lenA Try.prog h 22 dv = some (.int .i64 (xs.length : Nat)) := by simpa using hs.len (P := Try.prog) u22
    repeat apply WP.seq
    apply WP.region; simp [hl]
    repeat apply WP.seq
    apply WP.draw (by kernel_rfl) (by kernel_rfl)
    by_cases hx : x ≤ (xs.length : Int)
    · simp [hl, h0, fa71, fa49, fa68, hl0, hl1, hl2, hl4, hlL, hln, guardA, hx]
      apply WP.ret
      simp [hl, resultsA, resultA, single]
    · simp [hl, h0, fa71, fa49, fa68, hl0, hl1, hl2, hl4, hlL, hln, guardA, hx]
      apply WP.ret
      simp [hl, resultsA, resultA, single]
  obtain ⟨_, _, h1, rfl, rfl⟩ := main
  exact h1

/-- A worker's step: the log grows. -/
theorem step_ok (o47 : ∀ a h, ov 47 a h = none) {h : Heap} (hw : Wf h) {n0 W L : Nat} (hWL : W ≠ L) {x y i c : Int} {dv n : AV} {xs : List Int} (hg : h.get W = some (.cells [.ptr (some ⟨L, 0⟩), .int .i64 x, .int .i64 y, .int .i64 i, .int .i64 c] .own)) (hL : h.get L = some (.cells [dv, n] .own)) (ha : Acc n0 h dv (ints xs))
    (hn0 : n0 ≤ h.next) (hW0 : W < n0) (hL0 : L < n0) (hn : xs.length ≤ 10000000) (hc : 0 ≤ c ∧ c ≤ 1000000000) :
    ∃ dv' h', callT ov Try.prog 47 [.ptr (some ⟨W, 0⟩)] h = some (.ret (.tuple []) h') ∧ h'.get W = some (.cells [.ptr (some ⟨L, 0⟩), .int .i64 x, .int .i64 y, .int .i64 i, .int .i64 (c + 1)] .own) ∧ h'.get L = some (.cells [dv', n] .own) ∧ Acc n0 h' dv' (ints (xs ++ [i])) ∧
      Keep (L :: W :: (idOf dv).toList) h h' ∧ (∀ j, idOf dv' = some j → h.next ≤ j) := by
  have hWn := hw _ _ hg
  have hLn := hw _ _ hL
  have hst1 : storeA Try.prog h 3 ⟨W, 4⟩ (.int .i64 (c + 1)) = some (h.set W (.cells [.ptr (some ⟨L, 0⟩), .int .i64 x, .int .i64 y, .int .i64 i, .int .i64 (c + 1)] .own)) := store_cell s3 rfl rfl hg (by simp) (by simp)
  have hl4 : loadA Try.prog h 3 ⟨W, 4⟩ = some (.int .i64 c) := load_cell a3 hg rfl
  have hk1 := (Keep.refl (ex := [W]) hw).set (.cells [.ptr (some ⟨L, 0⟩), .int .i64 x, .int .i64 y, .int .i64 i, .int .i64 (c + 1)] .own) hWn (.inl (List.mem_singleton.2 rfl))
  have hg1 := Heap.get_set h W (.cells [.ptr (some ⟨L, 0⟩), .int .i64 x, .int .i64 y, .int .i64 i, .int .i64 (c + 1)] .own)
  generalize h.set W (.cells [.ptr (some ⟨L, 0⟩), .int .i64 x, .int .i64 y, .int .i64 i, .int .i64 (c + 1)] .own) = g1 at hst1 hk1 hg1
  have hL1 := hk1.get _ _ hL (by simp; omega)
  have ha1 := ha.keep hk1 (by simp; omega)
  have hk1l := hk1.le
  -- the appended one
  have hbs := build22_i (h := g1) (k := .i64) (n := i)
  have hk2 := (Keep.refl (ex := []) hk1.wf).alloc (.cells [.int .i64 i] .own)
  have hg2 := Heap.get_alloc g1 (.cells [.int .i64 i] .own)
  generalize g1.alloc (.cells [.int .i64 i] .own) = g2 at hbs hk2 hg2
  have hW2 := hk2.get _ _ hg1 (by simp)
  have hL2 := hk2.get _ _ hL1 (by simp)
  have ha2 := ha1.keep hk2 (by simp)
  have hk2l := hk2.le
  have hsl : Sl g2 (.slice (some ⟨g1.next, 0⟩) 1 (.exact 1)) [.int .i64 i] := ⟨⟨rfl, by simp [capOk]⟩, .inr ⟨_, .own, hg2, by simp, rfl⟩⟩
  have hdn : ∀ j, j ∈ (idOf dv).toList → n0 ≤ j := fun j hj => ha.id (by simpa using hj)
  obtain ⟨dv', g3, hap, ha3, hk3, hid3⟩ := ha2.pushX (P := Try.prog) (ex := (idOf dv).toList) hk2.wf (by simp) (by omega) u22 s3 (room3 (by simp; omega)) hsl rfl
  have hW3 := hk3.get _ _ hW2 (fun hm => by have := hdn _ hm; omega)
  have hL3 := hk3.get _ _ hL2 (fun hm => by have := hdn _ hm; omega)
  have hk3l := hk3.le
  have ha3s := ha3.sl
  have hdok := sl_cellOk ha3s
  obtain ⟨dl, dc, hdvs⟩ := ha3s.slice
  have hst4 : storeA Try.prog g3 22 ⟨L, 0⟩ dv' = some (g3.set L (.cells [dv', n] .own)) := store_cell s22 (by rw [hdvs]; rfl) hdok hL3 (by simp) (by simp)
  have hk4 := (Keep.refl (ex := [L]) hk3.wf).set (.cells [dv', n] .own) (hk3.wf _ _ hL3) (.inl (List.mem_singleton.2 rfl))
  have hg4 := Heap.get_set g3 L (.cells [dv', n] .own)
  generalize g3.set L (.cells [dv', n] .own) = g4 at hst4 hk4 hg4
  have hW4 := hk4.get _ _ hW3 (by simp; omega)
  have ha4 := ha3.keep hk4 (by simp; omega)
  have hk := (hk1.more (ex' := L :: W :: (idOf dv).toList) (by simp)).trans ((hk2.more (by simp)).trans ((hk3.more (fun j hj => .inl (List.mem_cons_of_mem _ (List.mem_cons_of_mem _ hj)))).trans (hk4.more (by simp))))
  have hints : ints xs ++ [.int .i64 i] = ints (xs ++ [i]) := by simp [ints]
  rw [hints] at ha4
  refine ⟨dv', g4, ?_, hW4, hg4, ha4, hk, fun j hj => by have := hid3 j hj; omega⟩
  have main : ∃ r g, callT ov Try.prog 47 [.ptr (some ⟨W, 0⟩)] h = some (.ret r g) ∧ r = .tuple [] ∧ g = g4 := by
    refine callT_wp (fn := Try.f47) (o47 _ _) (by kernel_rfl) rfl ?_
    have hl : (frameA Try.f47 [.ptr (some ⟨W, 0⟩)]).length = 28 := frameA_length (Nat.le_of_ble_eq_true rfl)
    have h0 : nth (frameA Try.f47 [.ptr (some ⟨W, 0⟩)]) 0 = .ptr (some ⟨W, 0⟩) := frameA_nth (Nat.le_of_ble_eq_true rfl)
    generalize frameA Try.f47 [.ptr (some ⟨W, 0⟩)] = e at hl h0
    have hlW1 : loadA Try.prog g1 51 ⟨W, 0⟩ = some (.ptr (some ⟨L, 0⟩)) := load_cell a51 hg1 rfl
    have hlW2 : loadA Try.prog g2 51 ⟨W, 0⟩ = some (.ptr (some ⟨L, 0⟩)) := load_cell a51 hW2 rfl
    have hlW3 : loadA Try.prog g3 51 ⟨W, 0⟩ = some (.ptr (some ⟨L, 0⟩)) := load_cell a51 hW3 rfl
    have hlL1 : loadA Try.prog g1 22 ⟨L, 0⟩ = some dv := load_cell a22 hL1 rfl
    have hlL2 : loadA Try.prog g2 22 ⟨L, 0⟩ = some dv := load_cell a22 hL2 rfl
    have hli1 : loadA Try.prog g1 3 ⟨W, 3⟩ = some (.int .i64 i) := load_cell a3 hg1 rfl
    have hli2 : loadA Try.prog g2 3 ⟨W, 3⟩ = some (.int .i64 i) := load_cell a3 hW2 rfl
    repeat apply WP.seq
    apply WP.region; simp [hl, h0, fa71, hl4, wrap_small (show -9223372036854775808 ≤ c + 1 by omega) (by omega), storeR_ptr hst1]
    refine WP.drawDyn (by kernel_rfl) (dynOk_tw (pl := [(3, 15), (3, 16), (3, 19), (7, 15), (7, 16), (10, 15), (10, 16), (14, 15)]) (by kernel_rfl) ?_) ?_
    · simp [hl, h0, fa71, fa68, hlW1, hlW2, hlW3, hlL1, hlL2, hli1, hli2, hbs, hap, storeR_ptr hst4, loadSame]
    · simp [hl, h0, fa71, fa68, hlW1, hlW2, hlW3, hlL1, hlL2, hli1, hli2, hbs, hap, storeR_ptr hst4, resultsA, single]
  obtain ⟨_, _, h1, rfl, rfl⟩ := main
  exact h1
end
end Go.Am

set_option linter.unusedSimpArgs false
namespace Go.Am
open Go.RowKit Go.Proofs

theorem Acc.lt {n0 : Nat} {h : Heap} (hw : Wf h) {v : AV} {xs : List AV} (ha : Acc n0 h v xs) {i : Nat} (hi : idOf v = some i) : i < h.next := by
  rcases ha with ⟨_, l, rfl, hl⟩ | ⟨j, _, _, rfl, hg⟩
  · cases l with
    | none => cases hi
    | some x =>
      cases hi
      obtain ⟨_, _, cs, hg⟩ := hl x rfl
      exact hw _ _ hg
  · cases hi; exact hw _ _ hg
theorem Acc.keep2 {n0 : Nat} {ex : List Nat} {h0 h : Heap} (hk : Keep ex h0 h) {v : AV} {xs : List AV} (hs : Acc n0 h0 v xs) (hx : ∀ i, idOf v = some i → i ∉ ex) : Acc n0 h v xs := by
  rcases hs with ⟨h1, l, h2, h3⟩ | ⟨j, h1, h2, h3, hg⟩
  · refine .inl ⟨h1, l, h2, fun x hx' => ?_⟩
    obtain ⟨h4, h5, cs, h6⟩ := h3 x hx'
    exact ⟨h4, h5, cs, hk.get _ _ h6 (hx _ (by rw [h2, hx']; rfl))⟩
  · exact .inr ⟨j, h1, h2, h3, hk.get _ _ hg (hx _ (by rw [h3]; rfl))⟩
theorem readyAt_eq {jobs : List (Int × Int)} {s : PS} {i : Nat} {j : Int × Int} (h : jobs[i]? = some j) : readyAt jobs s i = (decide (j.1 ≤ (s.out.length : Int)) && decide (at0 s.cnt i < j.2)) := by
  simp [readyAt, List.getD_eq_getElem?_getD, h]
theorem at0_nonneg {xs : List Int} {M : Int} (h : ∀ a ∈ xs, 0 ≤ a ∧ a ≤ M) (hM : 0 ≤ M) (i : Nat) : 0 ≤ at0 xs i ∧ at0 xs i ≤ M := at0_le hM h i
theorem set_le {xs : List Int} {M : Int} (h : ∀ a ∈ xs, 0 ≤ a ∧ a ≤ M) {i : Nat} {x : Int} (hx : 0 ≤ x ∧ x ≤ M + 1) : ∀ a ∈ xs.set i x, 0 ≤ a ∧ a ≤ M + 1 := by
  intro a ha
  rcases List.mem_or_eq_of_mem_set ha with h1 | h1
  · have := h a h1; omega
  · omega
theorem bools_append (a b : List Bool) : bools (a ++ b) = bools a ++ bools b := by simp [bools]

section
variable {ov : CallF}

set_option maxHeartbeats 4000000 in
theorem refPlay_ok (o12 : ∀ a h, ov 12 a h = none) (o13 : ∀ a h, ov 13 a h = none) (o18 : ∀ a h, ov 18 a h = none) (o26 : ∀ a h, ov 26 a h = none) {h : Heap} (hw : Wf h) {jv pv : AV} {jobs : List (Int × Int)} (hj : Slr h 2 jv (rowsJ jobs)) (hjn : jobs.length ≤ 1000000)
    {picks : List Int} (hp : Sl h pv (ints picks)) (b steps : Int) (hst : steps ≤ 1000000) :
    ∃ v' h', callT ov Try.prog 18 [jv, pv, .int .i64 b, .int .i64 steps] h = some (.ret v' h') ∧ Sl h' v' (ints (playOut jobs picks b steps)) ∧ (∃ l c, v' = .slice l (playOut jobs picks b steps).length c) ∧ Keep [] h h' := by
  have main : ∃ u h', callT ov Try.prog 18 [jv, pv, .int .i64 b, .int .i64 steps] h = some (.ret u h') ∧ Sl h' u (ints (playOut jobs picks b steps)) ∧ Keep [] h h' := by
    refine callT_wp (fn := Try.f18) (o18 _ _) (by kernel_rfl) rfl ?_
    have hl : (frameA Try.f18 [jv, pv, .int .i64 b, .int .i64 steps]).length = 73 := frameA_length (Nat.le_of_ble_eq_true rfl)
    have h0 : nth (frameA Try.f18 [jv, pv, .int .i64 b, .int .i64 steps]) 0 = jv := frameA_nth (Nat.le_of_ble_eq_true rfl)
    have h1 : nth (frameA Try.f18 [jv, pv, .int .i64 b, .int .i64 steps]) 1 = pv := frameA_nth (Nat.le_of_ble_eq_true rfl)
    have h2 : nth (frameA Try.f18 [jv, pv, .int .i64 b, .int .i64 steps]) 2 = .int .i64 b := frameA_nth (Nat.le_of_ble_eq_true rfl)
    have h3 : nth (frameA Try.f18 [jv, pv, .int .i64 b, .int .i64 steps]) 3 = .int .i64 steps := frameA_nth (Nat.le_of_ble_eq_true rfl)
    generalize frameA Try.f18 [jv, pv, .int .i64 b, .int .i64 steps] = e at hl h0 h1 h2 h3
    have hca12 : ∀ args h, callA (callT ov Try.prog) Try.prog h 12 args = callT ov Try.prog 12 args h := fun args h => callA_of (fn := Try.f12) (by kernel_rfl) rfl
    have hca13 : ∀ args h, callA (callT ov Try.prog) Try.prog h 13 args = callT ov Try.prog 13 args h := fun args h => callA_of (fn := Try.f13) (by kernel_rfl) rfl
    have hlenj : ∀ h, lenA Try.prog h 41 jv = some (.int .i64 (jobs.length : Nat)) := fun h' => by simpa [rowsJ_length] using hj.len (P := Try.prog) h' u41
    unfold playOut
    repeat apply WP.seq
    apply WP.region; simp [hl]
    repeat apply WP.seq
    -- the reference's chooser
    obtain ⟨pl, pc, hpv⟩ := hp.slice
    rw [ints_length] at hpv
    obtain ⟨g1, href, hk1⟩ := refNew_ok o12 hw (l := pl) (n := picks.length) (c := pc) b
    rw [← hpv] at href
    have hal2 := alloc29 (h := g1)
    have hk2 := (Keep.refl (ex := []) hk1.wf).alloc (.cells [.slice none 0 (.exact 0), .int .i64 0, .slice none 0 (.exact 0)] .own)
    have hg2 := Heap.get_alloc g1 (.cells [.slice none 0 (.exact 0), .int .i64 0, .slice none 0 (.exact 0)] .own)
    generalize g1.alloc (.cells [.slice none 0 (.exact 0), .int .i64 0, .slice none 0 (.exact 0)] .own) = g2 at hal2 hk2 hg2
    have hk1l := hk1.le
    have hM1 : h.next ≤ g1.next := by omega
    have hMk : g1.next ≤ g1.next := Nat.le_refl _
    generalize hMd : g1.next = M at hal2 hg2 hM1 hMk
    have hst2 := store_whole (P := Try.prog) s29 hg2 rfl (ds := [pv, .int .i64 (max b 1), .slice none 0 (.exact 0)]) rfl (by rw [hpv]; rfl)
    have hMn : M < g2.next := hk2.wf _ _ hg2
    have hg3 := Heap.get_set g2 M (.cells [pv, .int .i64 (max b 1), .slice none 0 (.exact 0)] .own)
    have hk3 := hk2.set (.cells [pv, .int .i64 (max b 1), .slice none 0 (.exact 0)] .own) hMn (.inr (by omega))
    generalize g2.set M (.cells [pv, .int .i64 (max b 1), .slice none 0 (.exact 0)] .own) = g3 at hst2 hg3 hk3
    have hkh3 := hk1.trans hk3
    have hM3 : M < g3.next := hk3.wf _ _ hg3
    generalize max b 1 = bb at *
    apply WP.region; simp [hl, h1, h2, hca12, href, hal2, storeR_ptr hst2]
    repeat apply WP.seq
    -- the steps
    have hbs := build22 (h := g3)
    have hk4 := (Keep.refl (ex := []) hk3.wf).alloc (.cells [] .own)
    have hg4 := Heap.get_alloc g3 (.cells [] .own)
    generalize g3.alloc (.cells [] .own) = g4 at hbs hk4 hg4
    have hO4 := hk4.wf _ _ hg4
    have hO3 : M < g3.next := hM3
    have hacc4 : Acc h.next g4 (.slice (some ⟨g3.next, 0⟩) 0 (.exact 0)) [] := Acc.empty (by have := hkh3.le; omega) hg4
    have hidO : ∀ j, idOf (.slice (some ⟨g3.next, 0⟩) 0 (.exact 0)) = some j → j = g3.next := by intro j hj; cases hj; rfl
    generalize AV.slice (some ⟨g3.next, 0⟩) 0 (.exact 0) = ov0 at hbs hacc4 hidO
    apply WP.region; simp [hl, hbs]
    repeat apply WP.seq
    -- what is done
    have hmk : makeSliceA Try.prog g4 22 (.int .i64 (jobs.length : Nat)) (.int .i64 (jobs.length : Nat)) = _ := make22 (by omega)
    have hk5 := (Keep.refl (ex := []) hk4.wf).alloc (.cells (List.replicate jobs.length (.int .i64 0)) .own)
    have hg5 := Heap.get_alloc g4 (.cells (List.replicate jobs.length (.int .i64 0)) .own)
    generalize g4.alloc (.cells (List.replicate jobs.length (.int .i64 0)) .own) = g5 at hmk hk5 hg5
    have hK5 := hk5.wf _ _ hg5
    have hown5 : Own g5 (.slice (some ⟨g4.next, 0⟩) jobs.length (.exact jobs.length)) g4.next (ints (List.replicate jobs.length 0)) := ⟨.exact jobs.length, ⟨by simp, by simp [capOk]⟩, by rw [hg5]; simp [ints]⟩
    have hKn : g3.next < g4.next := hO4
    generalize AV.slice (some ⟨g4.next, 0⟩) jobs.length (.exact jobs.length) = kv at hmk hown5
    generalize g4.next = K at hmk hg5 hK5 hown5 hKn
    apply WP.region; simp [hl, h0, hlenj, hmk]
    repeat apply WP.seq
    have hacc5 := hacc4.keep hk5 (by simp)
    have hkh5 : Keep [] h g5 := hkh3.trans (hk4.trans hk5)
    have hgM5 := hk5.get _ _ (hk4.get _ _ hg3 (by simp)) (by simp)
    have hp5 := hp.keep hkh5 (by simp)
    have hidw : picks ≠ [] → ∀ j, idOf pv = some j → j < h.next := fun hne j hj => hp.lt hw (by simpa [ints] using hne) hj
    have hOMK : ∀ j, idOf ov0 = some j → j ≠ M ∧ j ≠ K := fun j hj => by have := hidO j hj; omega
    have hMK : M ≠ K ∧ M < g5.next ∧ K < g5.next ∧ h.next ≤ M ∧ h.next ≤ K := by have := hk5.le; have := hkh3.le; omega
    clear hk1 hk2 hk3 hk4 hk5 hkh3 hg2 hg3 hg4 hg5 href hal2 hst2 hbs hmk hacc4 hMd hk1l hM1 hMk hMn hM3 hO4 hO3 hK5 hKn hidO
    generalize hF : (playN jobs bb steps.toNat (startP jobs picks)).out = F
    have hwf5 := hkh5.wf
    have hle5 := hkh5.le
    apply WP.block
    refine WP.loop (fun k e g' => e.length = 73 ∧ nth e 0 = jv ∧ nth e 3 = .int .i64 steps ∧ nth e 9 = .ptr (some ⟨M, 0⟩) ∧ nth e 11 = kv ∧ g5.next ≤ g'.next ∧ Keep [] h g' ∧ ∃ (s : PS) (pv cv2 outv : AV) (cs : List (AV × List Bool × Int)), k = steps.toNat - s.out.length ∧ nth e 10 = outv ∧ s.out.length ≤ steps.toNat ∧ (playN jobs bb (steps.toNat - s.out.length) s).out = F ∧
      (∀ a ∈ s.cnt, 0 ≤ a ∧ a ≤ (s.out.length : Int)) ∧ s.cnt.length = jobs.length ∧ cs.length = s.out.length ∧ Own g' kv K (ints s.cnt) ∧ Acc h.next g' outv (ints s.out) ∧ (∀ j, idOf outv = some j → j ≠ M ∧ j ≠ K ∧ idOf cv2 ≠ some j ∧ ∀ x ∈ cs, x.2.1 ≠ [] → idOf x.1 ≠ some j) ∧
      g'.get M = some (.cells [pv, .int .i64 bb, cv2] .own) ∧ Sl g' pv (ints s.picks) ∧ (s.picks ≠ [] → ∀ j, idOf pv = some j → j < h.next) ∧ CallsAt g' cv2 cs ∧
            (∀ j, idOf cv2 = some j → g5.next ≤ j) ∧ (∀ y ∈ cs, ∀ j, idOf y.1 = some j → g5.next ≤ j) ∧ (∀ i, at0 s.ages i = (ageR (hist cs) i : Int)) ∧ s.last = lastOf cs) ?_ steps.toNat _ _ ?_
    · rintro k e g' ⟨hl, h0, h3, h9, h11, hle', hkh, s, pv, cv2, outv, cs, rfl, h10, hol, hF, hcok, hcl, hcsl, hown, hacc, hsep, hgM, hp, hpid, hca, hcid, hcsid, hA, hlast⟩
      have hlo := hacc.sl.len (P := Try.prog) u22
      rw [ints_length] at hlo
      repeat apply WP.seq
      apply WP.region; simp [hl, h3, h10, hlo]
      repeat apply WP.seq
      apply WP.cond (by simp [hl]; rfl)
      · intro hlt1
        have hlt1 : (s.out.length : Int) < steps := by simpa using hlt1
        apply WP.skip; simp
        repeat apply WP.seq
        apply WP.block
        repeat apply WP.seq
        have hwf' := hkh.wf
        have hbs := build31 (h := g')
        have hk1 := (Keep.refl (ex := []) hwf').alloc (.cells [] .own)
        have hacc1 : Acc g'.next (g'.alloc (.cells [] .own)) (.slice (some ⟨g'.next, 0⟩) 0 (.exact 0)) (bools ((readyP jobs s).take 0)) := Acc.empty (Nat.le_refl _) (Heap.get_alloc _ _)
        generalize g'.alloc (.cells [] .own) = g1 at hbs hk1 hacc1
        apply WP.region; simp [hl, hbs]
        repeat apply WP.seq
        apply WP.region; simp [hl, h0, hlenj]
        repeat apply WP.seq
        apply WP.block
        refine WP.loop (fun k e g2 => e.length = 73 ∧ nth e 0 = jv ∧ nth e 3 = .int .i64 steps ∧ nth e 9 = .ptr (some ⟨M, 0⟩) ∧ nth e 10 = outv ∧ nth e 11 = kv ∧ nth e 28 = jv ∧ nth e 29 = .int .i64 jobs.length ∧ Keep [] g' g2 ∧ ∃ i, i ≤ jobs.length ∧ k = jobs.length - i ∧ nth e 30 = .int .i64 (i : Nat) ∧ Acc g'.next g2 (nth e 12) (bools ((readyP jobs s).take i))) ?_ jobs.length _ _ ?_
        · rintro k e g2 ⟨hl, h0, h3, h9, h10, h11, h28, h29, hk2, i, hi, rfl, h30, hacc2⟩
          repeat apply WP.seq
          apply WP.region; simp [hl, h29, h30]
          repeat apply WP.seq
          apply WP.cond (by simp [hl]; rfl)
          · intro hlt2
            have hlt2 : i < jobs.length := by simpa using hlt2
            apply WP.skip; simp
            repeat apply WP.seq
            apply WP.block
            repeat apply WP.seq
            have hji : jobs[i]? = some jobs[i] := List.getElem?_eq_getElem hlt2
            generalize jobs[i] = j at hji
            obtain ⟨l1, hl1, hl1', _⟩ := (hj.keep' (hkh.trans hk2) (by simp)).at (P := Try.prog) u41 s49 a49 (rowsJ_get hji) (k := .i64)
            obtain ⟨B, ga, g3, hal, hst3, hk3, hg3, hB, hB', _⟩ := fresh49 hk2.wf j.1 j.2
            have hacc3 := hacc2.keep hk3 (by simp)
            have hown3 := (hown.keep hk2 (by simp)).keep hk3 (by simp)
            have hlo3 := ((hacc.sl.keep hk2 (by simp)).keep hk3 (by simp)).len (P := Try.prog) u22
            rw [ints_length] at hlo3
            have hld0 : loadA Try.prog g3 3 ⟨B, 0⟩ = some (.int .i64 j.1) := load_cell a3 hg3 rfl
            have hld1 : loadA Try.prog g3 3 ⟨B, 1⟩ = some (.int .i64 j.2) := load_cell a3 hg3 rfl
            have hci : s.cnt[i]? = some (at0 s.cnt i) := at0_get (by omega)
            have hka := hown3.addr (P := Try.prog) u22 s3 (i := i) (by simp; omega) (k := .i64)
            have hkl := hown3.load (P := Try.prog) a3 (ints_get hci)
            apply WP.region; simp [hl, h28, h30, hl1, hl1', hal, storeR_ptr hst3]
            repeat apply WP.seq
            have htake : (readyP jobs s).take (i + 1) = (readyP jobs s).take i ++ [readyAt jobs s i] := by
              rw [List.take_add_one, readyP_get hlt2]; rfl
            have hrd := readyAt_eq (s := s) hji
            have hlen3 : ((readyP jobs s).take i).length ≤ jobs.length := by simp [readyP_length]; omega
            have hk23 := hk2.trans hk3
            -- append
            have happ : ∀ bb : Bool, bb = readyAt jobs s i → ∃ v' g5, appendA Try.prog (g3.alloc (.cells [.bool bb] .own)) 31 31 (nth e 12) (.slice (some ⟨g3.next, 0⟩) 1 (.exact 1)) = some (v', g5) ∧ Acc g'.next g5 v' (bools ((readyP jobs s).take (i + 1))) ∧ Keep [] g' g5 := by
              intro bb hbb
              have hk4 := (Keep.refl (ex := []) hk3.wf).alloc (.cells [.bool bb] .own)
              have hg4 := Heap.get_alloc g3 (.cells [.bool bb] .own)
              obtain ⟨v', g5, hap, hacc5, hk5, _⟩ := (hacc3.keep hk4 (by simp)).push (P := Try.prog) (hk23.trans hk4) (Nat.le_refl _) (hk23.trans hk4).le u31 s4 (room4 (by rw [bools_length]; omega)) (x := .bool bb) (y := .slice (some ⟨g3.next, 0⟩) 1 (.exact 1)) ⟨⟨rfl, by simp [capOk]⟩, .inr ⟨_, .own, hg4, by simp, rfl⟩⟩ rfl
              refine ⟨v', g5, hap, ?_, hk5⟩
              rw [htake, bools_append, ← hbb]; exact hacc5
            by_cases hc : j.1 ≤ (s.out.length : Int)
            · have hrd' : decide (at0 s.cnt i < j.2) = readyAt jobs s i := by rw [hrd]; simp [hc]
              obtain ⟨v', g5', hap, hacc5, hk5⟩ := happ _ hrd'
              apply WP.draw (by kernel_rfl) (by kernel_rfl)
              simp [hl, h10, h11, h30, hlo3, fa49, hld0, hld1, hka, hkl, hc, guardA, build31_b, hap]
              apply WP.region; simp [hl, h30, int_wrap (show i < 9223372036854775807 by omega)]
              exact ⟨jobs.length - (i + 1), by omega, h0, h3, h9, h10, h11, h28, h29, hk5, i + 1, by omega, rfl, by simp, hacc5⟩
            · have hrd' : false = readyAt jobs s i := by rw [hrd]; simp [hc]
              obtain ⟨v', g5', hap, hacc5, hk5⟩ := happ _ hrd'
              apply WP.draw (by kernel_rfl) (by kernel_rfl)
              simp [hl, h10, h11, h30, hlo3, fa49, hld0, hld1, hka, hkl, hc, guardA, build31_b, hap]
              apply WP.region; simp [hl, h30, int_wrap (show i < 9223372036854775807 by omega)]
              exact ⟨jobs.length - (i + 1), by omega, h0, h3, h9, h10, h11, h28, h29, hk5, i + 1, by omega, rfl, by simp, hacc5⟩
          · intro hge
            have hge : ¬ i < jobs.length := by simpa using hge
            apply WP.exit
            simp
            have hrt : (readyP jobs s).take i = readyP jobs s := List.take_of_length_le (by rw [readyP_length]; omega)
            rw [hrt] at hacc2
            -- the choice
            have hp2 := hp.keep hk2 (by simp)
            have hca2 : CallsAt g2 cv2 cs := hca.keep' hk2 (by simp) (by simp)
            have hgM2 := hk2.get _ _ hgM (by simp)
            have hown2 := hown.keep hk2 (by simp)
            have haccO := hacc.keep2 hk2 (by simp)
            have hld2 := load_whole (P := Try.prog) a29 s29 hgM2 rfl
            have hk2l := hk2.le
            have hM2 : M < g'.next := by omega
            obtain ⟨g3, pv3, cv3, rv3, hcall3, hk3, hp3, hca3, hpid3, hcid3, hrid3⟩ := refNext_ok o13 o26 hk2.wf hp2 (b := bb) hca2 (by omega) hacc2.sl (by rw [readyP_length]; omega) hA hlast
            have hk3l := hk3.le
            have hgM3 := hk3.get _ _ hgM2 (by simp)
            have hown3 := hown2.keep hk3 (by simp)
            have haccO3 := haccO.keep2 hk3 (by simp)
            have hstep := ages_step (picks := s.picks) (b := bb) (last := s.last) (ready := readyP jobs s) hA rv3
            have hlst := next_last s.picks bb s.ages s.last (readyP jobs s)
            have hpne := fun h => next_picks_ne (picks := s.picks) (b := bb) (ages := s.ages) (last := s.last) (ready := readyP jobs s) h
            have hchl := fun (_ : Unit) h => next_chosen_lt (jobs := jobs) (b := bb) (s := s) h
            have hstop := fun h => playN_stop (jobs := jobs) (b := bb) (s := s) h
            have hpos : 0 < steps.toNat - s.out.length := by omega
            have hgo : ¬ (nextS jobs bb s).chosen < 0 → playN jobs bb (steps.toNat - s.out.length) s = playN jobs bb (steps.toNat - s.out.length - 1) (moved s (nextS jobs bb s)) := fun h => playN_go h hpos
            have hNS : nextS jobs bb s = nextP s.picks bb s.ages s.last (readyP jobs s) := rfl
            rw [← hNS] at hcall3 hp3 hca3 hstep hlst hpne
            generalize nextS jobs bb s = N at hcall3 hp3 hca3 hstep hlst hpne hchl hstop hgo
            have hst4 := store_whole (P := Try.prog) s29 hgM3 rfl (ds := [pv3, .int .i64 bb, cv3]) rfl (by
              have h1 := sl_cellOk hp3
              obtain ⟨l2, c2, h2⟩ := hca3.1.slice
              simp only [cellsOk, h1, h2, Bool.true_and]; rfl)
            have hg4 := Heap.get_set g3 M (.cells [pv3, .int .i64 bb, cv3] .own)
            have hk4 := (Keep.refl (ex := [M]) hk3.wf).set (i := M) (.cells [pv3, .int .i64 bb, cv3] .own) (by omega) (.inl (by simp))
            generalize g3.set M (.cells [pv3, .int .i64 bb, cv3] .own) = g4 at hst4 hg4 hk4
            have hk4l := hk4.le
            have hkh4 : Keep [] h g4 := (((hkh.trans hk2).trans hk3).more (ex' := [M]) (by simp)).trans hk4 |>.more (by simp; omega)
            have hKM : K ∉ [M] := by simp only [List.mem_singleton]; exact fun h => hMK.1 h.symm
            have hown4 := hown3.keep hk4 hKM
            have haccO4 := haccO3.keep2 hk4 (fun j hj => by have := hsep j hj; simp; omega)
            have hOlt := fun j (hj : idOf outv = some j) => hacc.lt hwf' hj
            have hp4 : Sl g4 pv3 (ints N.picks) := hp3.keep' hk4 (fun hne j hj hm => by
              have := hpid (hpne (by simpa [ints] using hne)) j (hpid3 j hj)
              simp only [List.mem_singleton] at hm
              omega)
            have hcid4 : ∀ j, idOf cv3 = some j → g2.next ≤ j := hcid3
            have hcsid4 : ∀ y ∈ cs ++ [(rv3, readyP jobs s, N.chosen)], ∀ j, idOf y.1 = some j → g5.next ≤ j := by
              intro y hy j hj
              rcases List.mem_append.1 hy with hy | hy
              · exact hcsid y hy j hj
              · simp only [List.mem_singleton] at hy
                subst hy
                have := hrid3 j hj
                omega
            have hca4 : CallsAt g4 cv3 (cs ++ [(rv3, readyP jobs s, N.chosen)]) := hca3.keep' hk4 (fun j hj hm => by
                have := hcid3 j hj
                simp only [List.mem_singleton] at hm
                omega) (fun y hy hne j hj hm => by
                have := hcsid4 y hy j hj
                simp only [List.mem_singleton] at hm
                omega)
            have hsep4 : ∀ j, idOf outv = some j → idOf cv3 ≠ some j ∧ ∀ x ∈ cs ++ [(rv3, readyP jobs s, N.chosen)], x.2.1 ≠ [] → idOf x.1 ≠ some j := by
              intro j hj
              have h1 := hOlt j hj
              refine ⟨fun hc => by have := hcid3 j hc; omega, fun x hx hne hc => ?_⟩
              rcases List.mem_append.1 hx with hx | hx
              · exact (hsep j hj).2.2.2 x hx hne hc
              · simp only [List.mem_singleton] at hx
                subst hx
                have := hrid3 j hc
                omega
            have hrs := hacc2.sl
            repeat apply WP.seq
            apply WP.region; simp [hl]
            repeat apply WP.seq
            apply WP.region; simp [hl, h9, hld2, hca13, hcall3, extractA, storeR_ptr hst4]
            repeat apply WP.seq
            apply WP.region; simp [hl]
            repeat apply WP.seq
            apply WP.cond (by simp [hl]; rfl)
            · intro hc
              have hc : N.chosen < 0 := by simpa using hc
              have hF' := hstop hc (steps.toNat - s.out.length)
              rw [hF'] at hF
              subst hF
              obtain ⟨ol, oc, rfl⟩ := haccO4.sl.slice
              repeat apply WP.seq
              apply WP.region; simp [hl, h10]
              apply WP.ret
              simp [hl, resultsA, resultA, single]
              exact ⟨by simpa using haccO4.sl, hkh4⟩
            · intro hc
              have hc : ¬ N.chosen < 0 := by simpa using hc
              obtain ⟨c, hNc, hcj, hrc⟩ := hchl () hc
              have hci : s.cnt[c]? = some (at0 s.cnt c) := at0_get (by omega)
              have hcle := at0_nonneg hcok (by omega) c
              have hF' := hgo hc
              rw [hF'] at hF
              apply WP.skip; simp
              repeat apply WP.seq
              have hka := hown4.addr (P := Try.prog) u22 s3 (i := c) (by simp; omega) (k := .i64)
              have hkl := hown4.load (P := Try.prog) a3 (ints_get hci)
              obtain ⟨hst5, hown5'⟩ := hown4.store (P := Try.prog) s3 (i := c) (by simp; omega) (x := .int .i64 (at0 s.cnt c + 1)) rfl rfl
              rw [ints_set] at hst5 hown5'
              have hK4 := hk4.wf _ _ hown4.choose_spec.2
              have hk5 := (Keep.refl (ex := [K]) hk4.wf).set (i := K) (.cells (ints (s.cnt.set c (at0 s.cnt c + 1))) .own) hK4 (.inl (by simp))
              generalize g4.set K (.cells (ints (s.cnt.set c (at0 s.cnt c + 1))) .own) = g6 at hst5 hown5' hk5
              have hk5l := hk5.le
              -- the step is written down
              have hbs6 := build22_i (h := g6) (k := .i64) (n := N.chosen)
              have hk6 := (Keep.refl (ex := []) hk5.wf).alloc (.cells [.int .i64 N.chosen] .own)
              have hg6 := Heap.get_alloc g6 (.cells [.int .i64 N.chosen] .own)
              generalize g6.alloc (.cells [.int .i64 N.chosen] .own) = g7 at hbs6 hk6 hg6
              have hk6l := hk6.le
              have hk46 : Keep [K] g4 g7 := hk5.trans (hk6.more (by simp))
              have haccO7 := haccO4.keep2 hk46 (fun j hj => by have := hsep j hj; simp; omega)
              obtain ⟨outv', g8, hap, hacc8, hk8, hid8⟩ := haccO7.pushX (P := Try.prog) (ex := (idOf outv).toList) hk6.wf (by simp) (by have := hkh.le; omega) u22 s3 (room3 (by simp; omega)) (x := .int .i64 N.chosen) (y := .slice (some ⟨g6.next, 0⟩) 1 (.exact 1)) ⟨⟨rfl, by simp [capOk]⟩, .inr ⟨_, .own, hg6, by simp, rfl⟩⟩ rfl
              have hk8l := hk8.le
              have hmem : ∀ j, j ∈ (idOf outv).toList → idOf outv = some j := fun j hj => by simpa using hj
              have hk48 : Keep (K :: (idOf outv).toList) g4 g8 := (hk46.more (by simp)).trans (hk8.more (fun j hj => .inl (List.mem_cons_of_mem _ hj)))
              have hdO : ∀ j, idOf outv = some j → h.next ≤ j := fun j hj => hacc.id hj
              have hown8 := (hown5'.keep hk6 (by simp)).keep hk8 (fun hm => (hsep K (hmem K hm)).2.1 rfl)
              have hgM8 := hk48.get _ _ hg4 (fun hm => by
                rcases List.mem_cons.1 hm with h1 | h1
                · exact hMK.1 h1
                · exact (hsep M (hmem M h1)).1 rfl)
              have hkh8 : Keep [] h g8 := ((hkh4.more (ex' := K :: (idOf outv).toList) (by simp)).trans hk48).more (fun j hj => by
                rcases List.mem_cons.1 hj with h1 | h1
                · right; omega
                · right; exact hdO j (hmem j h1))
              have hp8 : Sl g8 pv3 (ints N.picks) := hp4.keep' hk48 (fun hne j hj hm => by
                have h2 := hpid (hpne (by simpa [ints] using hne)) j (hpid3 j hj)
                rcases List.mem_cons.1 hm with h1 | h1
                · omega
                · have := hdO j (hmem j h1); omega)
              have hca8 : CallsAt g8 cv3 (cs ++ [(rv3, readyP jobs s, N.chosen)]) := hca4.keep' hk48 (fun j hj hm => by
                rcases List.mem_cons.1 hm with h1 | h1
                · have := hcid3 j hj; omega
                · exact (hsep4 j (hmem j h1)).1 hj) (fun y hy hne j hj hm => by
                rcases List.mem_cons.1 hm with h1 | h1
                · have := hcsid4 y hy j hj; omega
                · exact (hsep4 j (hmem j h1)).2 y hy hne hj)
              have hsep8 : ∀ j, idOf outv' = some j → j ≠ M ∧ j ≠ K ∧ idOf cv3 ≠ some j ∧ ∀ x ∈ cs ++ [(rv3, readyP jobs s, N.chosen)], x.2.1 ≠ [] → idOf x.1 ≠ some j := by
                intro j hj
                have h1 := hid8 j hj
                refine ⟨by omega, by omega, fun h2 => ?_, fun x hx hne h2 => ?_⟩
                · have := hca4.1.lt hk4.wf (by simp [rowsOf]) h2; omega
                · have := (hca4.2 x hx).lt hk4.wf (by simpa [bools] using hne) h2; omega
              have hl8 : N.last = lastOf (cs ++ [(rv3, readyP jobs s, N.chosen)]) := by rw [hlst, lastOf_snoc, hlast]
              have hints : ints s.out ++ [.int .i64 N.chosen] = ints (s.out ++ [N.chosen]) := by simp [ints]
              rw [hints] at hacc8
              have hset := set_le hcok (i := c) (x := at0 s.cnt c + 1) (by omega)
              have hka' : indexAddrA Try.prog 22 kv (.int .i64 N.chosen) = some (.ptr (some ⟨K, c⟩)) := by rw [hNc]; exact hka
              apply WP.region; simp [hl, h11, hka', hkl, wrap_small (show -9223372036854775808 ≤ at0 s.cnt c + 1 by omega) (by omega), storeR_ptr hst5]
              apply WP.region; simp [hl, h10, hbs6, hap]
              have hm : moved s N = ⟨N.picks, N.ages, N.last, s.cnt.set c (at0 s.cnt c + 1), s.out ++ [N.chosen]⟩ := by simp only [moved, hNc, Int.toNat_natCast]
              rw [hm] at hF
              have hsub : steps.toNat - s.out.length - 1 = steps.toNat - (s.out ++ [N.chosen]).length := by rw [List.length_append, List.length_singleton]; omega
              rw [hsub] at hF
              refine ⟨steps.toNat - (s.out ++ [N.chosen]).length, by rw [← hsub]; omega, h0, h3, h9, h11, by omega, hkh8, ⟨N.picks, N.ages, N.last, s.cnt.set c (at0 s.cnt c + 1), s.out ++ [N.chosen]⟩, rfl, by simp; omega, hF, ?_, by simpa using hcl, pv3, cv3, cs ++ [(rv3, readyP jobs s, N.chosen)], by simp [hcsl], hown8, hacc8, ?_, hgM8, hp8, ?_, hca8, fun j hj => by have := hcid3 j hj; omega, ?_, hstep, hl8⟩
              · intro a ha
                have := hset a ha
                simp only [List.length_append, List.length_singleton]
                omega
              · intro j hj
                obtain ⟨q1, q2, q3, q4⟩ := hsep8 j hj
                exact ⟨q1, q2, q3, fun a r x hx hne => q4 _ hx hne⟩
              · intro hne j hj
                exact hpid (hpne hne) j (hpid3 j hj)
              · intro a r x hx j hj
                exact hcsid4 _ hx j hj
        · refine ⟨by simp [hl], by simp [hl, h0], by simp [hl, h3], by simp [hl, h9], by simp [hl, h10], by simp [hl, h11], by simp [hl], by simp [hl], hk1, 0, by omega, by omega, by simp [hl], by simpa [hl] using hacc1⟩
      · intro hge
        have hge : ¬ (s.out.length : Int) < steps := by simpa using hge
        apply WP.exit
        simp
        repeat apply WP.seq
        have hz : steps.toNat - s.out.length = 0 := by omega
        rw [hz] at hF
        simp only [playN] at hF
        subst hF
        obtain ⟨ol, oc, rfl⟩ := hacc.sl.slice
        apply WP.region; simp [hl, h10]
        apply WP.ret
        simp [hl, resultsA, resultA, single]
        exact ⟨by simpa using hacc.sl, hkh⟩
    · refine ⟨by simp [hl], by simp [hl, h0], by simp [hl, h3], by simp [hl], by simp [hl], Nat.le_refl _, hkh5, startP jobs picks, pv, .slice none 0 (.exact 0), ov0, [], by simp [startP], by simp [hl], by simp [startP], by simpa [startP] using hF, by simp [startP], by simp [startP], rfl, hown5, by simpa [startP, ints] using hacc5, fun j hj => ⟨(hOMK j hj).1, (hOMK j hj).2, by simp [idOf], by simp⟩, hgM5, hp5, hidw, ⟨⟨by simp [rowsOf], rfl, rfl⟩, by simp⟩, by simp [idOf], by simp, by simp [startP, at0, hist, ageR], by simp [startP, lastOf]⟩
  obtain ⟨u, h', h1, h2, h3⟩ := main
  obtain ⟨l, c, rfl⟩ := h2.slice
  exact ⟨_, h', h1, h2, ⟨l, c, by simp⟩, h3⟩
end
end Go.Am
