/- A part of the proof by the abstract machine: SFair. -/
import Derived.Test.YtehccakjdbapiaaAmSFairP
import Derived.Test.YtehccakjdbapiaaAmSPicks
set_option linter.unusedSimpArgs false
namespace Go.Am
open Go.RowKit Go.Proofs

/-- A chooser that does not use the block A. -/
def ChX (A : Nat) (h : Heap) (C : Nat) (picks : List Int) (bound : Int) (ages : List Int) (last : Int) : Prop :=
  ∃ pv av, ChAt h C pv av picks bound ages last ∧ (picks ≠ [] → idOf pv ≠ some A) ∧ (ages ≠ [] → idOf av ≠ some A)
theorem ChX.ch {A : Nat} {h : Heap} {C : Nat} {picks ages : List Int} {bound last : Int} (hC : ChX A h C picks bound ages last) : Ch h C picks bound ages last := by
  obtain ⟨p, a, h1, _⟩ := hC; exact ⟨p, a, h1⟩
theorem ChX.of {A : Nat} {h : Heap} (hw : Wf h) {C : Nat} {picks ages : List Int} {bound last : Int} (hC : Ch h C picks bound ages last) (hA : h.next ≤ A) : ChX A h C picks bound ages last := by
  obtain ⟨p, a, h1⟩ := hC
  refine ⟨p, a, h1, fun hne hi => ?_, fun hne hi => ?_⟩
  · have := h1.2.1.lt hw (by simpa [ints] using hne) hi; omega
  · have := h1.2.2.1.lt hw (by simpa [ints] using hne) hi; omega
theorem ChX.keep {A : Nat} {h0 h : Heap} (hk : Keep [] h0 h) {C : Nat} {picks ages : List Int} {bound last : Int} (hC : ChX A h0 C picks bound ages last) : ChX A h C picks bound ages last := by
  obtain ⟨p, a, hc, h2⟩ := hC
  exact ⟨p, a, hc.keep hk (by simp) (by simp) (by simp), h2⟩
theorem ChX.write {A : Nat} {h0 h : Heap} (hk : Keep [A] h0 h) {C : Nat} {picks ages : List Int} {bound last : Int} (hC : ChX A h0 C picks bound ages last) (hA : A ≠ C) : ChX A h C picks bound ages last := by
  obtain ⟨p, a, hc, h1, h2⟩ := hC
  refine ⟨p, a, ⟨hk.get _ _ hc.1 (by simp; omega), hc.2.1.keep' hk ?_, hc.2.2.1.keep' hk ?_, hc.2.2.2⟩, h1, h2⟩
  · intro hne i hi hm
    simp only [List.mem_singleton] at hm
    exact h1 (by simpa [ints] using hne) (by rw [hi, hm])
  · intro hne i hi hm
    simp only [List.mem_singleton] at hm
    exact h2 (by simpa [ints] using hne) (by rw [hi, hm])

section
variable {ov : CallF}

theorem next_okX (O : OvOk ov) {h : Heap} (hw : Wf h) {A C : Nat} (hA : A < h.next) {picks ages : List Int} {bound last : Int} (hC : ChX A h C picks bound ages last)
    {v : AV} {ready : List Bool} (hs : Sl h v (bools ready)) (hv : idOf v ≠ some C) (hn : ready.length ≤ 1000000000) (hages : ∀ a ∈ ages, 0 ≤ a ∧ a < 4611686018427387904) :
    ∃ h', callT ov Try.prog 14 [.ptr (some ⟨C, 0⟩), v] h = some (.ret (.tuple [.int .i64 (max (nextP picks bound ages last ready).chosen 0), .bool (decide (0 ≤ (nextP picks bound ages last ready).chosen))]) h') ∧
      ChX A h' C (nextP picks bound ages last ready).picks bound (nextP picks bound ages last ready).ages (nextP picks bound ages last ready).last ∧ Keep [C] h h' := by
  obtain ⟨pv, av, hCh, hx1, hx2⟩ := hC
  obtain ⟨h', h1, ⟨pv', av', h2, h3, h4⟩, h5⟩ := next_ok' O.o14 O.o27 O.o28 O.o29 O.o30 hw hCh hs hv hn hages
  refine ⟨h', h1, ⟨pv', av', h2, fun hne => ?_, fun _ hi => ?_⟩, h5⟩
  · obtain ⟨hq1, hq2⟩ := h3 hne
    rw [hq2]; exact hx1 hq1
  · have := h4 _ hi; omega

/-- A slice of slices of bools. -/
def Sls (h : Heap) (vs : List AV) (rs : List (List Bool)) : Prop := vs.length = rs.length ∧ ∀ (i : Nat) v r, vs[i]? = some v → rs[i]? = some r → Sl h v (bools r)
theorem Sls.at {h : Heap} {vs : List AV} {rs : List (List Bool)} (hs : Sls h vs rs) {i : Nat} (hi : i < rs.length) : ∃ v r, vs[i]? = some v ∧ rs[i]? = some r ∧ Sl h v (bools r) := by
  have h1 : i < vs.length := by rw [hs.1]; exact hi
  exact ⟨vs[i], rs[i], List.getElem?_eq_getElem h1, List.getElem?_eq_getElem hi, hs.2 i _ _ (List.getElem?_eq_getElem h1) (List.getElem?_eq_getElem hi)⟩

def maxLenTo (rs : List (List Bool)) : Nat → Nat
  | 0 => 0
  | k + 1 => if maxLenTo rs k < (rs.getD k []).length then (rs.getD k []).length else maxLenTo rs k
theorem maxLenTo_ge (rs : List (List Bool)) : ∀ (k i : Nat) (r : List Bool), i < k → rs[i]? = some r → r.length ≤ maxLenTo rs k
  | 0, i, r, h, _ => by omega
  | k + 1, i, r, h, hr => by
    simp only [maxLenTo]
    by_cases hi : i = k
    · subst hi
      have : rs.getD i [] = r := by simp [List.getD_eq_getElem?_getD, hr]
      rw [this]
      split <;> omega
    · have := maxLenTo_ge rs k i r (by omega) hr
      split <;> omega
theorem maxLenTo_le (rs : List (List Bool)) {M : Nat} (hM : ∀ r ∈ rs, r.length ≤ M) : ∀ k, k ≤ rs.length → maxLenTo rs k ≤ M
  | 0, _ => by simp [maxLenTo]
  | k + 1, hk => by
    have h1 := maxLenTo_le rs hM k (by omega)
    have h2 : (rs.getD k []).length ≤ M := by
      rw [List.getD_eq_getElem?_getD, List.getElem?_eq_getElem (by omega)]
      exact hM _ (List.getElem_mem (by omega))
    simp only [maxLenTo]
    split <;> omega

set_option maxHeartbeats 4000000 in
theorem fair_ok (O : OvOk ov) (o4 : ∀ a h, ov 4 a h = none) {h : Heap} (hw : Wf h) {wv cv : AV} {want : List Int} (hs : Sl h wv (ints want)) (hL : want.length ≤ 2000000) (b0 : Int) (hb0 : -9223372036854775808 ≤ b0 ∧ b0 ≤ 9223372036854775807)
    {vs : List AV} {rs : List (List Bool)} (hcs : Sl h cv vs) (hss : Sls h vs rs) (hrl : rs.length ≤ 2000000) (hrm : ∀ r ∈ rs, r.length ≤ 2000000) :
    ∃ h', callT ov Try.prog 4 [wv, .int .i64 b0, cv] h = some (.ret (.bool true) h') := by
  have main : ∃ u h', callT ov Try.prog 4 [wv, .int .i64 b0, cv] h = some (.ret u h') ∧ u = .bool true := by
    refine callT_wp (fn := Try.f4) (Q := fun u _ => u = .bool true) (o4 _ _) (by kernel_rfl) rfl ?_
    have hl : (frameA Try.f4 [wv, .int .i64 b0, cv]).length = 133 := frameA_length (Nat.le_of_ble_eq_true rfl)
    have h0 : nth (frameA Try.f4 [wv, .int .i64 b0, cv]) 0 = wv := frameA_nth (Nat.le_of_ble_eq_true rfl)
    have h1 : nth (frameA Try.f4 [wv, .int .i64 b0, cv]) 1 = .int .i64 b0 := frameA_nth (Nat.le_of_ble_eq_true rfl)
    have h2 : nth (frameA Try.f4 [wv, .int .i64 b0, cv]) 2 = cv := frameA_nth (Nat.le_of_ble_eq_true rfl)
    generalize frameA Try.f4 [wv, .int .i64 b0, cv] = e at hl h0 h1 h2
    have hca10 : ∀ h, callA (callT ov Try.prog) Try.prog h 10 [] = some (.ret (.bool true) h) := fun h => (callA_of (fn := Try.f10) (by kernel_rfl) rfl).trans (callT_ov _ _ (O.o10 h))
    have hca11 : ∀ args h, callA (callT ov Try.prog) Try.prog h 11 args = callT ov Try.prog 11 args h := fun args h => callA_of (fn := Try.f11) (by kernel_rfl) rfl
    have hca14 : ∀ args h, callA (callT ov Try.prog) Try.prog h 14 args = callT ov Try.prog 14 args h := fun args h => callA_of (fn := Try.f14) (by kernel_rfl) rfl
    have hvl : vs.length = rs.length := hss.1
    have hlenc : ∀ h, lenA Try.prog h 23 cv = some (.int .i64 (rs.length : Nat)) := by
      intro h; obtain ⟨l, c, rfl⟩ := hcs.slice; rw [hvl]; exact lenA_slice (P := Try.prog) u23
    repeat apply WP.seq
    apply WP.region; simp [hl]
    repeat apply WP.seq
    apply WP.region; simp [hl, hca10]
    repeat apply WP.seq
    apply WP.cond (t := false) (by simp [hl]) (by simp)
    intro _
    apply WP.skip; simp
    repeat apply WP.seq
    obtain ⟨wc, gc, B, hap, hownc, hB, hkc⟩ := hs.clone (P := Try.prog) hw u22 s3 (fun _ => room3 (by simp; omega)) ints_ok
    obtain ⟨C, g, pv, hnew, hgC, hpv, hidp, hCn, hk⟩ := new_ok O.o25 O.o11 hkc.wf hownc.sl (by omega) b0
    have hC : Ch g C want (max b0 1) [] (-1) := ⟨_, _, hgC, hpv, ⟨rfl, rfl⟩, fun hi => (hidp _ hi).2 rfl, by simp [idOf]⟩
    apply WP.region; simp [hl, h0, h1, build22, hap, hca11, hnew]
    repeat apply WP.seq
    apply WP.region; simp [hl, bin_ptnil u25]
    repeat apply WP.seq
    apply WP.cond (t := false) (by simp [hl]) (by simp)
    intro _
    apply WP.skip; simp
    repeat apply WP.seq
    have hk0 := hkc.trans hk
    clear hgC hpv hidp hnew hap hownc
    -- the bound
    apply WP.region; simp [hl, h1]
    repeat apply WP.seq
    refine WP.mono (K := fun o e g' => o = .normal ∧ g = g' ∧ e.length = 133 ∧ nth e 1 = .int .i64 (max b0 1) ∧ nth e 2 = cv ∧ nth e 7 = .ptr (some ⟨C, 0⟩)) ?_ ?_
    · apply WP.cond (by simp [hl]; rfl)
      · intro hc
        have hc : b0 < 1 := by simpa using hc
        have hm : max b0 1 = 1 := by omega
        apply WP.region; simp [hl, h2, hm]
      · intro hc
        have hc : ¬ b0 < 1 := by simpa using hc
        have hm : max b0 1 = b0 := by omega
        apply WP.skip; simp [hl, h1, h2, hm]
    rintro _ e _ ⟨rfl, rfl, hl, h1, h2, h7⟩
    generalize hb : max b0 1 = b at h1 hC
    have hb1 : 1 ≤ b ∧ b ≤ 9223372036854775807 := by omega
    simp
    repeat apply WP.seq
    apply WP.region; simp [hl]
    repeat apply WP.seq
    apply WP.region; simp [hl, h2, hlenc]
    repeat apply WP.seq
    apply WP.block
    refine WP.loop (fun k e g' => g = g' ∧ e.length = 133 ∧ nth e 1 = .int .i64 b ∧ nth e 2 = cv ∧ nth e 7 = .ptr (some ⟨C, 0⟩) ∧ nth e 29 = cv ∧ nth e 30 = .int .i64 rs.length ∧ ∃ i, i ≤ rs.length ∧ k = rs.length - i ∧ nth e 31 = .int .i64 (i : Nat) ∧ nth e 8 = .int .i64 (maxLenTo rs i : Nat)) ?_ rs.length _ _ ?_
    · rintro k e _ ⟨rfl, hl, h1, h2, h7, h29, h30, i, hi, rfl, h31, h8⟩
      have hssk : ∀ {ex : List Nat} {g' : Heap}, Keep ex g g' → (∀ i, i ∈ ex → h.next ≤ i) → ∀ (i : Nat) v r, vs[i]? = some v → rs[i]? = some r → Sl g' v (bools r) := by
        intro ex g' hkk hex i v r hv hr
        refine (hss.2 i v r hv hr).keep' (hk0.more (ex' := ex) (by simp) |>.trans hkk) ?_
        intro hne j hj hm
        have := (hss.2 i v r hv hr).lt hw hne hj
        have := hex j hm
        omega
      have hcsk : ∀ {ex : List Nat} {g' : Heap}, Keep ex g g' → (∀ i, i ∈ ex → h.next ≤ i) → Sl g' cv vs := by
        intro ex g' hkk hex
        refine hcs.keep' (hk0.more (ex' := ex) (by simp) |>.trans hkk) ?_
        intro hne j hj hm
        have := hcs.lt hw hne hj
        have := hex j hm
        omega
      repeat apply WP.seq
      apply WP.region; simp [hl, h30, h31]
      repeat apply WP.seq
      apply WP.cond (by simp [hl]; rfl)
      · intro hlt1
        have hlt1 : i < rs.length := by simpa using hlt1
        apply WP.skip; simp
        repeat apply WP.seq
        apply WP.block
        repeat apply WP.seq
        obtain ⟨v, r, hvi, hri, _⟩ := hss.at hlt1
        have hsv := hssk (Keep.refl (ex := []) hk0.wf) (by simp) i v r hvi hri
        obtain ⟨l1, hl1, hl1', _⟩ := (hcsk (Keep.refl (ex := []) hk0.wf) (by simp)).at (P := Try.prog) u23 s31 a31 hvi (k := .i64)
        have hlv := hsv.len (P := Try.prog) u31
        have hgd : rs.getD i [] = r := by simp [List.getD_eq_getElem?_getD, hri]
        apply WP.region; simp [hl, h29, h31, hl1, hl1']
        repeat apply WP.seq
        apply WP.region; simp [hl, h8, hlv]
        repeat apply WP.seq
        apply WP.cond (by simp [hl]; rfl)
        · intro hc
          have hc : maxLenTo rs i < r.length := by simpa using hc
          have hm : maxLenTo rs (i + 1) = r.length := by simp only [maxLenTo, hgd, if_pos hc]
          apply WP.region; simp [hl, hlv]
          apply WP.region; simp [hl, h31, int_wrap (show i < 9223372036854775807 by omega)]
          exact ⟨rs.length - (i + 1), by omega, h1, h2, h7, h29, h30, i + 1, by omega, rfl, by simp, by rw [hm]⟩
        · intro hc
          have hc : ¬ maxLenTo rs i < r.length := by simpa using hc
          have hm : maxLenTo rs (i + 1) = maxLenTo rs i := by simp only [maxLenTo, hgd, if_neg hc]
          apply WP.skip; simp
          apply WP.region; simp [hl, h31, int_wrap (show i < 9223372036854775807 by omega)]
          exact ⟨rs.length - (i + 1), by omega, h1, h2, h7, h29, h30, i + 1, by omega, rfl, by simp, by rw [hm]; exact h8⟩
      · intro hge
        have hge : ¬ i < rs.length := by simpa using hge
        have hi' : i = rs.length := by omega
        subst hi'
        apply WP.exit
        simp
        have hnm : ∀ (i : Nat) r, rs[i]? = some r → r.length ≤ maxLenTo rs rs.length := fun i r hr => maxLenTo_ge rs rs.length i r (List.getElem?_eq_some_iff.1 hr).1 hr
        have hnM : maxLenTo rs rs.length ≤ 2000000 := maxLenTo_le rs hrm rs.length (Nat.le_refl _)
        generalize maxLenTo rs rs.length = n at h8 hnm hnM
        -- the waits
        have hmk : makeSliceA Try.prog g 22 (.int .i64 (n : Nat)) (.int .i64 (n : Nat)) = _ := make22 (by omega)
        have hk2 : Keep [] g (g.alloc (.cells (List.replicate n (.int .i64 0)) .own)) := (Keep.refl hk0.wf).alloc _
        have hg2 : (g.alloc (.cells (List.replicate n (.int .i64 0)) .own)).get g.next = some (.cells (List.replicate n (.int .i64 0)) .own) := Heap.get_alloc _ _
        have hCg : C < g.next := hC.lt hk0.wf
        have hCX := (ChX.of hk0.wf hC (Nat.le_refl g.next)).keep hk2
        generalize g.alloc (.cells (List.replicate n (.int .i64 0)) .own) = g2 at hk2 hg2 hmk hCX
        have hown : Own g2 (.slice (some ⟨g.next, 0⟩) n (.exact n)) g.next (ints (waitsOf [] n)) :=
          ⟨.exact n, ⟨by simp [waitsOf], by simp [capOk, waitsOf]⟩, by
            rw [hg2]
            rw [waits_nil]; simp [ints]⟩
        have hAC : g.next ≠ C := by omega
        have hAh : h.next ≤ g.next := hk0.le
        have hCh : h.next ≤ C := by have := hkc.le; omega
        generalize hA : g.next = A at hown hmk hAC hAh hCX
        have hlenr : ∀ g, lenA Try.prog g 22 (.slice (some ⟨A, 0⟩) n (.exact n)) = some (.int .i64 (n : Nat)) := fun g => lenA_slice u22
        generalize AV.slice (some ⟨A, 0⟩) n (.exact n) = ws at hown hmk hlenr
        have hex : ∀ i, i ∈ [C, A] → h.next ≤ i := by
          intro i hi
          simp only [List.mem_cons, List.mem_nil_iff, or_false] at hi
          rcases hi with rfl | rfl <;> omega
        repeat apply WP.seq
        apply WP.region; simp [hl, h8, hmk]
        repeat apply WP.seq
        apply WP.region; simp [hl, h2, hlenc]
        repeat apply WP.seq
        apply WP.block
        refine WP.loop (fun k e g' => e.length = 133 ∧ nth e 1 = .int .i64 b ∧ nth e 2 = cv ∧ nth e 7 = .ptr (some ⟨C, 0⟩) ∧ nth e 8 = .int .i64 n ∧ nth e 11 = ws ∧ nth e 44 = cv ∧ nth e 45 = .int .i64 rs.length ∧ Keep [C, A] g g' ∧ ∃ x, x ≤ rs.length ∧ k = rs.length - x ∧ nth e 46 = .int .i64 (x : Int) ∧
          ∃ picks ages last, (∀ a ∈ ages, 0 ≤ a ∧ a ≤ (x : Int)) ∧ Fair n b ages ∧ Own g' ws A (ints (waitsOf ages n)) ∧ ChX A g' C picks b ages last) ?_ rs.length _ _ ?_
        · rintro k e g' ⟨hl, h1, h2, h7, h8, h11, h44, h45, hkk, x, hx, rfl, h46, picks, ages, last, haok, hfair, hown, hCX⟩
          repeat apply WP.seq
          apply WP.region; simp [hl, h45, h46]
          repeat apply WP.seq
          apply WP.cond (by simp [hl]; rfl)
          · intro hlt1
            have hlt1 : x < rs.length := by simpa using hlt1
            apply WP.skip; simp
            repeat apply WP.seq
            apply WP.block
            repeat apply WP.seq
            obtain ⟨v, r, hvi, hri, _⟩ := hss.at hlt1
            have hsv := hssk hkk hex x v r hvi hri
            obtain ⟨l1, hl1, hl1', _⟩ := (hcsk hkk hex).at (P := Try.prog) u23 s31 a31 hvi (k := .i64)
            have hrn := hnm x r hri
            apply WP.region; simp [hl, h44, h46, hl1, hl1']
            repeat apply WP.seq
            obtain ⟨v', g3, B', hap, hown3, hB', hk3⟩ := hsv.clone (P := Try.prog) hkk.wf u31 s4 (fun _ => room4 (by simp; omega)) bools_ok
            have hC3 := hCX.keep hk3
            have hA' : A < g'.next := hkk.wf _ _ hown.choose_spec.2
            have hC' : C < g'.next := hCX.ch.lt hkk.wf
            have hk3l := hk3.le
            have hvC : idOf v' ≠ some C := by rw [hown3.id]; simp; omega
            obtain ⟨g4, hcall, hC4, hk4⟩ := next_okX O hk3.wf (A := A) (by omega) hC3 hown3.sl hvC (by omega) (fun a ha => by have := haok a ha; omega)
            have hspec := next_spec picks b ages last r
            have hfair' : Fair n b (nextP picks b ages last r).ages := hfair.next hb1.1 hrn
            have hNa : ∀ i, at0 (nextP picks b ages last r).ages i = if r.getD i false = true ∧ (i : Int) ≠ (nextP picks b ages last r).chosen then at0 ages i + 1 else 0 := by
              intro i; rw [nextP_ages]; exact newAges_at _ _ _ _
            have hokN : ∀ a ∈ (nextP picks b ages last r).ages, 0 ≤ a ∧ a ≤ (x : Int) + 1 := by
              rw [nextP_ages]
              exact newAges_ok (by omega) (at0_le (by omega) (agesFor_le (by omega) haok r.length))
            generalize nextP picks b ages last r = N at hcall hC4 hspec hfair' hNa hokN
            have hown4 := (hown.keep hk3 (by simp)).keep hk4 (by simp [hAC])
            have hkk4 : Keep [C, A] g g4 := (hkk.trans (hk3.more (by simp))).trans (hk4.more (by simp))
            have hlv : ∀ h, lenA Try.prog h 31 v = some (.int .i64 (r.length : Nat)) := by
              intro h; obtain ⟨l, c, rfl⟩ := hsv.slice; simpa using lenA_slice (P := Try.prog) u31
            apply WP.region; simp [hl, h7, build31, hap, hca14, hcall, extractA]
            repeat apply WP.seq
            apply WP.region; simp [hl]
            repeat apply WP.seq
            apply WP.region; simp [hl, h11, hlenr]
            repeat apply WP.seq
            apply WP.block
            refine WP.loop (fun k e g5 => e.length = 133 ∧ nth e 1 = .int .i64 b ∧ nth e 2 = cv ∧ nth e 7 = .ptr (some ⟨C, 0⟩) ∧ nth e 8 = .int .i64 n ∧ nth e 11 = ws ∧ nth e 13 = v ∧ nth e 14 = .int .i64 (max N.chosen 0) ∧ nth e 15 = .bool (decide (0 ≤ N.chosen)) ∧ nth e 44 = cv ∧ nth e 45 = .int .i64 rs.length ∧ nth e 46 = .int .i64 (x : Int) ∧ nth e 59 = .int .i64 n ∧ Keep [A] g4 g5 ∧
              ∃ i, i ≤ n ∧ k = n - i ∧ nth e 60 = .int .i64 (i : Int) ∧ nth e 16 = .bool (anyTo r i) ∧ Own g5 ws A (ints (mixW ages N.ages i n))) ?_ n _ _ ?_
            · rintro k e g5 ⟨hl, h1, h2, h7, h8, h11, h13, h14, h15, h44, h45, h46, h59, hk5, i, hi, rfl, h60, h16, hown5⟩
              repeat apply WP.seq
              apply WP.region; simp [hl, h59, h60]
              repeat apply WP.seq
              apply WP.cond (by simp [hl]; rfl)
              · intro hlt2
                have hlt2 : i < n := by simpa using hlt2
                apply WP.skip; simp
                repeat apply WP.seq
                apply WP.block
                repeat apply WP.seq
                have hml := mixW_length ages N.ages i n
                have hms := mixW_set ages N.ages hlt2
                have haddr := hown5.addr (P := Try.prog) u22 s3 (i := i) (by simp [hml, hlt2]) (k := .i64)
                have hload := hown5.load (P := Try.prog) a3 (ints_get (mixW_at ages N.ages hlt2))
                have hai := at0_le (by omega) haok i
                have hni := at0_le (by omega) hokN i
                have hNi := hNa i
                have hA5 : A < g5.next := hk5.wf _ _ hown5.choose_spec.2
                have hsv5 : Sl g5 v (bools r) := hssk (hkk4.trans (hk5.more (by simp))) hex x v r hvi hri
                have fin : at0 N.ages i = 0 → ∃ g6, storeA Try.prog g5 3 ⟨A, i⟩ (.int .i64 0) = some g6 ∧ Keep [A] g4 g6 ∧ Own g6 ws A (ints (mixW ages N.ages (i + 1) n)) := by
                  intro hz
                  obtain ⟨hst, hown6⟩ := hown5.store (P := Try.prog) s3 (i := i) (by simp [hml, hlt2]) (x := .int .i64 (at0 N.ages i)) rfl rfl
                  rw [ints_set, hms] at hst hown6
                  rw [hz] at hst
                  exact ⟨_, hst, hk5.set _ hA5 (.inl (by simp)), hown6⟩
                apply WP.region; simp [hl, h60]
                repeat apply WP.seq
                apply WP.region
                by_cases hlr : i < r.length
                rotate_left
                · have hgd : r.getD i false = false := by simp [List.getD_eq_getElem?_getD, hlr]
                  have hany : anyTo r (i + 1) = anyTo r i := by simp only [anyTo, hgd, Bool.or_false]
                  obtain ⟨g6, hst, hk6, hown6⟩ := fin (by rw [hNi, hgd]; simp)
                  have hle : r.length ≤ i := by omega
                  simp [hl, h13, hlv, guardA, hle]
                  repeat apply WP.seq
                  apply WP.cond (t := true) (by simp [hl]) ?_ (by simp)
                  intro _
                  repeat apply WP.seq
                  apply WP.region; simp [hl, h11, haddr, storeR_ptr hst]
                  apply WP.exit; simp
                  apply WP.region; simp [hl, h60, int_wrap (show i < 9223372036854775807 by omega)]
                  exact ⟨n - (i + 1), by omega, h1, h2, h7, h8, h11, h13, h14, h15, h44, h45, h46, h59, hk6, i + 1, by omega, rfl, by simp, by rw [hany]; exact h16, hown6⟩
                · obtain ⟨bb, hrb⟩ : ∃ bb, r[i]? = some bb := ⟨r[i], by simp [hlr]⟩
                  have hgd : r.getD i false = bb := by simp [List.getD_eq_getElem?_getD, hrb]
                  have hle : ¬ r.length ≤ i := by omega
                  obtain ⟨l2, hl2, hl2', _⟩ := hsv5.at u31 s4 a4 (bools_get hrb) (k := .i64)
                  cases bb with
                  | false =>
                    have hany : anyTo r (i + 1) = anyTo r i := by simp only [anyTo, hgd, Bool.or_false]
                    obtain ⟨g6, hst, hk6, hown6⟩ := fin (by rw [hNi, hgd]; simp)
                    simp [hl, h13, hlv, guardA, hle, hl2, hl2']
                    repeat apply WP.seq
                    apply WP.cond (t := true) (by simp [hl]) ?_ (by simp)
                    intro _
                    repeat apply WP.seq
                    apply WP.region; simp [hl, h11, haddr, storeR_ptr hst]
                    apply WP.exit; simp
                    apply WP.region; simp [hl, h60, int_wrap (show i < 9223372036854775807 by omega)]
                    exact ⟨n - (i + 1), by omega, h1, h2, h7, h8, h11, h13, h14, h15, h44, h45, h46, h59, hk6, i + 1, by omega, rfl, by simp, by rw [hany]; exact h16, hown6⟩
                  | true =>
                    have hany : anyTo r (i + 1) = true := by simp only [anyTo, hgd, Bool.or_true]
                    have hiw : i ∈ whoFrom r 0 := by simpa using whoFrom_has r 0 i hrb
                    obtain ⟨c, hNc⟩ : ∃ c : Nat, N.chosen = c := by
                      rcases hspec with ⟨he, _⟩ | ⟨c, hc, _⟩
                      · rw [he] at hiw; cases hiw
                      · exact ⟨c, hc⟩
                    have hmx : max (c : Int) 0 = c := by omega
                    have hc0 : (0 : Int) ≤ c := by omega
                    rw [hNc] at h14 h15 hNi
                    rw [hmx] at h14
                    simp only [hc0, decide_true] at h15
                    rw [hgd] at hNi
                    obtain ⟨hst, hown6⟩ := hown5.store (P := Try.prog) s3 (i := i) (by simp [hml, hlt2]) (x := .int .i64 (at0 ages i + 1)) rfl rfl
                    have hk6 := hk5.set (.cells ((ints (mixW ages N.ages i n)).set i (.int .i64 (at0 ages i + 1))) .own) hA5 (.inl (by simp))
                    generalize g5.set A (.cells ((ints (mixW ages N.ages i n)).set i (.int .i64 (at0 ages i + 1))) .own) = g6 at hst hown6 hk6
                    rw [ints_set] at hown6
                    have hA6 : A < g6.next := hk6.wf _ _ hown6.choose_spec.2
                    have haddr6 := hown6.addr (P := Try.prog) u22 s3 (i := i) (by simp [hml, hlt2]) (k := .i64)
                    simp [hl, h13, hlv, guardA, hle, hl2, hl2']
                    repeat apply WP.seq
                    apply WP.cond (t := false) (by simp [hl]) (by simp)
                    intro _
                    apply WP.skip; simp
                    repeat apply WP.seq
                    apply WP.region; simp [hl]
                    repeat apply WP.seq
                    apply WP.region; simp [hl, h11, haddr, hload, wrap_small (show -9223372036854775808 ≤ at0 ages i + 1 by omega) (by omega), storeR_ptr hst]
                    repeat apply WP.seq
                    apply WP.region; simp [hl, h14, h15, guardA]
                    repeat apply WP.seq
                    apply WP.cond (by simp [hl]; rfl)
                    · intro hci
                      have hci : c = i := by
                        have : (c : Int) = i := by simpa using hci
                        omega
                      subst hci
                      have hz : at0 N.ages c = 0 := by rw [hNi]; simp
                      obtain ⟨hst7, hown7⟩ := hown6.store (P := Try.prog) s3 (i := c) (by simp [hml, hlt2]) (x := .int .i64 (at0 N.ages c)) rfl rfl
                      rw [ints_set, List.set_set, hms] at hst7 hown7
                      have hk7 := hk6.set (.cells (ints (mixW ages N.ages (c + 1) n)) .own) hA6 (.inl (by simp))
                      generalize g6.set A (.cells (ints (mixW ages N.ages (c + 1) n)) .own) = g7 at hst7 hown7 hk7
                      rw [hz] at hst7
                      have hml7 := mixW_length ages N.ages (c + 1) n
                      have hw7 : (mixW ages N.ages (c + 1) n)[c]? = some 0 := by rw [← hz]; simp [mixW, hlt2]
                      have haddr7 := hown7.addr (P := Try.prog) u22 s3 (i := c) (by simp [hml7, hlt2]) (k := .i64)
                      have hload7 := hown7.load (P := Try.prog) a3 (ints_get hw7)
                      have hn0 : n ≠ 0 := by omega
                      apply WP.region; simp [hl, h11, haddr6, storeR_ptr hst7]
                      repeat apply WP.seq
                      apply WP.region; simp [hl, h8, h11, haddr7, hload7, guardA, hn0]
                      repeat apply WP.seq
                      apply WP.cond (t := false) (by simp [hl]) (by simp)
                      intro _
                      apply WP.skip; simp
                      apply WP.region; simp [hl, h60, int_wrap (show c < 9223372036854775807 by omega)]
                      exact ⟨n - (c + 1), by omega, h1, h2, h7, h8, h11, h13, by rw [h14, hNc, hmx], by rw [h15, hNc]; simp [hc0], h44, h45, h46, h59, hk7, c + 1, by omega, rfl, by simp, by rw [hany], hown7⟩
                    · intro hci
                      have hci : ¬ (i : Int) = c := by
                        have : ¬ (c : Int) = i := by simpa using hci
                        omega
                      have hz : at0 N.ages i = at0 ages i + 1 := by rw [hNi]; simp [hci]
                      rw [← hz, hms] at hown6
                      have hml7 := mixW_length ages N.ages (i + 1) n
                      have hw7 : (mixW ages N.ages (i + 1) n)[i]? = some (at0 N.ages i) := by simp [mixW, hlt2]
                      have haddr7 := hown6.addr (P := Try.prog) u22 s3 (i := i) (by simp [hml7, hlt2]) (k := .i64)
                      have hload7 := hown6.load (P := Try.prog) a3 (ints_get hw7)
                      have hlt := hfair'.lt (by omega) (by omega) i
                      apply WP.skip; simp
                      repeat apply WP.seq
                      apply WP.region
                      by_cases hnw : (n : Int) ≤ at0 N.ages i
                      · have hbw : ¬ b ≤ at0 N.ages i - n := by omega
                        simp [hl, h1, h8, h11, haddr7, hload7, guardA, hnw, wrap_small (show -9223372036854775808 ≤ at0 N.ages i - n by omega) (by omega), hbw]
                        repeat apply WP.seq
                        apply WP.cond (t := false) (by simp [hl]) (by simp)
                        intro _
                        apply WP.skip; simp
                        apply WP.region; simp [hl, h60, int_wrap (show i < 9223372036854775807 by omega)]
                        exact ⟨n - (i + 1), by omega, h1, h2, h7, h8, h11, h13, by rw [h14, hNc, hmx], by rw [h15, hNc]; simp [hc0], h44, h45, h46, h59, hk6, i + 1, by omega, rfl, by simp, by rw [hany], hown6⟩
                      · simp [hl, h1, h8, h11, haddr7, hload7, guardA, hnw]
                        repeat apply WP.seq
                        apply WP.cond (t := false) (by simp [hl]) (by simp)
                        intro _
                        apply WP.skip; simp
                        apply WP.region; simp [hl, h60, int_wrap (show i < 9223372036854775807 by omega)]
                        exact ⟨n - (i + 1), by omega, h1, h2, h7, h8, h11, h13, by rw [h14, hNc, hmx], by rw [h15, hNc]; simp [hc0], h44, h45, h46, h59, hk6, i + 1, by omega, rfl, by simp, by rw [hany], hown6⟩
              · intro hge
                have hge : ¬ i < n := by simpa using hge
                have hi' : i = n := by omega
                subst hi'
                apply WP.exit
                simp
                rw [mixW_all] at hown5
                have hC5 := hC4.write hk5 hAC
                have hkk5 : Keep [C, A] g g5 := hkk4.trans (hk5.more (by simp))
                have hsv5 : Sl g5 v (bools r) := hssk hkk5 hex x v r hvi hri
                repeat apply WP.seq
                rcases hspec with ⟨he, hNc⟩ | ⟨c, hNc, hcm, _⟩
                · rw [anyTo_none he] at h16
                  rw [hNc] at h14 h15
                  apply WP.region; simp [hl, h13, h14, h15, h16, guardA, bin_bne u4]
                  repeat apply WP.seq
                  apply WP.cond (t := false) (by simp [hl]) (by simp)
                  intro _
                  apply WP.skip; simp
                  apply WP.region; simp [hl, h46, int_wrap (show x < 9223372036854775807 by omega)]
                  exact ⟨rs.length - (x + 1), by omega, h1, h2, h7, h8, h11, h44, h45, hkk5, x + 1, by omega, rfl, by simp, N.picks, N.ages, fun a ha => by have := hokN a ha; omega, hfair', hown5, N.last, hC5⟩
                · have hcw := whoFrom_mem r 0 c hcm
                  simp only [Nat.zero_add, Nat.sub_zero] at hcw
                  rw [anyTo_some hrn hcm] at h16
                  have hmx : max (c : Int) 0 = c := by omega
                  have hc0 : (0 : Int) ≤ c := by omega
                  rw [hNc] at h14 h15
                  rw [hmx] at h14
                  simp only [hc0, decide_true] at h15
                  obtain ⟨l2, hl2, hl2', _⟩ := hsv5.at u31 s4 a4 (bools_get hcw.2.2) (k := .i64)
                  have hc1 : ¬ (c : Int) < 0 := by omega
                  have hc2 : ¬ r.length ≤ c := by omega
                  apply WP.region; simp [hl, h13, h14, h15, h16, guardA, bin_bne u4, hc1, hc2, hlv, hl2, hl2']
                  repeat apply WP.seq
                  apply WP.cond (t := false) (by simp [hl]) (by simp)
                  intro _
                  apply WP.skip; simp
                  apply WP.region; simp [hl, h46, int_wrap (show x < 9223372036854775807 by omega)]
                  exact ⟨rs.length - (x + 1), by omega, h1, h2, h7, h8, h11, h44, h45, hkk5, x + 1, by omega, rfl, by simp, N.picks, N.ages, fun a ha => by have := hokN a ha; omega, hfair', hown5, N.last, hC5⟩
            · refine ⟨by simp [hl], by simp [h1], by simp [h2], by simp [h7], by simp [h8], by simp [h11], by simp [hl], by simp [hl], by simp [hl], by simp [h44], by simp [h45], by simp [h46], by simp [hl], Keep.refl hk4.wf, 0, by omega, by omega, by simp [hl], by simp [hl, anyTo], by rw [mixW_zero]; exact hown4⟩
          · intro hge
            apply WP.exit
            simp
            repeat apply WP.seq
            apply WP.region; simp [hl]
            apply WP.ret
            simp [hl, resultsA, resultA, single]
        · refine ⟨by simp [hl], by simp [h1], by simp [h2], by simp [h7], by simp [h8], by simp [hl], by simp [hl], by simp [hl], hk2.more (by simp), 0, by omega, by omega, by simp [hl], want, [], -1, by simp, Fair.nil _ _, hown, hCX⟩
    · refine ⟨rfl, by simp [hl], by simp [h1], by simp [h2], by simp [h7], by simp [hl], by simp [hl], 0, by omega, by omega, by simp [hl], by simp [hl, maxLenTo]⟩
  obtain ⟨_, h', h1, rfl⟩ := main
  exact ⟨h', h1⟩
end
end Go.Am
