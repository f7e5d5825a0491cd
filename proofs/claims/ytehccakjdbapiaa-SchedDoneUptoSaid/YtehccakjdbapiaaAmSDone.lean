/- A part of the proof by the abstract machine: SDone. -/
import Derived.Test.YtehccakjdbapiaaAmSDoneP
set_option linter.unusedSimpArgs false
namespace Go.Am
open Go.RowKit Go.Proofs

theorem jobs0_snoc (ws : List Int) (w : Int) : rowsJ (jobs0 (ws ++ [w])) = rowsJ (jobs0 ws) ++ [[.int .i64 0, .int .i64 w]] := by simp [rowsJ, jobs0]
theorem leftK_at {ws out : List Int} {i : Nat} (h : i < ws.length) : (leftK ws out)[i]? = some (at0 (leftK ws out) i) := at0_get (by rw [leftK_length]; exact h)

theorem mixI_set {new old : List Int} {i : Nat} {b : Int} (hl : new.length = old.length) (h : new[i]? = some b) : (new.take i ++ old.drop i).set i b = new.take (i + 1) ++ old.drop (i + 1) := by
  have hi := (List.getElem?_eq_some_iff.1 h).1
  rw [List.take_add_one, h, List.drop_eq_getElem_cons (by omega), List.set_append_right _ _ (by simp; omega)]
  simp only [List.length_take, Nat.min_eq_left (Nat.le_of_lt hi), Nat.sub_self, List.set_cons_zero, Option.toList, List.append_assoc, List.cons_append, List.nil_append]
theorem leftK_le (ws : List Int) (i : Nat) : ∀ out : List Int, at0 (leftK ws out) i ≤ at0 ws i := by
  intro out
  induction out generalizing ws with
  | nil => exact Int.le_refl _
  | cons x out ih =>
    have h1 := ih (dec ws x)
    have h2 : at0 (dec ws x) i ≤ at0 ws i := by
      unfold dec
      by_cases hx : x.toNat = i
      · subst hx
        by_cases hlt : x.toNat < ws.length
        · rw [at0_set_eq hlt]; omega
        · rw [List.set_eq_of_length_le (by omega)]; omega
      · rw [at0_set_ne hx]; omega
    simp only [leftK, List.foldl_cons] at h1 ⊢
    omega
theorem wsOf_le (l : List Int) (i : Nat) : at0 (wsOf l) i ≤ 20 := by
  by_cases hi : i < (wsOf l).length
  · have := List.mem_of_getElem? (at0_get hi)
    simp only [wsOf, List.mem_map] at this
    obtain ⟨y, _, h⟩ := this
    have h2 : at0 (wsOf l) i = min y 20 := h.symm
    omega
  · have : at0 (wsOf l) i = 0 := by simp only [at0, List.getD_eq_getElem?_getD, List.getElem?_eq_none (Nat.le_of_not_lt hi)]; rfl
    omega

section
variable {ov : CallF}

set_option maxHeartbeats 4000000 in
theorem done_ok (O : OvOk ov) (Q : PlayOv ov) (o8 : ∀ a h, ov 8 a h = none) {h : Heap} (hw : Wf h) {wv pv : AV} {work picks : List Int} (hs : Sl h wv (ints work)) (hwl : work.length ≤ 2000000) (hwi : ∀ w ∈ work, -9223372036854775808 ≤ w)
    (hp : Sl h pv (ints picks)) (hpn : picks.length ≤ 2000000) (b : Int) :
    ∃ h', callT ov Try.prog 8 [wv, pv, .int .i64 b] h = some (.ret (.bool true) h') := by
  have main : ∃ u h', callT ov Try.prog 8 [wv, pv, .int .i64 b] h = some (.ret u h') ∧ u = .bool true := by
    refine callT_wp (fn := Try.f8) (Q := fun u _ => u = .bool true) (o8 _ _) (by kernel_rfl) rfl ?_
    have hl : (frameA Try.f8 [wv, pv, .int .i64 b]).length = 96 := frameA_length (Nat.le_of_ble_eq_true rfl)
    have h0 : nth (frameA Try.f8 [wv, pv, .int .i64 b]) 0 = wv := frameA_nth (Nat.le_of_ble_eq_true rfl)
    have h1 : nth (frameA Try.f8 [wv, pv, .int .i64 b]) 1 = pv := frameA_nth (Nat.le_of_ble_eq_true rfl)
    have h2 : nth (frameA Try.f8 [wv, pv, .int .i64 b]) 2 = .int .i64 b := frameA_nth (Nat.le_of_ble_eq_true rfl)
    generalize frameA Try.f8 [wv, pv, .int .i64 b] = e at hl h0 h1 h2
    have hca10 : ∀ h, callA (callT ov Try.prog) Try.prog h 10 [] = some (.ret (.bool true) h) := fun h => (callA_of (fn := Try.f10) (by kernel_rfl) rfl).trans (callT_ov _ _ (O.o10 h))
    have hca19 : ∀ args h, callA (callT ov Try.prog) Try.prog h 19 args = callT ov Try.prog 19 args h := fun args h => callA_of (fn := Try.f19) (by kernel_rfl) rfl
    have hlenw : ∀ h, lenA Try.prog h 22 wv = some (.int .i64 (work.length : Nat)) := by
      intro h; obtain ⟨l, c, rfl⟩ := hs.slice; simpa using lenA_slice (P := Try.prog) u22
    repeat apply WP.seq
    apply WP.region; simp [hl]
    repeat apply WP.seq
    apply WP.region; simp [hl, hca10]
    repeat apply WP.seq
    apply WP.cond (t := false) (by simp [hl]) (by simp)
    intro _
    apply WP.skip; simp
    repeat apply WP.seq
    have hk0 := (Keep.refl (ex := []) hw).alloc (.cells [] .own)
    have hacc0 : Accr h.next (h.alloc (.cells [] .own)) 2 (.slice (some ⟨h.next, 0⟩) 0 (.exact 0)) (rowsJ (jobs0 [])) := ⟨by simp [rowsJ, jobs0], .inl ⟨rfl, _, rfl, fun _ hx => by cases hx; exact ⟨Nat.le_refl _, rfl, _, Heap.get_alloc _ _⟩⟩⟩
    apply WP.region; simp [hl, build41]
    generalize h.alloc (.cells [] .own) = g at hk0 hacc0
    repeat apply WP.seq
    apply WP.region; simp [hl]
    repeat apply WP.seq
    apply WP.region; simp [hl, h0, hlenw]
    repeat apply WP.seq
    apply WP.block
    refine WP.loop (fun k e g' => e.length = 96 ∧ nth e 1 = pv ∧ nth e 2 = .int .i64 b ∧ nth e 20 = wv ∧ nth e 21 = .int .i64 work.length ∧ Keep [] h g' ∧ ∃ i, i ≤ work.length ∧ k = work.length - i ∧ nth e 22 = .int .i64 (i : Nat) ∧ nth e 8 = .int .i64 (sumPos (wsOf (work.take i))) ∧ Accr h.next g' 2 (nth e 7) (rowsJ (jobs0 (wsOf (work.take i))))) ?_ work.length _ _ ?_
    · rintro k e g' ⟨hl, h1, h2, h20, h21, hk, i, hi, rfl, h22, h8, hacc⟩
      repeat apply WP.seq
      apply WP.region; simp [hl, h21, h22]
      repeat apply WP.seq
      apply WP.cond (by simp [hl]; rfl)
      · intro hlt1
        have hlt1 : i < work.length := by simpa using hlt1
        apply WP.skip; simp
        repeat apply WP.seq
        apply WP.block
        repeat apply WP.seq
        have hwi' : work[i]? = some work[i] := List.getElem?_eq_getElem hlt1
        have hwlo := hwi _ (List.getElem_mem hlt1)
        generalize work[i] = w at hwi' hwlo
        have ht : work.take (i + 1) = work.take i ++ [w] := by rw [List.take_add_one, hwi']; rfl
        have hsn := wsOf_snoc (l := work.take i) (w := w)
        rw [← ht] at hsn
        have htl : (work.take i).length = i := by simp; omega
        rw [htl] at hsn
        obtain ⟨l1, hl1, hl1', _⟩ := (hs.keep hk (by simp)).at (P := Try.prog) u22 s3 a3 (ints_get hwi') (k := .i64)
        have hsb := sumPos_le (work.take i)
        have hsb1 := sumPos_le (work.take (i + 1))
        apply WP.region; simp [hl, h20, h22, hl1, hl1']
        repeat apply WP.seq
        apply WP.region; simp [hl]
        repeat apply WP.seq
        apply WP.cond (by simp [hl]; rfl)
        · intro hc
          have hc : i < 20 := by
            have : (i : Int) < 20 := by simpa using hc
            omega
          rw [if_pos hc] at hsn
          have hss := sumPos_snoc (wsOf (work.take i)) (min w 20)
          rw [← hsn] at hss
          repeat apply WP.seq
          apply WP.region; simp [hl]
          repeat apply WP.seq
          refine WP.mono (K := fun out e g2 => out = .normal ∧ g' = g2 ∧ e.length = 96 ∧ nth e 1 = pv ∧ nth e 2 = .int .i64 b ∧ nth e 20 = wv ∧ nth e 21 = .int .i64 work.length ∧ nth e 22 = .int .i64 (i : Nat) ∧ nth e 8 = .int .i64 (sumPos (wsOf (work.take i))) ∧ Accr h.next g' 2 (nth e 7) (rowsJ (jobs0 (wsOf (work.take i)))) ∧ nth e 10 = .int .i64 (min w 20)) ?_ ?_
          · apply WP.cond (by simp [hl]; rfl)
            · intro hc
              have hc : 20 < w := by simpa using hc
              have hm : min w 20 = 20 := by omega
              apply WP.region; simp [hl, h1, h2, h20, h21, h22, h8, hm, hacc]
            · intro hc
              have hc : ¬ 20 < w := by simpa using hc
              have hm : min w 20 = w := by omega
              apply WP.skip; simp [hl, h1, h2, h20, h21, h22, h8, hm, hacc]
          clear hl h1 h2 h20 h21 h22 h8 hacc
          rintro _ e _ ⟨rfl, rfl, hl, h1, h2, h20, h21, h22, h8, hacc, h10⟩
          generalize min w 20 = m at h10 hss hsn
          simp
          repeat apply WP.seq
          have hbs := build41_1 (h := g') (k := .i64) (k' := .i64) (x := 0) (y := m)
          have hk3 := hk.alloc (.cells [.int .i64 0, .int .i64 m] .own)
          have hacc3 := hacc.keep ((Keep.refl (ex := []) hk.wf).alloc (.cells [.int .i64 0, .int .i64 m] .own)) (by simp)
          have hg3 := Heap.get_alloc g' (.cells [.int .i64 0, .int .i64 m] .own)
          generalize g'.alloc (.cells [.int .i64 0, .int .i64 m] .own) = g3 at hbs hk3 hacc3 hg3
          have hwsl := wsOf_length (work.take i)
          obtain ⟨v', g4, hap, hacc4, hk4, _⟩ := hacc3.push (P := Try.prog) hk3 (Nat.le_refl _) (by have := hk3.le; omega) u41 s49 (by omega) (slr_one hg3 rfl (c := .exact 1)) (by simp [cellsOk, cellOk]) (fun _ => room49 (by rw [rowsJ_length, jobs0_length]; simp; omega))
          rw [← jobs0_snoc, ← hsn] at hacc4
          apply WP.region; simp [hl, h10, build49_1, hbs, hap]
          repeat apply WP.seq
          apply WP.region; simp [hl, h10]
          repeat apply WP.seq
          apply WP.cond (by simp [hl]; rfl)
          · intro hc
            have hc : 0 < m := by simpa using hc
            have hm : max m 0 = m := by omega
            rw [hm] at hss
            rw [hss] at hsb1
            apply WP.region; simp [hl, h8, h10, wrap_small (show -9223372036854775808 ≤ sumPos (wsOf (work.take i)) + m by omega) (by omega)]
            apply WP.region; simp [hl, h22, int_wrap (show i < 9223372036854775807 by omega)]
            exact ⟨work.length - (i + 1), by omega, h1, h2, h20, h21, hk4, i + 1, by omega, rfl, by simp, by rw [hss], hacc4⟩
          · intro hc
            have hc : ¬ 0 < m := by simpa using hc
            have hm : max m 0 = 0 := by omega
            rw [hm, Int.add_zero] at hss
            apply WP.skip; simp
            apply WP.region; simp [hl, h22, int_wrap (show i < 9223372036854775807 by omega)]
            exact ⟨work.length - (i + 1), by omega, h1, h2, h20, h21, hk4, i + 1, by omega, rfl, by simp, by rw [hss]; exact h8, hacc4⟩
        · intro hc
          have hc : ¬ i < 20 := by
            have : ¬ (i : Int) < 20 := by simpa using hc
            omega
          rw [if_neg hc] at hsn
          rw [← hsn] at hacc h8
          apply WP.skip; simp
          apply WP.region; simp [hl, h22, int_wrap (show i < 9223372036854775807 by omega)]
          exact ⟨work.length - (i + 1), by omega, h1, h2, h20, h21, hk, i + 1, by omega, rfl, by simp, h8, hacc⟩
      · intro hge
        have hge : ¬ i < work.length := by simpa using hge
        apply WP.exit
        simp
        have hi' : work.take i = work := List.take_of_length_le (by omega)
        rw [hi'] at hacc h8
        obtain ⟨hpl, hpk⟩ := play_done (ws := wsOf work) (picks := picks) (b := b) (n := 1000) (by have := sumPos_le work; omega)
        have hol := playOut_len (jobs0 (wsOf work)) picks b 1000
        have hwsl := wsOf_length work
        have hwsle := wsOf_le work
        have hsb := sumPos_le work
        have hjv := hacc.slr
        generalize hJ : nth e 7 = jv at hacc hjv
        generalize hwsd : wsOf work = ws at *
        have hjl : (jobs0 ws).length = ws.length := jobs0_length ws
        repeat apply WP.seq
        obtain ⟨v1, g5, B1, hap, hown1, _, hk5⟩ := (hp.keep hk (by simp)).clone (P := Try.prog) hk.wf u22 s3 (fun _ => room3 (by simp; omega)) ints_ok
        obtain ⟨gv, g6, hplay, hgs, _, hk6⟩ := splay_ok O Q.o19 Q.o21 Q.o22 Q.o23 Q.o24 Q.o46 Q.o47 hk5.wf (hjv.keep' hk5 (by simp)) (by omega) hown1.sl (by omega) b 1000 (by omega) (by omega) (by omega)
        have hjv6 : Slr g6 2 jv (rowsJ (jobs0 ws)) := (hjv.keep' hk5 (by simp)).keep' hk6 (by simp)
        have hpl : ((playOut (jobs0 ws) picks b 1000).length : Int) = sumPos ws := hpl
        have hpk : ∀ (k : Nat) (x : Int), (playOut (jobs0 ws) picks b 1000)[k]? = some x → ∃ a : Nat, x = a ∧ a < ws.length ∧ 1 ≤ at0 (leftK ws ((playOut (jobs0 ws) picks b 1000).take k)) a := hpk
        generalize playOut (jobs0 ws) picks b 1000 = F at *
        have hleng : ∀ g, lenA Try.prog g 22 gv = some (.int .i64 (F.length : Nat)) := by
          intro g; obtain ⟨l, c, rfl⟩ := hgs.slice; simpa using lenA_slice (P := Try.prog) u22
        have hlenj : ∀ g, lenA Try.prog g 41 jv = some (.int .i64 (ws.length : Nat)) := fun g => by simpa [rowsJ_length, hjl] using hjv6.len (P := Try.prog) g u41
        apply WP.region; simp [hl, hJ, h1, h2, build22, hap, hca19, hplay]
        repeat apply WP.seq
        apply WP.region; simp [hl, h8, hleng, hpl]
        repeat apply WP.seq
        apply WP.cond (t := false) (by simp [hl]) (by simp)
        intro _
        apply WP.skip; simp
        repeat apply WP.seq
        have hmk : makeSliceA Try.prog g6 22 (.int .i64 (ws.length : Nat)) (.int .i64 (ws.length : Nat)) = _ := make22 (by omega)
        have hk7 := (Keep.refl (ex := []) hk6.wf).alloc (.cells (List.replicate ws.length (.int .i64 0)) .own)
        have hg7 := Heap.get_alloc g6 (.cells (List.replicate ws.length (.int .i64 0)) .own)
        generalize g6.alloc (.cells (List.replicate ws.length (.int .i64 0)) .own) = g7 at hmk hk7 hg7
        have hown7 : Own g7 (.slice (some ⟨g6.next, 0⟩) ws.length (.exact ws.length)) g6.next (ints (List.replicate ws.length 0)) := ⟨.exact ws.length, ⟨by simp, by simp [capOk]⟩, by rw [hg7]; simp [ints]⟩
        have hlenl : ∀ g, lenA Try.prog g 22 (.slice (some ⟨g6.next, 0⟩) ws.length (.exact ws.length)) = some (.int .i64 (ws.length : Nat)) := fun g => lenA_slice u22
        generalize AV.slice (some ⟨g6.next, 0⟩) ws.length (.exact ws.length) = lv at hmk hown7 hlenl
        have hKn : g6.next ≤ g6.next := Nat.le_refl _
        obtain ⟨K, hKd⟩ : ∃ K, K = g6.next := ⟨_, rfl⟩
        rw [← hKd] at hown7
        obtain ⟨zs, hz⟩ : ∃ zs, zs = List.replicate ws.length (0 : Int) := ⟨_, rfl⟩
        rw [← hz] at hown7
        have hzl : zs.length = ws.length := by rw [hz]; simp
        clear hz
        have hjx : ∀ {g : Heap}, Keep [K] g7 g → Slr g 2 jv (rowsJ (jobs0 ws)) := fun hkk => (hjv6.keep' hk7 (by simp)).keep' hkk (fun hne j hj hm => by
          have := hjv6.lt hk6.wf hne hj
          simp only [List.mem_singleton] at hm
          omega)
        have hgx : ∀ {g : Heap}, Keep [K] g7 g → Sl g gv (ints F) := fun hkk => (hgs.keep hk7 (by simp)).keep' hkk (fun hne j hj hm => by
          have := hgs.lt hk6.wf hne hj
          simp only [List.mem_singleton] at hm
          omega)
        apply WP.region; simp [hl, hJ, hlenj, hmk]
        repeat apply WP.seq
        apply WP.region; simp [hl, hJ, hlenj]
        repeat apply WP.seq
        apply WP.block
        refine WP.loop (fun k e g' => e.length = 96 ∧ nth e 11 = gv ∧ nth e 12 = lv ∧ nth e 55 = jv ∧ nth e 56 = .int .i64 ws.length ∧ Keep [K] g7 g' ∧ ∃ i, i ≤ ws.length ∧ k = ws.length - i ∧ nth e 57 = .int .i64 (i : Nat) ∧ Own g' lv K (ints (ws.take i ++ zs.drop i))) ?_ ws.length _ _ ?_
        · rintro k e g' ⟨hl, h11, h12, h55, h56, hkk, i, hi, rfl, h57, hown⟩
          repeat apply WP.seq
          apply WP.region; simp [hl, h56, h57]
          repeat apply WP.seq
          apply WP.cond (by simp [hl]; rfl)
          · intro hlt1
            have hlt1 : i < ws.length := by simpa using hlt1
            apply WP.skip; simp
            repeat apply WP.seq
            apply WP.block
            repeat apply WP.seq
            have hwi' : ws[i]? = some ws[i] := List.getElem?_eq_getElem hlt1
            generalize ws[i] = w at hwi'
            obtain ⟨l1, hl1, hl1', _⟩ := (hjx hkk).at (P := Try.prog) u41 s49 a49 (rowsJ_get (jobs0_get hwi')) (k := .i64)
            obtain ⟨B, ga, g8, hal, hst8, hk8, hg8, hB, hB', _⟩ := fresh49 hkk.wf 0 w
            have hown8 := hown.keep hk8 (by simp)
            have hld8 : loadA Try.prog g8 3 ⟨B, 1⟩ = some (.int .i64 w) := load_cell a3 hg8 rfl
            have hml : (ws.take i ++ zs.drop i).length = ws.length := by simp; omega
            have hmi := mixI_set (old := zs) hzl.symm hwi'
            have hka := hown8.addr (P := Try.prog) u22 s3 (i := i) (by rw [ints_length, hml]; exact hlt1) (k := .i64)
            obtain ⟨hst9, hown9⟩ := hown8.store (P := Try.prog) s3 (i := i) (by rw [ints_length, hml]; exact hlt1) (x := .int .i64 w) rfl rfl
            rw [ints_set, hmi] at hst9 hown9
            have hK8 := hk8.wf _ _ hown8.choose_spec.2
            have hkk9 := (hkk.trans (hk8.more (by simp))).set (i := K) (.cells (ints (ws.take (i + 1) ++ zs.drop (i + 1))) .own) hK8 (.inl (by simp))
            apply WP.region; simp [hl, h55, h57, hl1, hl1', hal, storeR_ptr hst8]
            apply WP.region; simp [hl, h12, h57, fa49, hld8, hka, storeR_ptr hst9]
            apply WP.region; simp [hl, h57, int_wrap (show i < 9223372036854775807 by omega)]
            exact ⟨ws.length - (i + 1), by omega, h11, h12, h55, h56, hkk9, i + 1, by omega, rfl, by simp, hown9⟩
          · intro hge
            have hge : ¬ i < ws.length := by simpa using hge
            apply WP.exit
            simp
            have hmi : ws.take i ++ zs.drop i = leftK ws (F.take 0) := by
              rw [List.take_of_length_le (by omega), List.drop_eq_nil_of_le (by omega), List.append_nil]; rfl
            rw [hmi] at hown
            repeat apply WP.seq
            apply WP.region; simp [hl, h11, hleng]
            repeat apply WP.seq
            apply WP.block
            refine WP.loop (fun k e g2 => e.length = 96 ∧ nth e 12 = lv ∧ nth e 68 = gv ∧ nth e 69 = .int .i64 F.length ∧ Keep [K] g7 g2 ∧ ∃ i, i ≤ F.length ∧ k = F.length - i ∧ nth e 70 = .int .i64 (i : Nat) ∧ Own g2 lv K (ints (leftK ws (F.take i)))) ?_ F.length _ _ ?_
            · clear hl h11 h12 h55 h56 h57 hkk hown
              rintro k e g2 ⟨hl, h12, h68, h69, hkk, i, hi, rfl, h70, hown⟩
              repeat apply WP.seq
              apply WP.region; simp [hl, h69, h70]
              repeat apply WP.seq
              apply WP.cond (by simp [hl]; rfl)
              · intro hlt2
                have hlt2 : i < F.length := by simpa using hlt2
                apply WP.skip; simp
                repeat apply WP.seq
                apply WP.block
                repeat apply WP.seq
                have hfi : F[i]? = some F[i] := List.getElem?_eq_getElem hlt2
                generalize F[i] = x at hfi
                obtain ⟨a, rfl, ha, hpos⟩ := hpk i x hfi
                have ht : F.take (i + 1) = F.take i ++ [(a : Int)] := by rw [List.take_add_one, hfi]; rfl
                have hup := leftK_le ws a (F.take i)
                have hw20 := hwsle a
                have hll := leftK_length ws (F.take i)
                have hat := leftK_at (out := F.take i) ha
                have hset : (leftK ws (F.take i)).set a (at0 (leftK ws (F.take i)) a - 1) = leftK ws (F.take (i + 1)) := by rw [ht, leftK_snoc]; simp only [dec, Int.toNat_natCast]
                obtain ⟨l1, hl1, hl1', _⟩ := (hgx hkk).at (P := Try.prog) u22 s3 a3 (ints_get hfi) (k := .i64)
                have hka := hown.addr (P := Try.prog) u22 s3 (i := a) (by rw [ints_length, hll]; exact ha) (k := .i64)
                have hkl := hown.load (P := Try.prog) a3 (ints_get hat)
                obtain ⟨hst9, hown9⟩ := hown.store (P := Try.prog) s3 (i := a) (by rw [ints_length, hll]; exact ha) (x := .int .i64 (at0 (leftK ws (F.take i)) a - 1)) rfl rfl
                rw [ints_set, hset] at hst9 hown9
                have hK8 := hkk.wf _ _ hown.choose_spec.2
                have hkk9 := hkk.set (i := K) (.cells (ints (leftK ws (F.take (i + 1)))) .own) hK8 (.inl (by simp))
                generalize at0 (leftK ws (F.take i)) a = y at *
                have hc1 : ¬ (a : Int) < 0 := by omega
                have hc2 : ¬ (ws.length : Int) ≤ a := by omega
                have hc2' : ¬ ws.length ≤ a := by omega
                have hc3 : ¬ y < 1 := by omega
                apply WP.region; simp [hl, h68, h70, hl1, hl1']
                repeat apply WP.seq
                apply WP.region; simp [hl, h12, guardA, hlenl, hka, hkl, hc1, hc2, hc2', hc3]
                repeat apply WP.seq
                apply WP.cond (t := false) (by simp [hl]) (by simp)
                intro _
                apply WP.skip; simp
                apply WP.region; simp [hl, h12, hka, hkl, wrap_small (show -9223372036854775808 ≤ y - 1 by omega) (by omega), storeR_ptr hst9]
                apply WP.region; simp [hl, h70, int_wrap (show i < 9223372036854775807 by omega)]
                exact ⟨F.length - (i + 1), by omega, h12, h68, h69, hkk9, i + 1, by omega, rfl, by simp, hown9⟩
              · intro hge
                apply WP.exit
                simp
                repeat apply WP.seq
                apply WP.region; simp [hl]
                apply WP.ret
                simp [hl, resultsA, resultA, single]
            · exact ⟨by simp [hl], by simp [hl, h12], by simp [hl], by simp [hl], hkk, 0, by omega, by omega, by simp [hl], hown⟩
        · refine ⟨by simp [hl], by simp [hl], by simp [hl], by simp [hl], by simp [hl], Keep.refl hk7.wf, 0, by omega, by omega, by simp [hl], by simpa using hown7⟩
    · refine ⟨by simp [hl], by simp [hl, h1], by simp [hl, h2], by simp [hl], by simp [hl], hk0, 0, by omega, by omega, by simp [hl], by simp [hl, wsOf, sumPos, sumI], by simpa [hl, wsOf] using hacc0⟩
  obtain ⟨_, h', h1, rfl⟩ := main
  exact ⟨h', h1⟩
end
end Go.Am
