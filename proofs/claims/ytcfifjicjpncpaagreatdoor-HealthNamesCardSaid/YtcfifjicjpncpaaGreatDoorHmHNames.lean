/- The health seat: the law HealthNames, healthAlive known to answer true. -/
import Derived.Test.YtcfifjicjpncpaaGreatDoorHmHTabs
import Derived.Test.YtcfifjicjpncpaaGreatDoorHmGRHWorst36
set_option linter.all false
set_option linter.unusedSimpArgs false
noncomputable section
namespace Go.Am
open Go.RowKit Go.Proofs

def names3 : List AV := [sN, sS, sC]
/-- The names whose bit is set, among the first j. -/
def picks (k : Int) (j : Nat) : List AV := (((bits k).zip names3).take j).filterMap fun x => if x.1 then some x.2 else none
theorem bits_len (k : Int) : (bits k).length = 3 := by
  unfold bits
  split; · rfl
  split; · rfl
  split; · rfl
  split <;> rfl
theorem want_picks (k : Int) : picks k 3 = want k := by
  unfold picks want bits
  split; · rfl
  split; · rfl
  split; · rfl
  split <;> rfl
theorem picks_next {k : Int} {j : Nat} {b : Bool} {s : AV} (hb : (bits k)[j]? = some b) (hs : names3[j]? = some s) : picks k (j + 1) = picks k j ++ (if b then [s] else []) := by
  unfold picks
  have hz : ((bits k).zip names3)[j]? = some (b, s) := by rw [List.getElem?_zip_eq_some]; exact ⟨hb, hs⟩
  rw [List.take_add_one, hz, List.filterMap_append]
  cases b <;> rfl
theorem picks_len (k : Int) (j : Nat) : (picks k j).length ≤ 3 := by
  unfold picks
  refine Nat.le_trans (List.length_filterMap_le _ _) ?_
  rw [List.length_take, List.length_zip, bits_len]
  exact Nat.le_trans (Nat.min_le_right _ _) (Nat.min_le_left _ _)
theorem want_le (k : Int) : (want k).length ≤ 3 := by rw [← want_picks]; exact picks_len _ _
theorem want_out {k : Int} (h : k < 1 ∨ 6 < k) : want k = [] := by
  unfold want
  rw [if_neg (by omega), if_neg (by omega), if_neg (by omega), if_neg (by omega)]
theorem name_at {j : Nat} (h : j < 3) : ∃ s, names3[j]? = some (.str s) := by
  match j, h with
  | 0, _ => exact ⟨_, rfl⟩
  | 1, _ => exact ⟨_, rfl⟩
  | 2, _ => exact ⟨_, rfl⟩
theorem want_at {k : Int} {j : Nat} (h : j < (want k).length) : ∃ s, (want k)[j]? = some (.str s) := by
  have hm : ∀ x ∈ want k, ∃ s, x = AV.str s := by
    intro x hx
    unfold want at hx
    split at hx
    · simp at hx; exact ⟨_, hx⟩
    · split at hx
      · simp at hx; exact ⟨_, hx⟩
      · split at hx
        · simp at hx; exact ⟨_, hx⟩
        · split at hx
          · simp at hx; rcases hx with h | h | h <;> exact ⟨_, h⟩
          · simp at hx
  obtain ⟨s, hs⟩ := hm _ (List.getElem_mem h)
  exact ⟨s, by rw [List.getElem?_eq_getElem h, hs]⟩
theorem idx28_0 {a b c : Bool} : indexA Tryz.prog 28 (.agg [.bool a, .bool b, .bool c]) (.int .i64 (0 : Nat)) = some (.bool a) := by kernel_rfl
theorem idx28_1 {a b c : Bool} : indexA Tryz.prog 28 (.agg [.bool a, .bool b, .bool c]) (.int .i64 (1 : Nat)) = some (.bool b) := by kernel_rfl
theorem idx28_2 {a b c : Bool} : indexA Tryz.prog 28 (.agg [.bool a, .bool b, .bool c]) (.int .i64 (2 : Nat)) = some (.bool c) := by kernel_rfl
theorem adr26_0 {p : Nat} : indexAddrA Tryz.prog 26 (.ptr (some ⟨p, 0⟩)) (.int .i64 (0 : Nat)) = some (.ptr (some ⟨p, 0⟩)) := by kernel_rfl
theorem adr26_1 {p : Nat} : indexAddrA Tryz.prog 26 (.ptr (some ⟨p, 0⟩)) (.int .i64 (1 : Nat)) = some (.ptr (some ⟨p, 1⟩)) := by kernel_rfl
theorem adr26_2 {p : Nat} : indexAddrA Tryz.prog 26 (.ptr (some ⟨p, 0⟩)) (.int .i64 (2 : Nat)) = some (.ptr (some ⟨p, 2⟩)) := by kernel_rfl
theorem idx28 {k : Int} {j : Nat} {b : Bool} (hb : (bits k)[j]? = some b) : indexA Tryz.prog 28 (.agg (bitsA k)) (.int .i64 (j : Nat)) = some (.bool b) := by
  have h3 := bits_len k
  have hj := (List.getElem?_eq_some_iff.1 hb).1
  unfold bitsA
  match hbs : bits k, h3 with
  | [b0, b1, b2], _ =>
    rw [hbs] at hb
    match j, hb with
    | 0, hb => cases hb; exact idx28_0
    | 1, hb => cases hb; exact idx28_1
    | 2, hb => cases hb; exact idx28_2
theorem adr26 {p j : Nat} (h : j < 3) : indexAddrA Tryz.prog 26 (.ptr (some ⟨p, 0⟩)) (.int .i64 (j : Nat)) = some (.ptr (some ⟨p, j⟩)) := by
  match j, h with
  | 0, _ => exact adr26_0
  | 1, _ => exact adr26_1
  | 2, _ => exact adr26_2
theorem build26 : buildA Tryz.prog 26 [(0, sN), (1, sS), (2, sC)] = some (.agg names3) := by kernel_rfl
theorem room9 {n : Nat} (h : n ≤ 100) : roomA Tryz.prog 9 n = true := by
  have h1 : roomA Tryz.prog 9 n = (Nat.ble (n * 16) 140737488355328 && Nat.ble n 9223372036854775807 && true && true) := by kernel_rfl
  rw [h1, (ble_iff _ _).2 (by omega), (ble_iff _ _).2 (by omega)]; rfl
theorem blt8 : Nat.blt 8 Tryz.prog.funcs.size = true := by kernel_rfl
theorem blt9 : Nat.blt 9 Tryz.prog.funcs.size = true := by kernel_rfl

theorem Fresh.len {h g : Heap} {v : AV} {xs : List AV} (hf : Fresh h g v xs) (g' : Heap) : lenA Tryz.prog g' 27 v = some (.int .i64 xs.length) := by
  obtain ⟨i, c, _, ⟨rfl, rfl⟩ | ⟨_, rfl, _⟩⟩ := hf
  · exact lenA_slice u27
  · exact lenA_slice u27

section
variable {ov : CallF}
theorem names_law (h5 : ∀ h, h.get 0 = some kindsO → ov 5 [] h = some (.ret (.bool true) h)) (h4 : ∀ a h, ov 4 a h = none) (h8 : ∀ a h, ov 8 a h = none) (h9 : ∀ a h, ov 9 a h = none) {h : Heap} (hw : Wf h) (hk0 : h.get 0 = some kindsO) (kind : Int) :
    ∃ h', callT ov Tryz.prog 4 [.int .i64 kind] h = some (.ret (.bool true) h') := by
  have main : ∃ u g, callT ov Tryz.prog 4 [.int .i64 kind] h = some (.ret u g) ∧ u = .bool true := by
    refine callT_wp (fn := Tryz.f4) (h4 _ _) (by kernel_rfl) rfl ?_
    have hl : (frameA Tryz.f4 [.int .i64 kind]).length = 98 := frameA_length (Nat.le_of_ble_eq_true rfl)
    have h0 : nth (frameA Tryz.f4 [.int .i64 kind]) 0 = .int .i64 kind := frameA_nth (Nat.le_of_ble_eq_true rfl)
    generalize frameA Tryz.f4 [.int .i64 kind] = e at hl h0
    have c5 : callT ov Tryz.prog 5 [] h = some (.ret (.bool true) h) := callT_ov _ _ (h5 h hk0)
    have hg0 : (h.alloc (.cells [.str [], .str [], .str []] (.var 26))).get h.next = some (.cells [.str [], .str [], .str []] (.var 26)) := Heap.get_alloc _ _
    have st : storeA Tryz.prog (h.alloc (.cells [.str [], .str [], .str []] (.var 26))) 26 ⟨h.next, 0⟩ (.agg names3) = some ((h.alloc (.cells [.str [], .str [], .str []] (.var 26))).set h.next (.cells names3 (.var 26))) := store_agg sz26 hg0 (by simp) rfl rfl (by simp [cellsOk, cellOk, names3, sN, sS, sC])
    have hK1 : Keep [] h ((h.alloc (.cells [.str [], .str [], .str []] (.var 26))).set h.next (.cells names3 (.var 26))) := ((Keep.refl (ex := []) hw).alloc _).set _ (by simp [Heap.next_alloc]) (.inr (Nat.le_refl _))
    have hG1 : ((h.alloc (.cells [.str [], .str [], .str []] (.var 26))).set h.next (.cells names3 (.var 26))).get h.next = some (.cells names3 (.var 26)) := Heap.get_set _ _ _
    have b26 : buildA Tryz.prog 26 [(0, .str [110, 111, 100, 101, 115]), (1, .str [115, 101, 114, 118, 105, 99, 101, 115]), (2, .str [99, 104, 101, 99, 107, 115])] = some (.agg names3) := build26
    repeat apply WP.seq
    apply WP.region; simp [hl]
    repeat apply WP.seq
    apply WP.region; simp [hl, c5, callA_eq, blt5]
    repeat apply WP.seq
    apply WP.cond (by simp [hl]; rfl)
    · intro hh; simp at hh
    intro _
    apply WP.skip; simp
    repeat apply WP.seq
    apply WP.region; simp [hl, b26, alloc26, storeR_ptr st]
    repeat apply WP.seq
    apply WP.region; simp [hl]
    repeat apply WP.seq
    apply WP.block
    generalize ((h.alloc (.cells [.str [], .str [], .str []] (.var 26))).set h.next (.cells names3 (.var 26))) = b at hK1 hG1
    generalize h.next = p at hG1 ⊢
    have hwb := hK1.wf
    have hpb : p < b.next := hwb _ _ hG1
    refine WP.loop (fun n e g => Keep [] b g ∧ e.length = 98 ∧ nth e 0 = .int .i64 kind ∧ nth e 3 = .ptr (some ⟨p, 0⟩) ∧ ∃ k : Nat, k ≤ 9 ∧ n = 9 - k ∧ nth e 4 = .int .i64 (k : Nat)) ?_ 9 _ _ ?_
    · rintro n e g ⟨hk, hl, h0, h3, k, hk9, rfl, h4⟩
      repeat apply WP.seq
      apply WP.region; simp [hl, h4]
      repeat apply WP.seq
      apply WP.cond (by simp [hl]; rfl)
      · intro hc
        have hc : (k : Int) ≤ 8 := by simpa using hc
        apply WP.skip; simp
        repeat apply WP.seq
        apply WP.block
        repeat apply WP.seq
        apply WP.region; simp [hl, build27_0]
        have hka := hk.alloc (.cells [] (.own (some 9)))
        obtain ⟨g2, hc8, hk2⟩ := bits_ok h8 hka.wf k
        have hA : Acc b.next 9 g2 (.slice (some ⟨g.next, 0⟩) 0 (.exact 0)) (picks k 0) := Acc.empty hk.le (hk2.get _ _ (Heap.get_alloc _ _) (by simp))
        repeat apply WP.seq
        apply WP.region; simp [hl, h4, callA_eq, blt8, hc8]
        repeat apply WP.seq
        apply WP.block
        refine WP.loop (fun n e g => Keep [] b g ∧ e.length = 98 ∧ nth e 0 = .int .i64 kind ∧ nth e 3 = .ptr (some ⟨p, 0⟩) ∧ nth e 4 = .int .i64 (k : Nat) ∧ nth e 31 = .agg (bitsA k) ∧ ∃ j : Nat, j ≤ 3 ∧ n = 3 - j ∧ nth e 32 = .int .i64 (j : Nat) ∧ ∃ v, nth e 5 = v ∧ Acc b.next 9 g v (picks k j)) ?_ 3 _ _ ?_
        · clear hA hc8 hk2 g2 hka h4 h3 h0 hl hk
          clear e g
          rintro n e g ⟨hk, hl, h0, h3, h4, h31, j, hj3, rfl, h32, v, hv, hA⟩
          repeat apply WP.seq
          apply WP.region; simp [hl, h32]
          repeat apply WP.seq
          apply WP.cond (by simp [hl]; rfl)
          · intro hc
            have hj : j < 3 := by have : (j : Int) < 3 := by simpa using hc
                                  omega
            obtain ⟨bt, hbt⟩ : ∃ bt, (bits k)[j]? = some bt := ⟨_, List.getElem?_eq_getElem (by rw [bits_len]; exact hj)⟩
            obtain ⟨s, hs⟩ := name_at hj
            have hld : loadA Tryz.prog g 9 ⟨p, j⟩ = some (.str s) := load_cell ag9 (hk.get _ _ hG1 (by simp)) hs
            have hnx := picks_next hbt hs
            apply WP.skip; simp
            repeat apply WP.seq
            apply WP.block
            repeat apply WP.seq
            apply WP.region; simp [hl, h31, h32, idx28 hbt]
            repeat apply WP.seq
            apply WP.region; simp [hl]
            apply WP.cond (by simp [hl]; rfl)
            · intro hb
              subst hb
              have hka := hk.alloc (.cells [.str s] (.own (some 9)))
              have hy : Sl (g.alloc (.cells [.str s] (.own (some 9)))) (.slice (some ⟨g.next, 0⟩) 1 (.exact 1)) [.str s] := ⟨⟨rfl, Nat.le_refl _⟩, .inr ⟨_, _, Heap.get_alloc _ _, by simp, by simp⟩⟩
              obtain ⟨v', g', ha, hA', hk', _⟩ := Acc.push (P := Tryz.prog) (t := 27) (hA.keep ((Keep.refl (ex := []) hk.wf).alloc _) (by simp)) hka (Nat.le_refl _) hka.le u27 sz9 (room9 (by have := picks_len k j; omega)) hy (by simp [cellOk])
              have ha' := appA_of ha
              apply WP.region; simp [hl, hv, h3, adr26 hj, hld, build27_1, ha']
              repeat apply WP.seq
              apply WP.region; simp [hl, h32, int_wrap (show j < 9223372036854775807 by omega)]
              refine ⟨3 - (j + 1), by omega, hk', h0, h3, h4, h31, j + 1, by omega, rfl, by simp, ?_⟩
              rw [hnx]; exact hA'
            · intro hb
              subst hb
              apply WP.skip; simp
              repeat apply WP.seq
              apply WP.region; simp [hl, h32, int_wrap (show j < 9223372036854775807 by omega)]
              refine ⟨3 - (j + 1), by omega, hk, h0, h3, h4, h31, j + 1, by omega, rfl, by simp, ?_⟩
              rw [hnx, hv]; simpa using hA
          · intro hc
            have hj : j = 3 := by have : ¬ (j : Int) < 3 := by simpa using hc
                                  omega
            subst hj
            rw [want_picks] at hA
            apply WP.exit; simp
            repeat apply WP.seq
            obtain ⟨v9, g9, hc9, hk9', hF⟩ := tabs_ok h9 hk.wf (k : Int)
            apply WP.region; simp [hl, h4, callA_eq, blt9, hc9]
            repeat apply WP.seq
            have hsl : Sl g9 v (want k) := hA.sl.keep' hk9' (by simp)
            have hlen9 := hF.len
            apply WP.region; simp [hl, hv, hlen9, hsl.len (P := Tryz.prog) u27]
            apply WP.cond (by simp [hl]; rfl)
            · intro hh; simp at hh
            intro _
            apply WP.skip; simp
            repeat apply WP.seq
            apply WP.region; simp [hl, hlen9]
            repeat apply WP.seq
            apply WP.block
            obtain ⟨i9, c9, hi9, hcase⟩ := hF
            have hv9 : ∀ j, j < (want k).length → v9 = .slice (some ⟨i9, 0⟩) (want k).length c9 ∧ g9.get i9 = some (.cells (want k) (.own (some 9))) := by
              intro j hj
              rcases hcase with ⟨hn, _⟩ | ⟨_, h1, h2⟩
              · rw [hn] at hj; simp at hj
              · exact ⟨h1, h2⟩
            have hne : want k ≠ [] → ∀ i, idOf v = some i → i ∉ [i9] := by
              intro hn i hi hm
              have := hA.sl.lt hk.wf hn hi
              simp at hm
              omega
            refine WP.loop (fun n e g' => Keep [i9] g9 g' ∧ e.length = 98 ∧ nth e 0 = .int .i64 kind ∧ nth e 3 = .ptr (some ⟨p, 0⟩) ∧ nth e 4 = .int .i64 (k : Nat) ∧ nth e 5 = v ∧ nth e 8 = v9 ∧ nth e 52 = .int .i64 (want k).length ∧ ∃ j : Nat, j ≤ (want k).length ∧ n = (want k).length - j ∧ nth e 53 = .int .i64 (j : Nat) ∧ (j < (want k).length → ∃ cs, g'.get i9 = some (.cells cs (.own (some 9))) ∧ cs.length = (want k).length ∧ ∀ t, j ≤ t → cs[t]? = (want k)[t]?)) ?_ (want k).length _ _ ?_
            · clear hcase hlen9 hc9 h32 h31 h4 h3 h0 hv hl
              clear e
              rintro n e g' ⟨hk', hl, h0, h3, h4, h5', h8', h52, j, hjl, rfl, h53, hcs⟩
              repeat apply WP.seq
              apply WP.region; simp [hl, h52, h53]
              repeat apply WP.seq
              apply WP.cond (by simp [hl]; rfl)
              · intro hc
                have hj : j < (want k).length := by simpa using hc
                obtain ⟨cs, hgc, hcl, hct⟩ := hcs hj
                obtain ⟨hve, _⟩ := hv9 j hj
                obtain ⟨s, hs⟩ := want_at hj
                have hw3 := want_le k
                have hix : indexAddrA Tryz.prog 27 v9 (.int .i64 (j : Nat)) = some (.ptr (some ⟨i9, 0 + j * 1⟩)) := by rw [hve]; exact index_at u27 sz9 hj
                have hld : loadA Tryz.prog g' 9 ⟨i9, 0 + j * 1⟩ = some (.str s) := load_cell ag9 hgc (by rw [Nat.zero_add, Nat.mul_one, hct j (Nat.le_refl _), hs])
                obtain ⟨l5, hix5, hld5, _⟩ := (hsl.keep' hk' hne).at (P := Tryz.prog) u27 sz9 ag9 hs (k := .i64)
                have hst : storeA Tryz.prog g' 9 ⟨i9, 0 + j * 1⟩ (.str [109, 97, 114, 107]) = some (g'.set i9 (.cells (cs.set (0 + j * 1) (.str [109, 97, 114, 107])) (.own (some 9)))) := store_cell sz9 rfl (by simp [cellOk]) hgc (by simp) (by omega)
                simp only [Nat.zero_add, Nat.mul_one] at hix hld hst
                have hsn : ∀ {xo yo : Operand}, binA Tryz.prog g' .neq 9 xo yo (.str s) (.str s) = some (.bool false) := by intro xo yo; simp [binA, strA]
                apply WP.skip; simp
                repeat apply WP.seq
                apply WP.block
                repeat apply WP.seq
                apply WP.region; simp [hl, h53]
                repeat apply WP.seq
                apply WP.draw (by kernel_rfl) (by kernel_rfl); simp [hl, h5', h8', hix, hld, hix5, hld5, hsn]
                apply WP.cond (by simp [hl]; rfl)
                · intro hh; simp at hh
                intro _
                apply WP.skip; simp
                repeat apply WP.seq
                apply WP.region; simp [hl, h5', h8', hix, storeR_ptr hst]
                repeat apply WP.seq
                apply WP.region; simp [hl, h53, int_wrap (show j < 9223372036854775807 by omega)]
                refine ⟨(want k).length - (j + 1), by omega, hk'.set _ (hk'.wf _ _ hgc) (.inl (by simp)), h0, h3, h4, h5', h8', h52, j + 1, by omega, rfl, by simp, fun _ => ⟨_, Heap.get_set _ _ _, by simpa using hcl, ?_⟩⟩
                intro t ht
                rw [List.getElem?_set_ne (by omega)]
                exact hct t (by omega)
              · intro hc
                apply WP.exit; simp
                repeat apply WP.seq
                apply WP.region; simp [hl, h4, int_wrap (show k < 9223372036854775807 by omega)]
                have hb1 := hk.le
                refine ⟨9 - (k + 1), by omega, ?_, h0, h3, k + 1, by omega, rfl, by simp⟩
                exact (((hk.trans hk9').more (ex' := [i9]) (by simp)).trans hk').more (ex' := []) (by intro i hi; simp at hi; subst hi; exact .inr (by omega))
            · refine ⟨Keep.refl hk9'.wf, by simp [hl], by simp [hl, h0], by simp [hl, h3], by simp [hl, h4], by simp [hl, hv], by simp [hl], by simp [hl], 0, by omega, by omega, by simp [hl], fun hj => ⟨_, (hv9 0 hj).2, rfl, fun _ _ => rfl⟩⟩
        · refine ⟨hka.trans hk2, by simp [hl], by simp [hl, h0], by simp [hl, h3], by simp [hl, h4], by simp [hl], 0, by omega, by omega, by simp [hl], _, by simp [hl], hA⟩
      · intro hc
        apply WP.exit; simp
        repeat apply WP.seq
        have hsq : ∀ {g' : Heap} {s : List UInt8} {xo yo : Operand}, binA Tryz.prog g' .eql 9 xo yo (.str s) (.str s) = some (.bool true) := by intro g' s xo yo; simp [binA, strA]
        obtain ⟨v1, g1, k1, q1, f1⟩ := tabs_ok h9 hk.wf 1
        obtain ⟨v2, g2, k2, q2, f2⟩ := tabs_ok h9 q1.wf 1
        obtain ⟨v3, g3, k3, q3, f3⟩ := tabs_ok h9 q2.wf kind
        obtain ⟨v4, g4, k4, q4, f4⟩ := tabs_ok h9 q3.wf kind
        have l1 := f1.len
        have l3 := f3.len
        have l4 := f4.len
        have w1 : want 1 = [sN] := rfl
        have w3 := want_le kind
        have w3' : ((want kind).length : Int) ≤ 3 := by omega
        rw [w1] at f2
        obtain ⟨i2, c2, _, ⟨hh, _⟩ | ⟨_, rfl, hg2⟩⟩ := f2
        · cases hh
        have hix : indexAddrA Tryz.prog 27 (.slice (some ⟨i2, 0⟩) 1 c2) (.int .i64 0) = some (.ptr (some ⟨i2, 0⟩)) := index_at (i := 0) u27 sz9 (by decide)
        have hld : loadA Tryz.prog g2 9 ⟨i2, 0⟩ = some sN := load_cell ag9 hg2 rfl
        have hld : loadA Tryz.prog g2 9 ⟨i2, 0⟩ = some (.str [110, 111, 100, 101, 115]) := hld
        rw [w1] at l1
        have l1 : ∀ g', lenA Tryz.prog g' 27 v1 = some (.int .i64 1) := l1
        by_cases ka : 1 ≤ kind
        · by_cases kb : kind ≤ 6
          · apply WP.region; simp [hl, h0, callA_eq, blt9, guardA, k1, k2, k3, l1, l3, hix, hld, hsq, w3', ka, kb]
            apply WP.ret
            simp [hl, resultsA, resultA, single]
          · have w0 : want kind = [] := want_out (.inr (by omega))
            rw [w0] at l4
            have l4 : ∀ g', lenA Tryz.prog g' 27 v4 = some (.int .i64 0) := l4
            apply WP.region; simp [hl, h0, callA_eq, blt9, guardA, k1, k2, k3, k4, l1, l3, l4, hix, hld, hsq, w3', ka, kb]
            apply WP.ret
            simp [hl, resultsA, resultA, single]
        · have w0 : want kind = [] := want_out (.inl (by omega))
          rw [w0] at l4
          have l4 : ∀ g', lenA Tryz.prog g' 27 v4 = some (.int .i64 0) := l4
          apply WP.region; simp [hl, h0, callA_eq, blt9, guardA, k1, k2, k3, k4, l1, l3, l4, hix, hld, hsq, w3', ka]
          apply WP.ret
          simp [hl, resultsA, resultA, single]
    · refine ⟨Keep.refl hwb, by simp [hl], by simp [hl, h0], by simp [hl], 0, by omega, by omega, by simp [hl]⟩
  obtain ⟨_, g, h1, rfl⟩ := main
  exact ⟨g, h1⟩
end
end Go.Am
