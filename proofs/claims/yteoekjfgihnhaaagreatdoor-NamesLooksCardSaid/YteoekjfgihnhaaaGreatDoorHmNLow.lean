/- The names seat: small letters and labels, the program's and the document's. -/
import Derived.Test.YteoekjfgihnhaaaGreatDoorHmNPure
import Derived.Test.YteoekjfgihnhaaaGreatDoorChecked
set_option linter.all false
set_option linter.unusedSimpArgs false
noncomputable section
namespace Go.Am
open Go.RowKit Go.Proofs

theorem int_wrap {n : Nat} (h : n < 9223372036854775807) : IntKind.wrap .i64 ((n : Int) + 1) = ((n + 1 : Nat) : Int) := by
  rw [wrap_small (by omega) (by omega)]; rfl
def bytesA (bs : List UInt8) : List AV := bs.map byteA
theorem bytesA_get {bs : List UInt8} {i : Nat} {b : UInt8} (h : bs[i]? = some b) : (bytesA bs)[i]? = some (byteA b) := by simp [bytesA, h]
theorem bytesA_ok : ∀ {bs : List UInt8}, cellsOk (bytesA bs) = true
  | [] => rfl
  | b :: bs => by simp only [bytesA, List.map_cons, cellsOk, byteA, cellOk, Bool.true_and]; exact bytesA_ok (bs := bs)
theorem unbytes_bytes : ∀ s : List UInt8, unbytes (bytesA s) = some (s.map fun b => (b.toNat : Int))
  | [] => rfl
  | b :: s => by
    have ih := unbytes_bytes s
    have h1 : unbyte (byteA b) = some (b.toNat : Int) := by simp [unbyte, byteA]
    simp only [bytesA, List.map_cons, unbytes, h1] at ih ⊢
    rw [ih]
theorem nums_back (s : Str) : (s.map fun b => (b.toNat : Int)).map (fun n => UInt8.ofNat n.toNat) = s := by
  rw [List.map_map]
  conv => rhs; rw [← List.map_id s]
  refine List.map_congr_left fun b _ => ?_
  simp
theorem uB : Tryz.prog.underlying 138 = some (.slice 5) := by kernel_rfl
theorem u9 : Tryz.prog.underlying 9 = some .string := by kernel_rfl
theorem u5 : Tryz.prog.underlying 5 = some (.int .u8) := by kernel_rfl
theorem sz5 : sizeA Tryz.prog 5 = some 1 := by kernel_rfl
theorem ag5 : aggA Tryz.prog 5 = some false := by kernel_rfl
theorem conv_in {h : Heap} {s : Str} : convA Tryz.prog h 9 138 (.str s) = some (.slice (some ⟨h.next, 0⟩) s.length (.tip 1), h.alloc (.cells (bytesA s) .str)) := by
  simp [convA, convertA, u9, uB, u5, bytesA]
theorem conv_out {h : Heap} {B : Nat} {s : Str} {c : Cap} {k : Kind} (hg : h.get B = some (.cells (bytesA s) k)) : convA Tryz.prog h 138 9 (.slice (some ⟨B, 0⟩) s.length c) = some (.str s, h) := by
  have hr : readA h ⟨B, 0⟩ s.length = some (bytesA s) := by
    have : (bytesA s).length = s.length := by simp [bytesA]
    have hb : Nat.ble (0 + s.length) (bytesA s).length = true := by rw [ble_iff, this]; omega
    simp only [readA, hg, hb, cond_true, List.drop_zero]
    rw [← this, List.take_length]
  cases s with
  | nil => simp [convA, convertA, u9, uB, u5]
  | cons b s =>
    simp only [List.length_cons] at hr ⊢
    simp only [convA, convertA, uB, u9, u5, hr, unbytes_bytes, nums_back]
/-- What is lowered so far. -/
def lowTo (s : Str) (i : Nat) : Str := low (s.take i) ++ s.drop i
theorem lowTo_get {s : Str} {i : Nat} {b : UInt8} (h : s[i]? = some b) : (lowTo s i)[i]? = some b := by
  unfold lowTo
  have hl : (low (s.take i)).length = i := by
    rw [low_len, List.length_take]
    have := (List.getElem?_eq_some_iff.1 h).1
    omega
  rw [List.getElem?_append_right (by omega), hl, Nat.sub_self, List.getElem?_drop, Nat.add_zero, h]
theorem lowTo_next {s : Str} {i : Nat} {b : UInt8} (h : s[i]? = some b) : lowTo s (i + 1) = (lowTo s i).set i (lowB b) := by
  unfold lowTo
  have hlt := (List.getElem?_eq_some_iff.1 h).1
  have hl : (low (s.take i)).length = i := by rw [low_len, List.length_take]; omega
  rw [List.set_append_right _ _ (by omega), hl, Nat.sub_self, List.take_add_one, h]
  have hd : s.drop i = b :: s.drop (i + 1) := by rw [List.drop_eq_getElem_cons hlt]; congr 1; rw [List.getElem?_eq_getElem hlt] at h; exact Option.some.inj h
  rw [hd]
  simp [low]
theorem lowTo_zero (s : Str) : lowTo s 0 = s := by simp [lowTo, low]
theorem lowTo_all (s : Str) : lowTo s s.length = low s := by simp [lowTo]
theorem lowTo_len (s : Str) {i : Nat} (h : i ≤ s.length) : (lowTo s i).length = s.length := by
  unfold lowTo
  rw [List.length_append, low_len, List.length_take, List.length_drop]; omega

section
variable {ov : CallF}
theorem sl_bytes {h : Heap} {B : Nat} {s : Str} {k : Kind} (hg : h.get B = some (.cells (bytesA s) k)) : Sl h (.slice (some ⟨B, 0⟩) s.length (.tip 1)) (bytesA s) := by
  have hb : (bytesA s).length = s.length := by simp [bytesA]
  exact ⟨⟨hb, rfl⟩, .inr ⟨bytesA s, k, hg, by simp [hb], by simp [← hb]⟩⟩
theorem low_ok (hov : ∀ a h, ov 20 a h = none) {h : Heap} (hw : Wf h) (s : Str) (hn : s.length ≤ 140737488355328) :
    ∃ h', callT ov Tryz.prog 20 [.str s] h = some (.ret (.str (low s)) h') ∧ Keep [] h h' := by
  have main : ∃ u g, callT ov Tryz.prog 20 [.str s] h = some (.ret u g) ∧ u = .str (low s) ∧ Keep [] h g := by
    refine callT_wp (fn := Tryz.f20) (hov _ _) (by kernel_rfl) rfl ?_
    have hl : (frameA Tryz.f20 [.str s]).length = 30 := frameA_length (Nat.le_of_ble_eq_true rfl)
    have h0 : nth (frameA Tryz.f20 [.str s]) 0 = .str s := frameA_nth (Nat.le_of_ble_eq_true rfl)
    generalize frameA Tryz.f20 [.str s] = e at hl h0
    apply WP.seq; apply WP.region; simp [hl]
    repeat apply WP.seq
    have hk1 := (Keep.refl (ex := []) hw).alloc (.cells (bytesA s) .str)
    have hg1 : (h.alloc (.cells (bytesA s) .str)).get h.next = _ := Heap.get_alloc _ _
    have hx1 : h.next < (h.alloc (.cells (bytesA s) .str)).next := by rw [Heap.next_alloc]; omega
    apply WP.region; simp [hl, h0, conv_in]
    generalize h.alloc (.cells (bytesA s) .str) = g1 at hk1 hg1 hx1
    have hlen : lenA Tryz.prog g1 138 (.slice (some ⟨h.next, 0⟩) s.length (.tip 1)) = some (.int .i64 s.length) := by rw [(sl_bytes hg1).len uB]; simp [bytesA]
    repeat apply WP.seq
    apply WP.region; simp [hl, hlen]
    repeat apply WP.seq
    apply WP.block
    refine WP.loop (fun n e g => Keep [] h g ∧ h.next < g.next ∧ e.length = 30 ∧ nth e 3 = .slice (some ⟨h.next, 0⟩) s.length (.tip 1) ∧ nth e 8 = .slice (some ⟨h.next, 0⟩) s.length (.tip 1) ∧ nth e 9 = .int .i64 s.length ∧
      ∃ i, i ≤ s.length ∧ n = s.length - i ∧ nth e 10 = .int .i64 (i : Nat) ∧ g.get h.next = some (.cells (bytesA (lowTo s i)) .str)) ?_ s.length _ _ ?_
    · rintro n e g ⟨hk, hlt0, hl, h3, h8, h9, i, hi, rfl, h10, hg⟩
      repeat apply WP.seq
      apply WP.region; simp [hl, h9, h10]
      repeat apply WP.seq
      apply WP.cond (by simp [hl]; rfl)
      · intro hlt1
        have hlt1 : i < s.length := by simpa using hlt1
        apply WP.skip; simp
        repeat apply WP.seq
        apply WP.block
        obtain ⟨b, hb⟩ : ∃ b, s[i]? = some b := ⟨s[i], by simp [hlt1]⟩
        have hsl := sl_bytes hg
        rw [lowTo_len s hi] at hsl
        have hl1 : indexAddrA Tryz.prog 138 (.slice (some ⟨h.next, 0⟩) s.length (.tip 1)) (.int .i64 (i : Nat)) = some (.ptr (some ⟨h.next, i⟩)) := by
          rw [index_at uB sz5 hlt1]; simp
        have hl1' : loadA Tryz.prog g 5 ⟨h.next, i⟩ = some (byteA b) := load_cell ag5 hg (bytesA_get (lowTo_get hb))
        repeat apply WP.seq
        apply WP.region; simp [hl, h8, h10, hl1, hl1']
        have hu8 : byteA b = .int .u8 (b.toNat : Int) := rfl
        have hnlt := b.toNat_lt
        by_cases hup : 65 ≤ b.toNat ∧ b.toNat ≤ 90
        · have h65 : (65 : Int) ≤ (b.toNat : Int) := by omega
          have h90 : (b.toNat : Int) ≤ 90 := by omega
          have hw1 : IntKind.wrap .u8 (IntKind.wrap .u8 ((b.toNat : Int) + 97) - 65) = ((lowB b).toNat : Int) := by
            rw [lowB_nat]; unfold lowN; rw [if_pos hup, IntKind.wrap_u8, IntKind.wrap_u8]; omega
          repeat apply WP.seq
          apply WP.region; simp [hl, hu8, h65, h90, guardA]
          have hst : storeA Tryz.prog g 5 ⟨h.next, i⟩ (.int .u8 ((lowB b).toNat : Int)) = some (g.set h.next (.cells (bytesA (lowTo s (i + 1))) .str)) := by
            rw [store_cell sz5 rfl rfl hg (by simp) (by rw [bytesA, List.length_map, lowTo_len s hi]; exact hlt1), lowTo_next hb]
            simp [bytesA, List.map_set, byteA]
          apply WP.cond (by simp [hl]; rfl)
          · intro _
            apply WP.region; simp [hl, h3, hl1, hw1, storeR_ptr hst]
            repeat apply WP.seq
            apply WP.region; simp [hl, h10, int_wrap (show i < 9223372036854775807 by omega)]
            exact ⟨s.length - (i + 1), by omega, hk.set _ hlt0 (.inr (Nat.le_refl _)), by rw [Heap.next_set]; exact hlt0, h3, h8, h9, i + 1, by omega, rfl, by simp, Heap.get_set _ _ _⟩
          · intro hf; cases hf
        · have hlow : lowB b = b := UInt8.toNat_inj.1 (by rw [lowB_nat]; unfold lowN; rw [if_neg hup])
          have hsame : (lowTo s i).set i (lowB b) = lowTo s i := by
            rw [hlow]
            have := lowTo_get hb
            obtain ⟨hh, he⟩ := List.getElem?_eq_some_iff.1 this
            rw [← he, List.set_getElem_self]
          have hg' : g.get h.next = some (.cells (bytesA (lowTo s (i + 1))) .str) := by rw [lowTo_next hb, hsame]; exact hg
          have fin : ∀ e', e'.length = 30 → nth e' 10 = .int .i64 (i : Nat) → nth e' 20 = .bool false → nth e' 3 = .slice (some ⟨h.next, 0⟩) s.length (.tip 1) → nth e' 8 = .slice (some ⟨h.next, 0⟩) s.length (.tip 1) → nth e' 9 = .int .i64 s.length → True := fun _ _ _ _ _ _ _ => trivial
          repeat apply WP.seq
          apply WP.region
          by_cases h65 : 65 ≤ b.toNat
          · have h65' : (65 : Int) ≤ (b.toNat : Int) := by omega
            have h90 : ¬ (b.toNat : Int) ≤ 90 := by omega
            simp [hl, hu8, h65', h90, guardA]
            apply WP.cond (by simp [hl]; rfl)
            · intro hf; cases hf
            · intro _
              apply WP.skip; simp
              repeat apply WP.seq
              apply WP.region; simp [hl, h10, int_wrap (show i < 9223372036854775807 by omega)]
              exact ⟨s.length - (i + 1), by omega, hk, hlt0, h3, h8, h9, i + 1, by omega, rfl, by simp, hg'⟩
          · have h65' : ¬ (65 : Int) ≤ (b.toNat : Int) := by omega
            simp [hl, hu8, h65', guardA]
            apply WP.cond (by simp [hl]; rfl)
            · intro hf; cases hf
            · intro _
              apply WP.skip; simp
              repeat apply WP.seq
              apply WP.region; simp [hl, h10, int_wrap (show i < 9223372036854775807 by omega)]
              exact ⟨s.length - (i + 1), by omega, hk, hlt0, h3, h8, h9, i + 1, by omega, rfl, by simp, hg'⟩
      · intro hge
        have hge : ¬ i < s.length := by simpa using hge
        have hi' : i = s.length := by omega
        subst hi'
        apply WP.exit
        try simp
        repeat apply WP.seq
        rw [lowTo_all] at hg
        have hco := conv_out (c := .tip 1) hg
        rw [low_len] at hco
        apply WP.region; simp [hl, h3, hco]
        apply WP.ret
        simp [hl, resultsA, resultA, single]
        exact hk
    · refine ⟨hk1, hx1, by simp [hl], by simp [hl], by simp [hl], by simp [hl], 0, by omega, by omega, by simp [hl], by rw [lowTo_zero]; exact hg1⟩
  obtain ⟨_, g, h1, rfl, h2⟩ := main
  exact ⟨g, h1, h2⟩

theorem len_str {h : Heap} {s : Str} : lenA Tryz.prog h 9 (.str s) = some (.int .i64 s.length) := by simp [lenA, u9]
theorem idx_str {s : Str} {i : Nat} {b : UInt8} (h : s[i]? = some b) : indexA Tryz.prog 9 (.str s) (.int .i64 (i : Nat)) = some (.int .u8 (b.toNat : Int)) := by
  have hlt := (List.getElem?_eq_some_iff.1 h).1
  have hb : (0 : Int) ≤ (i : Int) ∧ (i : Int) < s.length := by omega
  simp [indexA, u9, hb, hlt, h, byteA]
  rw [(List.getElem?_eq_some_iff.1 h).2]
theorem pred_wrap {n : Nat} (h0 : 0 < n) (h : n ≤ 140737488355328) : IntKind.wrap .i64 ((n : Int) - 1) = ((n - 1 : Nat) : Int) := by
  rw [wrap_small (by omega) (by omega)]; omega
def pre (s : Str) : Bool := decide (1 ≤ s.length) && decide (s.length ≤ 63) && !(decide (s[0]? = some 45)) && !(decide (s[s.length - 1]? = some 45))
theorem blt20 : Nat.blt 20 Tryz.prog.funcs.size = true := by kernel_rfl
set_option maxRecDepth 100000 in
theorem label_ok (hov : ∀ a h, ov 51 a h = none) (hov1 : ∀ a h, ov 20 a h = none) {h : Heap} (hw : Wf h) (s : Str) (hn : s.length ≤ 140737488355328) :
    ∃ h', callT ov Tryz.prog 51 [.str s] h = some (.ret (.tuple [.str (labA s).1, .int .i64 (labA s).2]) h') ∧ Keep [] h h' := by
  have main : ∃ u g, callT ov Tryz.prog 51 [.str s] h = some (.ret u g) ∧ u = .tuple [.str (labA s).1, .int .i64 (labA s).2] ∧ Keep [] h g := by
    refine callT_wp (fn := Tryz.f51) (hov _ _) (by kernel_rfl) rfl ?_
    have hl : (frameA Tryz.f51 [.str s]).length = 58 := frameA_length (Nat.le_of_ble_eq_true rfl)
    have h0 : nth (frameA Tryz.f51 [.str s]) 0 = .str s := frameA_nth (Nat.le_of_ble_eq_true rfl)
    generalize frameA Tryz.f51 [.str s] = e at hl h0
    apply WP.seq; apply WP.region; simp [hl]
    repeat apply WP.seq
    refine WP.regionS (fun e g => e.length = 58 ∧ nth e 0 = .str s ∧ g = h ∧ nth e 27 = .bool (!pre s)) ?_ ?_
    · unfold pre
      by_cases h1 : s.length = 0
      · simp [hl, h0, len_str, h1, guardA]
      · have hp : 0 < s.length := by omega
        have h1' : ¬ (s.length : Int) < 1 := by omega
        by_cases h2 : 63 < s.length
        · have h2' : (63 : Int) < s.length := by omega
          have h2b : ¬ s.length ≤ 63 := by omega
          simp [hl, h0, len_str, h1', guardA, h2', h2b]
        · have h2' : ¬ (63 : Int) < s.length := by omega
          have h2b : s.length ≤ 63 := by omega
          obtain ⟨b0, hb0⟩ : ∃ b, s[0]? = some b := ⟨s[0], by simp [hp]⟩
          obtain ⟨b1, hb1⟩ : ∃ b, s[s.length - 1]? = some b := ⟨s[s.length - 1], by rw [List.getElem?_eq_getElem]⟩
          have i0 : indexA Tryz.prog 9 (.str s) (.int .i64 0) = some (.int .u8 (b0.toNat : Int)) := idx_str (i := 0) hb0
          have i1 := idx_str hb1
          have hw1 := pred_wrap hp hn
          have d0 : ∀ b : UInt8, (b.toNat : Int) = 45 ↔ b = 45 := fun b => ⟨fun hh => UInt8.toNat_inj.1 (by show b.toNat = 45; omega), fun hh => by subst hh; rfl⟩
          have e0 : ∀ b : UInt8, b ≠ 45 → ((b.toNat : Int) == 45) = false := fun b hh => by simpa using fun h => hh ((d0 b).1 h)
          have e1 : (((45 : UInt8).toNat : Int) == 45) = true := rfl
          by_cases h3 : b0 = 45
          · subst h3
            simp [hl, h0, len_str, h1', guardA, h2', i0, hb0, e1]
          · by_cases h4 : b1 = 45
            · subst h4
              simp [hl, h0, len_str, h1', guardA, h2', i0, i1, hw1, e0 _ h3, e1, hb1]
            · have h1b : 1 ≤ s.length := hp
              simp [hl, h0, len_str, h1', guardA, h2', h2b, i0, i1, hw1, e0 _ h3, e0 _ h4, h3, h4, hb0, hb1, h1b]
    · rintro e g0 ⟨hl, h0, rfl, h27⟩
      apply WP.cond (by rw [ev_tmp]; exact h27)
      · intro hb
        have hp : pre s = false := by simpa using hb
        have hlab : labA s = ([], 90) := by unfold labA isLab; unfold pre at hp; rw [hp]; rfl
        repeat apply WP.seq
        apply WP.region; simp [hl]
        apply WP.ret
        simp [hl, resultsA, resultA, single, hlab]
        exact Keep.refl hw
      · intro hb
        have hp : pre s = true := by simpa using hb
        have hlabel : isLab s = okAll (low s) := by unfold isLab; unfold pre at hp; rw [hp]; rfl
        apply WP.skip; simp
        obtain ⟨g1, hcall, hk1⟩ := low_ok hov1 hw s hn
        repeat apply WP.seq
        apply WP.region; simp [hl, h0, callA_eq, blt20, hcall]
        have hll := low_len s
        repeat apply WP.seq
        apply WP.region; simp [hl, len_str, hll]
        repeat apply WP.seq
        apply WP.block
        refine WP.loop (fun n e g => Keep [] g0 g ∧ e.length = 58 ∧ nth e 4 = .str (low s) ∧ nth e 31 = .int .i64 s.length ∧ ∃ i, i ≤ s.length ∧ n = s.length - i ∧ nth e 32 = .int .i64 (i : Nat) ∧ okAll ((low s).take i) = true) ?_ s.length _ _ ?_
        · rintro n e g ⟨hk, hl, h4, h31, i, hi, rfl, h32, hok⟩
          repeat apply WP.seq
          apply WP.region; simp [hl, h31, h32]
          repeat apply WP.seq
          apply WP.cond (by simp [hl]; rfl)
          · intro hlt1
            have hlt1 : i < s.length := by simpa using hlt1
            apply WP.skip; simp
            repeat apply WP.seq
            apply WP.block
            obtain ⟨b, hb⟩ : ∃ b, (low s)[i]? = some b := ⟨(low s)[i]'(by omega), by rw [List.getElem?_eq_getElem]⟩
            repeat apply WP.seq
            apply WP.region; simp [hl, h32]
            repeat apply WP.seq
            apply WP.region; simp [hl, h4, idx_str hb]
            repeat apply WP.seq
            refine WP.regionS (fun e' g' => e'.length = 58 ∧ g' = g ∧ nth e' 4 = .str (low s) ∧ nth e' 31 = .int .i64 s.length ∧ nth e' 32 = .int .i64 (i : Nat) ∧ nth e' 55 = .bool (!okN b.toNat)) ?_ ?_
            · have hok : okN b.toNat = (decide ((b.toNat : Int) = 45) || ((!decide ((b.toNat : Int) < 97) && !decide ((122 : Int) < b.toNat)) || (!decide ((b.toNat : Int) < 48) && !decide ((57 : Int) < b.toNat)))) := by
                rw [okN, Bool.eq_iff_iff]
                simp only [Bool.or_eq_true, Bool.and_eq_true, decide_eq_true_eq, Bool.not_eq_true', decide_eq_false_iff_not]
                omega
              rw [hok]
              by_cases c1 : (b.toNat : Int) = 45
              · simp [hl, h4, h31, h32, guardA, c1]
              · have c1' : ((b.toNat : Int) != 45) = true := by simpa using c1
                by_cases c4 : (b.toNat : Int) < 48
                · have c2 : (b.toNat : Int) < 97 := by omega
                  have c3 : ¬ (122 : Int) < b.toNat := by omega
                  have c5 : ¬ (57 : Int) < b.toNat := by omega
                  simp [hl, h4, h31, h32, guardA, c1, c1', c2, c3, c4, c5]
                · by_cases c5 : (57 : Int) < b.toNat
                  · by_cases c2 : (b.toNat : Int) < 97
                    · have c3 : ¬ (122 : Int) < b.toNat := by omega
                      simp [hl, h4, h31, h32, guardA, c1, c1', c2, c3, c4, c5]
                    · by_cases c3 : (122 : Int) < b.toNat
                      · simp [hl, h4, h31, h32, guardA, c1, c1', c2, c3, c4, c5]
                      · simp [hl, h4, h31, h32, guardA, c1, c1', c2, c3, c4, c5]
                  · have c2 : (b.toNat : Int) < 97 := by omega
                    have c3 : ¬ (122 : Int) < b.toNat := by omega
                    simp [hl, h4, h31, h32, guardA, c1, c1', c2, c3, c4, c5]
            · rintro e g' ⟨hl, rfl, h4, h31, h32, h55⟩
              apply WP.cond (by rw [ev_tmp]; exact h55)
              · intro hbad
                have hbad : okN b.toNat = false := by simpa using hbad
                have hlab : labA s = ([], 90) := by
                  unfold labA
                  rw [hlabel]
                  have : okAll (low s) = false := by
                    rw [okAll, List.all_eq_false]
                    exact ⟨b, List.mem_of_getElem? hb, by simpa using hbad⟩
                  rw [this]; rfl
                repeat apply WP.seq
                apply WP.region; simp [hl]
                apply WP.ret
                simp [hl, resultsA, resultA, single, hlab]
                exact hk
              · intro hgood
                have hgood : okN b.toNat = true := by simpa using hgood
                apply WP.skip; simp
                repeat apply WP.seq
                apply WP.region; simp [hl, h32, int_wrap (show i < 9223372036854775807 by omega)]
                refine ⟨s.length - (i + 1), by omega, hk, h4, h31, i + 1, by omega, rfl, by simp, ?_⟩
                rw [List.take_add_one, hb, okAll, List.all_append]
                rw [okAll] at hok
                simp [hok, hgood]
          · intro hge
            have hge : ¬ i < s.length := by simpa using hge
            have hi' : i = s.length := by omega
            subst hi'
            apply WP.exit
            try simp
            have hlab : labA s = (low s, 0) := by
              rw [← hll, List.take_length] at hok
              unfold labA; rw [hlabel, hok]; rfl
            repeat apply WP.seq
            apply WP.region; simp [hl, h4]
            apply WP.ret
            simp [hl, resultsA, resultA, single, hlab]
            exact hk
        · refine ⟨hk1, by simp [hl], by simp [hl], by simp [hl], 0, by omega, by omega, by simp [hl], by simp [okAll]⟩
  obtain ⟨_, g, h1, rfl, h2⟩ := main
  exact ⟨g, h1, h2⟩

theorem build138_0 {h : Heap} : buildSliceA Tryz.prog h 138 0 [] = some (.slice (some ⟨h.next, 0⟩) 0 (.exact 0), h.alloc (.cells [] (.own (some 5)))) := by kernel_rfl
theorem build138_1 {h : Heap} {n : Int} : buildSliceA Tryz.prog h 138 1 [(0, .int .u8 n)] = some (.slice (some ⟨h.next, 0⟩) 1 (.exact 1), h.alloc (.cells [.int .u8 n] (.own (some 5)))) := by kernel_rfl
theorem room5 {n : Nat} (h : n ≤ 140737488355328) : roomA Tryz.prog 5 n = true := by
  have h1 : roomA Tryz.prog 5 n = (Nat.ble (n * 1) 140737488355328 && Nat.ble n 9223372036854775807 && true && true) := by kernel_rfl
  rw [h1, (ble_iff _ _).2 (by omega), (ble_iff _ _).2 (by omega)]; rfl
theorem conv_acc {n0 : Nat} {h : Heap} {v : AV} {s : Str} (ha : Acc n0 5 h v (bytesA s)) : convA Tryz.prog h 138 9 v = some (.str s, h) := by
  rcases ha with ⟨hs, l, rfl, _⟩ | ⟨i, _, _, rfl, hg⟩
  · have hs : s = [] := by simpa [bytesA] using hs
    subst hs
    cases l <;> simp [convA, convertA, u9, uB, u5]
  · have hb : (bytesA s).length = s.length := by simp [bytesA]
    rw [hb]
    exact conv_out hg
theorem bytesA_snoc (s : Str) (b : UInt8) : bytesA s ++ [.int .u8 (b.toNat : Int)] = bytesA (s ++ [b]) := by simp [bytesA, byteA]
set_option maxRecDepth 100000 in
theorem rlow_ok (hov : ∀ a h, ov 22 a h = none) {h : Heap} (hw : Wf h) (s : Str) (hn : s.length ≤ 140737488355328) :
    ∃ h', callT ov Tryz.prog 22 [.str s] h = some (.ret (.str (low s)) h') ∧ Keep [] h h' := by
  have main : ∃ u g, callT ov Tryz.prog 22 [.str s] h = some (.ret u g) ∧ u = .str (low s) ∧ Keep [] h g := by
    refine callT_wp (fn := Tryz.f22) (hov _ _) (by kernel_rfl) rfl ?_
    have hl : (frameA Tryz.f22 [.str s]).length = 37 := frameA_length (Nat.le_of_ble_eq_true rfl)
    have h0 : nth (frameA Tryz.f22 [.str s]) 0 = .str s := frameA_nth (Nat.le_of_ble_eq_true rfl)
    generalize frameA Tryz.f22 [.str s] = e at hl h0
    apply WP.seq; apply WP.region; simp [hl]
    repeat apply WP.seq
    have hk1 := (Keep.refl (ex := []) hw).alloc (.cells [] (.own (some 5)))
    have hA1 : Acc h.next 5 (h.alloc (.cells [] (.own (some 5)))) (.slice (some ⟨h.next, 0⟩) 0 (.exact 0)) [] := Acc.empty (Nat.le_refl _) (Heap.get_alloc _ _)
    have hx1 : h.next ≤ (h.alloc (.cells [] (.own (some 5)))).next := by rw [Heap.next_alloc]; omega
    apply WP.region; simp [hl, build138_0]
    generalize h.alloc (.cells [] (.own (some 5))) = g1 at hk1 hA1 hx1
    repeat apply WP.seq
    apply WP.region; simp [hl]
    repeat apply WP.seq
    apply WP.block
    refine WP.loop (fun n e g => Keep [] h g ∧ h.next ≤ g.next ∧ e.length = 37 ∧ nth e 0 = .str s ∧ ∃ i, i ≤ s.length ∧ n = s.length - i ∧ nth e 4 = .int .i64 (i : Nat) ∧ Acc h.next 5 g (nth e 3) (bytesA (low (s.take i)))) ?_ s.length _ _ ?_
    · rintro n e g ⟨hk, hx, hl, h0, i, hi, rfl, h4, hA⟩
      repeat apply WP.seq
      apply WP.region; simp [hl, h0, h4, len_str]
      repeat apply WP.seq
      apply WP.cond (by simp [hl]; rfl)
      · intro hlt1
        have hlt1 : i < s.length := by simpa using hlt1
        apply WP.skip; simp
        repeat apply WP.seq
        apply WP.block
        obtain ⟨b, hb⟩ : ∃ b, s[i]? = some b := ⟨s[i], by simp [hlt1]⟩
        have hix := idx_str hb
        have hnlt := b.toNat_lt
        have hlen : (bytesA (low (s.take i))).length + 1 ≤ 140737488355328 := by simp only [bytesA, List.length_map, low_len, List.length_take]; omega
        have hnext : low (s.take (i + 1)) = low (s.take i) ++ [lowB b] := by rw [List.take_add_one, hb]; simp [low]
        have hy : ∀ n : Int, Sl (g.alloc (.cells [.int .u8 n] (.own (some 5)))) (.slice (some ⟨g.next, 0⟩) 1 (.exact 1)) [.int .u8 n] := fun n => ⟨⟨rfl, Nat.le_refl _⟩, .inr ⟨_, _, Heap.get_alloc _ _, by simp, by simp⟩⟩
        have push := fun n : Int => Acc.push (P := Tryz.prog) (t := 138) (hA.keep ((Keep.refl (ex := []) hk.wf).alloc (.cells [.int .u8 n] (.own (some 5)))) (by simp)) (hk.alloc (.cells [.int .u8 n] (.own (some 5)))) (Nat.le_refl _) (by rw [Heap.next_alloc]; omega) uB sz5 (room5 hlen) (hy n) rfl
        repeat apply WP.seq
        refine WP.regionS (fun e' g' => e'.length = 37 ∧ g' = g ∧ nth e' 0 = .str s ∧ nth e' 4 = .int .i64 (i : Nat) ∧ nth e' 3 = nth e 3 ∧ nth e' 21 = .bool (decide (65 ≤ b.toNat ∧ b.toNat ≤ 90))) ?_ ?_
        · by_cases c1 : (65 : Int) ≤ b.toNat
          · have c1' : 65 ≤ b.toNat := by omega
            by_cases c2 : (b.toNat : Int) ≤ 90
            · have c2' : b.toNat ≤ 90 := by omega
              simp [hl, h0, h4, hix, guardA, c1, c2, c1', c2']
            · have c2' : ¬ b.toNat ≤ 90 := by omega
              simp [hl, h0, h4, hix, guardA, c1, c2, c1', c2']
          · have c1' : ¬ 65 ≤ b.toNat := by omega
            simp [hl, h0, h4, hix, guardA, c1, c1']
        · rintro e2 g' ⟨hl, rfl, h0, h4, h3, h21⟩
          apply WP.cond (by rw [ev_tmp]; exact h21)
          · intro hup
            have hup : 65 ≤ b.toNat ∧ b.toNat ≤ 90 := by simpa using hup
            have hw1 : IntKind.wrap .u8 ((b.toNat : Int) + 32) = ((lowB b).toNat : Int) := by
              rw [lowB_nat]; unfold lowN; rw [if_pos hup, IntKind.wrap_u8]; omega
            obtain ⟨v', g2, ha, hA', hk', hx'⟩ := push ((lowB b).toNat : Int)
            have ha' := appA_of ha
            repeat apply WP.seq
            apply WP.region; simp [hl, h0, h3, h4, hix, hw1, build138_1, ha']
            repeat apply WP.seq
            apply WP.region; simp [hl, h4, int_wrap (show i < 9223372036854775807 by omega)]
            refine ⟨s.length - (i + 1), by omega, hk', by rw [Heap.next_alloc] at hx'; omega, h0, i + 1, by omega, rfl, by simp, ?_⟩
            rw [hnext, ← bytesA_snoc]; exact hA'
          · intro hup
            have hup : ¬ (65 ≤ b.toNat ∧ b.toNat ≤ 90) := by simpa using hup
            have hlow : lowB b = b := UInt8.toNat_inj.1 (by rw [lowB_nat]; unfold lowN; rw [if_neg hup])
            obtain ⟨v', g2, ha, hA', hk', hx'⟩ := push (b.toNat : Int)
            have ha' := appA_of ha
            repeat apply WP.seq
            apply WP.region; simp [hl, h0, h3, h4, hix, build138_1, ha']
            repeat apply WP.seq
            apply WP.region; simp [hl, h4, int_wrap (show i < 9223372036854775807 by omega)]
            refine ⟨s.length - (i + 1), by omega, hk', by rw [Heap.next_alloc] at hx'; omega, h0, i + 1, by omega, rfl, by simp, ?_⟩
            rw [hnext, ← bytesA_snoc, hlow]; exact hA'
      · intro hge
        have hge : ¬ i < s.length := by simpa using hge
        have hi' : i = s.length := by omega
        subst hi'
        apply WP.exit
        try simp
        rw [List.take_length] at hA
        have hco := conv_acc hA
        repeat apply WP.seq
        apply WP.region; simp [hl, hco]
        apply WP.ret
        simp [hl, resultsA, resultA, single]
        exact hk
    · exact ⟨hk1, hx1, by simp [hl], by simp [hl, h0], 0, by omega, by omega, by simp [hl], by simpa [hl, low, bytesA] using hA1⟩
  obtain ⟨_, g, h1, rfl, h2⟩ := main
  exact ⟨g, h1, h2⟩
theorem blt22 : Nat.blt 22 Tryz.prog.funcs.size = true := by kernel_rfl
theorem labA_ref (s : Str) : labA s = if (low s ≠ [] ∧ (low s).length ≤ 63 ∧ ∀ i, i < (low s).length → goodAt (low s) i = true) then (low s, 0) else ([], 90) := by
  unfold labA
  by_cases h : isLab s = true
  · rw [if_pos h, if_pos ((isLab_iff s).1 h)]
  · rw [if_neg h, if_neg fun hh => h ((isLab_iff s).2 hh)]
set_option maxRecDepth 100000 in
theorem rlabel_ok (hov : ∀ a h, ov 23 a h = none) (hov1 : ∀ a h, ov 22 a h = none) {h : Heap} (hw : Wf h) (s : Str) (hn : s.length ≤ 140737488355328) :
    ∃ h', callT ov Tryz.prog 23 [.str s] h = some (.ret (.tuple [.str (labA s).1, .int .i64 (labA s).2]) h') ∧ Keep [] h h' := by
  have main : ∃ u g, callT ov Tryz.prog 23 [.str s] h = some (.ret u g) ∧ u = .tuple [.str (labA s).1, .int .i64 (labA s).2] ∧ Keep [] h g := by
    refine callT_wp (fn := Tryz.f23) (hov _ _) (by kernel_rfl) rfl ?_
    have hl : (frameA Tryz.f23 [.str s]).length = 65 := frameA_length (Nat.le_of_ble_eq_true rfl)
    have h0 : nth (frameA Tryz.f23 [.str s]) 0 = .str s := frameA_nth (Nat.le_of_ble_eq_true rfl)
    generalize frameA Tryz.f23 [.str s] = e at hl h0
    obtain ⟨g1, hcall, hk1⟩ := rlow_ok hov1 hw s hn
    have hll := low_len s
    have href := labA_ref s
    generalize low s = L at hcall hll href
    apply WP.seq; apply WP.region; simp [hl]
    repeat apply WP.seq
    apply WP.region; simp [hl, h0, callA_eq, blt22, hcall]
    repeat apply WP.seq
    refine WP.regionS (fun e' g' => e'.length = 65 ∧ g' = g1 ∧ nth e' 4 = .str L ∧ nth e' 16 = .bool (!(decide (L ≠ []) && decide (L.length ≤ 63)))) ?_ ?_
    · by_cases c1 : L = []
      · subst c1; simp [hl, len_str, guardA]
      · have c1' : ((L.length : Int) == 0) = false := by
          have := List.length_pos_iff.2 c1
          simpa using c1
        by_cases c2 : (63 : Int) < L.length
        · have c2' : ¬ L.length ≤ 63 := by omega
          simp [hl, len_str, guardA, c1, c1', c2, c2']
        · have c2' : L.length ≤ 63 := by omega
          simp [hl, len_str, guardA, c1, c1', c2, c2']
    · rintro e g' ⟨hl, rfl, h4, h16⟩
      apply WP.cond (by rw [ev_tmp]; exact h16)
      · intro hbad
        have hlab : labA s = ([], 90) := by
          rw [href, if_neg]
          rintro ⟨ha, hb, _⟩
          simp [ha, hb] at hbad
        repeat apply WP.seq
        apply WP.region; simp [hl]
        apply WP.ret
        simp [hl, resultsA, resultA, single, hlab]
        exact hk1
      · intro hgood
        have hgood : L ≠ [] ∧ L.length ≤ 63 := by simpa using hgood
        apply WP.skip; simp
        repeat apply WP.seq
        apply WP.region; simp [hl]
        repeat apply WP.seq
        apply WP.block
        refine WP.loop (fun n e g => g = g' ∧ e.length = 65 ∧ nth e 4 = .str L ∧ ∃ i, i ≤ L.length ∧ n = L.length - i ∧ nth e 5 = .int .i64 (i : Nat) ∧ ∀ j, j < i → goodAt L j = true) ?_ L.length _ _ ?_
        · rintro n e g ⟨rfl, hl, h4, i, hi, rfl, h5, hok⟩
          repeat apply WP.seq
          apply WP.region; simp [hl, h4, h5, len_str]
          repeat apply WP.seq
          apply WP.cond (by simp [hl]; rfl)
          · intro hlt1
            have hlt1 : i < L.length := by simpa using hlt1
            apply WP.skip; simp
            repeat apply WP.seq
            apply WP.block
            obtain ⟨b, hb⟩ : ∃ b, L[i]? = some b := ⟨L[i], by simp [hlt1]⟩
            have hix := idx_str hb
            have hgd : goodAt L i = (letN b.toNat || (decide (b.toNat = 45) && !decide (i = 0) && !decide (i = L.length - 1))) := by unfold goodAt; rw [hb]
            repeat apply WP.seq
            refine WP.regionS (fun e' g2 => e'.length = 65 ∧ g2 = g ∧ nth e' 4 = .str L ∧ nth e' 5 = .int .i64 (i : Nat) ∧ nth e' 6 = .bool (letN b.toNat)) ?_ ?_
            · have hln : letN b.toNat = ((decide ((97 : Int) ≤ b.toNat) && decide ((b.toNat : Int) ≤ 122)) || (decide ((48 : Int) ≤ b.toNat) && decide ((b.toNat : Int) ≤ 57))) := by
                rw [letN, Bool.eq_iff_iff]
                simp only [Bool.or_eq_true, Bool.and_eq_true, decide_eq_true_eq]
                omega
              rw [hln]
              by_cases c1 : (97 : Int) ≤ b.toNat
              · have c3 : (48 : Int) ≤ b.toNat := by omega
                have c4 : ¬ (b.toNat : Int) ≤ 57 := by omega
                by_cases c2 : (b.toNat : Int) ≤ 122
                · simp [hl, h4, h5, hix, guardA, c1, c2, c3, c4]
                · simp [hl, h4, h5, hix, guardA, c1, c2, c3, c4]
              · by_cases c3 : (48 : Int) ≤ b.toNat
                · by_cases c4 : (b.toNat : Int) ≤ 57
                  · simp [hl, h4, h5, hix, guardA, c1, c3, c4]
                  · simp [hl, h4, h5, hix, guardA, c1, c3, c4]
                · simp [hl, h4, h5, hix, guardA, c1, c3]
            · rintro e g2 ⟨hl, rfl, h4, h5, h6⟩
              repeat apply WP.seq
              refine WP.regionS (fun e' g3 => e'.length = 65 ∧ g3 = g2 ∧ nth e' 4 = .str L ∧ nth e' 5 = .int .i64 (i : Nat) ∧ nth e' 63 = .bool (!goodAt L i)) ?_ ?_
              · rw [hgd]
                have hpw := pred_wrap (show 0 < L.length by omega) (by omega)
                have hdash : ∀ b : UInt8, (b.toNat : Int) = 45 ↔ b.toNat = 45 := fun b => by omega
                cases hlt : letN b.toNat with
                | true => rw [hlt] at h6; simp [hl, h4, h5, h6, guardA]
                | false =>
                  rw [hlt] at h6
                  by_cases c1 : (b.toNat : Int) = 45
                  · have c1' : b.toNat = 45 := by omega
                    have c1n : ((b.toNat : Int) != 45) = false := by simpa using c1
                    by_cases c2 : i = 0
                    · subst c2
                      have hix0 : indexA Tryz.prog 9 (.str L) (.int .i64 0) = some (.int .u8 (b.toNat : Int)) := hix
                      simp [hl, h4, h5, h6, hix0, guardA, c1', c1n]
                    · have c2n : ((i : Int) == 0) = false := by simpa using c2
                      by_cases c3 : i = L.length - 1
                      · have c3n : ((i : Int) == ((L.length - 1 : Nat) : Int)) = true := by rw [beq_iff_eq]; omega
                        simp [hl, h4, h5, h6, hix, guardA, c1', c1n, c2, c2n, hpw, c3n, len_str, ← c3]
                      · have c3n : ((i : Int) == ((L.length - 1 : Nat) : Int)) = false := by rw [beq_eq_false_iff_ne]; omega
                        simp [hl, h4, h5, h6, hix, guardA, c1', c1n, c2, c2n, hpw, c3n, len_str, c3]
                  · have c1' : ¬ b.toNat = 45 := by omega
                    have c1n : ((b.toNat : Int) != 45) = true := by simpa using c1
                    simp [hl, h4, h5, h6, hix, guardA, c1', c1n]
              · rintro e g3 ⟨hl, rfl, h4, h5, h63⟩
                apply WP.cond (by rw [ev_tmp]; exact h63)
                · intro hbad
                  have hbad : goodAt L i = false := by simpa using hbad
                  have hlab : labA s = ([], 90) := by
                    rw [href, if_neg]
                    rintro ⟨_, _, hh⟩
                    rw [hh i hlt1] at hbad
                    cases hbad
                  repeat apply WP.seq
                  apply WP.region; simp [hl]
                  apply WP.ret
                  simp [hl, resultsA, resultA, single, hlab]
                  exact hk1
                · intro hg
                  have hg : goodAt L i = true := by simpa using hg
                  apply WP.skip; simp
                  repeat apply WP.seq
                  apply WP.region; simp [hl, h5, int_wrap (show i < 9223372036854775807 by omega)]
                  refine ⟨L.length - (i + 1), by omega, h4, i + 1, by omega, rfl, by simp, fun j hj => ?_⟩
                  by_cases hji : j = i
                  · subst hji; exact hg
                  · exact hok j (by omega)
          · intro hge
            have hge : ¬ i < L.length := by simpa using hge
            have hi' : i = L.length := by omega
            subst hi'
            apply WP.exit
            try simp
            have hlab : labA s = (L, 0) := by rw [href, if_pos ⟨hgood.1, hgood.2, hok⟩]
            repeat apply WP.seq
            apply WP.region; simp [hl, h4]
            apply WP.ret
            simp [hl, resultsA, resultA, single, hlab]
            exact hk1
        · exact ⟨rfl, by simp [hl], by simp [hl, h4], 0, by omega, by omega, by simp [hl], fun j hj => by omega⟩
  obtain ⟨_, g, h1, rfl, h2⟩ := main
  exact ⟨g, h1, h2⟩
end
end Go.Am
