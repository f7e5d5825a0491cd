/- A part of the proof by the abstract machine: SChoose. -/
import Derived.Test.YtehccakjdbapiaaAmSOld
set_option linter.unusedSimpArgs false
namespace Go.Am
open Go.RowKit Go.Proofs

/-- The place of the first above a number. -/
def firstGt (last : Int) : List Nat → Nat → Int
  | [], _ => -1
  | a :: as', i => if last < (a : Int) then (i : Int) else firstGt last as' (i + 1)
theorem firstGt_lt (last : Int) : ∀ (l : List Nat) (i : Nat), firstGt last l i < (i + l.length : Nat) ∧ -1 ≤ firstGt last l i
  | [], i => by simp only [firstGt, List.length_nil]; omega
  | a :: l, i => by
    simp only [firstGt, List.length_cons]
    split
    · omega
    · have := firstGt_lt last l (i + 1); omega

def pickAt (p : Int) (n : Nat) : Int := if p.tmod n < 0 then p.tmod n + n else p.tmod n
/-- The place that is chosen, and the picks that are left. -/
def chooseP (picks : List Int) (bound : Int) (ages : List Int) (last : Int) (who : List Nat) : Int × List Int :=
  if bound ≤ at0 (agesOf ages who) (best (agesOf ages who) who.length) then (best (agesOf ages who) who.length, picks)
  else match picks with
    | p :: ps => (pickAt p who.length, ps)
    | [] => (max 0 (firstGt last who 0), [])

section
variable {ov : CallF}

theorem gt_ok (hov : ∀ a h, ov 30 a h = none) {h : Heap} {B C : Nat} (hB : h.get B = some (.cells [.ptr (some ⟨C, 0⟩)] .own)) {pv av : AV} {bound last : Int} (hg : h.get C = some (.cells [pv, .int .i64 bound, av, .int .i64 last] .own)) (a : Int) :
    callT ov Try.prog 30 [.int .i64 a, .ptr (some ⟨B, 0⟩)] h = some (.ret (.bool (decide (last < a))) h) := by
  have main : ∃ u g, callT ov Try.prog 30 [.int .i64 a, .ptr (some ⟨B, 0⟩)] h = some (.ret u g) ∧ u = .bool (decide (last < a)) ∧ g = h := by
    refine callT_wp (fn := Try.f30) (hov _ _) (by kernel_rfl) rfl ?_
    have hl : (frameA Try.f30 [.int .i64 a, .ptr (some ⟨B, 0⟩)]).length = 10 := frameA_length (Nat.le_of_ble_eq_true rfl)
    have h0 : nth (frameA Try.f30 [.int .i64 a, .ptr (some ⟨B, 0⟩)]) 0 = .int .i64 a := frameA_nth (Nat.le_of_ble_eq_true rfl)
    have h1 : nth (frameA Try.f30 [.int .i64 a, .ptr (some ⟨B, 0⟩)]) 1 = .ptr (some ⟨B, 0⟩) := frameA_nth (Nat.le_of_ble_eq_true rfl)
    generalize frameA Try.f30 [.int .i64 a, .ptr (some ⟨B, 0⟩)] = e at hl h0 h1
    have hl1 : loadA Try.prog h 25 ⟨B, 0⟩ = some (.ptr (some ⟨C, 0⟩)) := load_cell a25 hB rfl
    have hl2 : loadA Try.prog h 3 ⟨C, 3⟩ = some (.int .i64 last) := load_cell a3 hg rfl
    apply WP.seq; apply WP.region; simp [hl]
    apply WP.seq; apply WP.region; simp [hl, h0, h1, hl1, fa62, hl2]
    apply WP.ret
    simp [hl, resultsA, resultA, single]
  obtain ⟨_, _, h1, rfl, rfl⟩ := main
  exact h1

theorem index_ok (hov : ∀ a h, ov 30 a h = none) (hov' : ∀ a h, ov 29 a h = none) {h : Heap} {B C : Nat} (hB : h.get B = some (.cells [.ptr (some ⟨C, 0⟩)] .own)) {pv av : AV} {bound last : Int} (hg : h.get C = some (.cells [pv, .int .i64 bound, av, .int .i64 last] .own))
    {v : AV} {who : List Nat} (hs : Sl h v (nats who)) (hn : who.length ≤ 1000000000) :
    callT ov Try.prog 29 [v, .func (.func 30) [] [.ptr (some ⟨B, 0⟩)]] h = some (.ret (.int .i64 (firstGt last who 0)) h) := by
  have main : ∃ u g, callT ov Try.prog 29 [v, .func (.func 30) [] [.ptr (some ⟨B, 0⟩)]] h = some (.ret u g) ∧ u = .int .i64 (firstGt last who 0) ∧ g = h := by
    refine callT_wp (fn := Try.f29) (hov' _ _) (by kernel_rfl) rfl ?_
    have hl : (frameA Try.f29 [v, .func (.func 30) [] [.ptr (some ⟨B, 0⟩)]]).length = 19 := frameA_length (Nat.le_of_ble_eq_true rfl)
    have h0 : nth (frameA Try.f29 [v, .func (.func 30) [] [.ptr (some ⟨B, 0⟩)]]) 0 = v := frameA_nth (Nat.le_of_ble_eq_true rfl)
    have h1 : nth (frameA Try.f29 [v, .func (.func 30) [] [.ptr (some ⟨B, 0⟩)]]) 1 = .func (.func 30) [] [.ptr (some ⟨B, 0⟩)] := frameA_nth (Nat.le_of_ble_eq_true rfl)
    generalize frameA Try.f29 [v, .func (.func 30) [] [.ptr (some ⟨B, 0⟩)]] = e at hl h0 h1
    have hlen := hs.len u22
    have hca : ∀ args h, callA (callT ov Try.prog) Try.prog h 30 args = callT ov Try.prog 30 args h := fun args h => callA_of (fn := Try.f30) (by kernel_rfl) rfl
    repeat apply WP.seq
    apply WP.region; simp [hl]
    repeat apply WP.seq
    apply WP.region; simp [hl, h0, hlen]
    repeat apply WP.seq
    apply WP.block
    refine WP.loop (fun n e g => g = h ∧ e.length = 19 ∧ nth e 0 = v ∧ nth e 1 = .func (.func 30) [] [.ptr (some ⟨B, 0⟩)] ∧ nth e 7 = .int .i64 who.length ∧ ∃ i, i ≤ who.length ∧ n = who.length - i ∧ nth e 8 = .int .i64 (i : Nat) ∧ firstGt last who 0 = firstGt last (who.drop i) i) ?_ who.length _ _ ?_
    · rintro n e g ⟨rfl, hl, h0, h1, h7, i, hi, rfl, h8, hf⟩
      repeat apply WP.seq
      apply WP.region; simp [hl, h7, h8]
      repeat apply WP.seq
      apply WP.cond (by simp [hl]; rfl)
      · intro hlt1
        have hlt1 : i < who.length := by simpa using hlt1
        apply WP.skip; simp
        repeat apply WP.seq
        apply WP.block
        repeat apply WP.seq
        obtain ⟨a, hwa⟩ : ∃ a, who[i]? = some a := ⟨who[i], by simp [hlt1]⟩
        obtain ⟨l1, hl1, hl1', _⟩ := hs.at u22 s3 a3 (nats_get hwa) (k := .i64)
        have hdrop : who.drop i = a :: who.drop (i + 1) := by
          rw [List.drop_eq_getElem_cons hlt1]
          congr 1
          have := List.getElem?_eq_getElem hlt1
          rw [this] at hwa
          exact Option.some.inj hwa
        rw [hdrop] at hf
        apply WP.region; simp [hl, h8]
        repeat apply WP.seq
        apply WP.region; simp [hl, h0, h1, h8, hl1, hl1', hca, gt_ok hov hB hg]
        repeat apply WP.seq
        apply WP.cond (by simp [hl]; rfl)
        · intro hc
          have hc : last < (a : Int) := by simpa using hc
          repeat apply WP.seq
          apply WP.region; simp [hl]
          apply WP.ret
          simp [hl, resultsA, resultA, single, hf, firstGt, hc]
        · intro hc
          have hc : ¬ last < (a : Int) := by simpa using hc
          apply WP.skip; simp
          apply WP.region; simp [hl, h8, int_wrap (show i < 9223372036854775807 by omega)]
          refine ⟨who.length - (i + 1), by omega, h0, h1, h7, i + 1, by omega, rfl, by simp, ?_⟩
          rw [hf]
          simp only [firstGt, if_neg hc]
      · intro hge
        have hge : ¬ i < who.length := by simpa using hge
        have hi' : i = who.length := by omega
        subst hi'
        apply WP.exit
        simp
        repeat apply WP.seq
        apply WP.region; simp [hl]
        apply WP.ret
        simp [hl, resultsA, resultA, single, hf, firstGt]
    · refine ⟨rfl, by simp [hl], by simp [h0], by simp [h1], by simp [hl], 0, by omega, by omega, by simp [hl], by simp⟩
  obtain ⟨_, _, h1, rfl, rfl⟩ := main
  exact h1

theorem ChAt.keep {ex : List Nat} {h0 h : Heap} (hk : Keep ex h0 h) {C : Nat} {pv av : AV} {picks ages : List Int} {bound last : Int} (hC : ChAt h0 C pv av picks bound ages last) (hc : C ∉ ex) (hp : ∀ i, idOf pv = some i → i ∉ ex) (ha : ∀ i, idOf av = some i → i ∉ ex) : ChAt h C pv av picks bound ages last :=
  ⟨hk.get _ _ hC.1 hc, hC.2.1.keep hk hp, hC.2.2.1.keep hk ha, hC.2.2.2⟩

theorem pickAt_range (p : Int) {n : Nat} (hn : 0 < n) : 0 ≤ pickAt p n ∧ pickAt p n < n := by
  have h1 := Int.tmod_lt_of_pos p (show (0 : Int) < n by omega)
  have h2 : -(n : Int) < p.tmod n := by
    have := Int.tmod_lt_of_pos (-p) (show (0 : Int) < n by omega)
    rw [Int.neg_tmod] at this
    omega
  unfold pickAt
  split <;> omega

theorem chooseP_range {picks ages : List Int} {bound last : Int} {who : List Nat} (hne : who ≠ []) : 0 ≤ (chooseP picks bound ages last who).1 ∧ (chooseP picks bound ages last who).1 < who.length := by
  have hpos := List.length_pos_iff.2 hne
  have hb := best_lt (ws := agesOf ages who) (by rw [← List.length_pos_iff]; simpa using hpos) who.length (by simp)
  simp only [agesOf_length] at hb
  unfold chooseP
  split
  · simp only []; omega
  · split
    · exact pickAt_range _ hpos
    · have := firstGt_lt last who 0
      simp only []; omega

set_option maxHeartbeats 4000000 in
theorem choose_ok (h27 : ∀ a h, ov 27 a h = none) (h28 : ∀ a h, ov 28 a h = none) (h29 : ∀ a h, ov 29 a h = none) (h30 : ∀ a h, ov 30 a h = none) {h : Heap} (hw : Wf h) {C : Nat} {picks ages : List Int} {bound last : Int} {pv av : AV} (hC : ChAt h C pv av picks bound ages last)
    {v : AV} {who : List Nat} (hs : Sl h v (nats who)) (hn : who.length ≤ 1000000000) (hne : who ≠ []) (hlt : ∀ a ∈ who, a < ages.length) :
    ∃ h' pv', callT ov Try.prog 27 [.ptr (some ⟨C, 0⟩), v] h = some (.ret (.int .i64 (chooseP picks bound ages last who).1) h') ∧ ChAt h' C pv' av (chooseP picks bound ages last who).2 bound ages last ∧ ((chooseP picks bound ages last who).2 ≠ [] → picks ≠ [] ∧ idOf pv' = idOf pv) ∧ Keep [C] h h' := by
  have main : ∃ u h', callT ov Try.prog 27 [.ptr (some ⟨C, 0⟩), v] h = some (.ret u h') ∧ u = .int .i64 (chooseP picks bound ages last who).1 ∧ (∃ pv', ChAt h' C pv' av (chooseP picks bound ages last who).2 bound ages last ∧ ((chooseP picks bound ages last who).2 ≠ [] → picks ≠ [] ∧ idOf pv' = idOf pv)) ∧ Keep [C] h h' := by
    refine callT_wp (fn := Try.f27) (h27 _ _) (by kernel_rfl) rfl ?_
    have hl : (frameA Try.f27 [.ptr (some ⟨C, 0⟩), v]).length = 60 := frameA_length (Nat.le_of_ble_eq_true rfl)
    have h0 : nth (frameA Try.f27 [.ptr (some ⟨C, 0⟩), v]) 0 = .ptr (some ⟨C, 0⟩) := frameA_nth (Nat.le_of_ble_eq_true rfl)
    have h1 : nth (frameA Try.f27 [.ptr (some ⟨C, 0⟩), v]) 1 = v := frameA_nth (Nat.le_of_ble_eq_true rfl)
    generalize frameA Try.f27 [.ptr (some ⟨C, 0⟩), v] = e at hl h0 h1
    have hca28 : ∀ args h, callA (callT ov Try.prog) Try.prog h 28 args = callT ov Try.prog 28 args h := fun args h => callA_of (fn := Try.f28) (by kernel_rfl) rfl
    have hca29 : ∀ args h, callA (callT ov Try.prog) Try.prog h 29 args = callT ov Try.prog 29 args h := fun args h => callA_of (fn := Try.f29) (by kernel_rfl) rfl
    -- the box
    have hk1 : Keep [C] h (h.alloc (.cells [.ptr (some ⟨C, 0⟩)] .own)) := (Keep.refl hw).alloc _
    have hk0 : Keep [] h (h.alloc (.cells [.ptr (some ⟨C, 0⟩)] .own)) := (Keep.refl hw).alloc _
    have hC1 := hC.keep hk0 (by simp) (by simp) (by simp)
    have hs1 := hs.keep hk0 (by simp)
    have hB : (h.alloc (.cells [.ptr (some ⟨C, 0⟩)] .own)).get h.next = some (.cells [.ptr (some ⟨C, 0⟩)] .own) := Heap.get_alloc _ _
    have hbox : boxA h (.ptr (some ⟨C, 0⟩)) = some (.ptr (some ⟨h.next, 0⟩), h.alloc (.cells [.ptr (some ⟨C, 0⟩)] .own)) := rfl
    have hBC : h.next ≠ C := by have := hw _ _ hC.1; omega
    generalize hb1 : h.alloc (.cells [.ptr (some ⟨C, 0⟩)] .own) = g at hk1 hk0 hC1 hs1 hB hbox
    generalize hbn : h.next = B at hB hbox hBC
    have hC1' : ∃ pv', ChAt g C pv' av picks bound ages last ∧ (picks ≠ [] → picks ≠ [] ∧ idOf pv' = idOf pv) := ⟨_, hC1, fun h => ⟨h, rfl⟩⟩
    have hlen := hs1.len u22
    have hold := oldest_ok h28 hC1 hs1 hn hlt
    obtain ⟨hg, hp, ha, hpc, hac⟩ := id hC1
    have hb := best_lt (ws := agesOf ages who) (by rw [← List.length_pos_iff]; simpa [List.length_pos_iff] using hne) who.length (by simp)
    simp only [agesOf_length] at hb
    have hlB : loadA Try.prog g 25 ⟨B, 0⟩ = some (.ptr (some ⟨C, 0⟩)) := load_cell a25 hB rfl
    have hlC0 : loadA Try.prog g 22 ⟨C, 0⟩ = some pv := load_cell a22 hg rfl
    have hlC1 : loadA Try.prog g 3 ⟨C, 1⟩ = some (.int .i64 bound) := load_cell a3 hg rfl
    have hlC2 : loadA Try.prog g 22 ⟨C, 2⟩ = some av := load_cell a22 hg rfl
    obtain ⟨b, hwb⟩ : ∃ b, who[best (agesOf ages who) who.length]? = some b := ⟨who[best (agesOf ages who) who.length], by simp [hb]⟩
    have hbl : b < ages.length := hlt b (List.mem_of_getElem? hwb)
    obtain ⟨l3, hl3, hl3', _⟩ := hs1.at u22 s3 a3 (nats_get hwb) (k := .i64)
    obtain ⟨l4, hl4, hl4', _⟩ := ha.at u22 s3 a3 (ints_get (at0_get hbl)) (k := .i64)
    repeat apply WP.seq
    apply WP.region; simp [hl, h0, hbox]
    repeat apply WP.seq
    apply WP.region; simp [hl, h1, hlB, hca28, hold]
    repeat apply WP.seq
    apply WP.draw (by kernel_rfl) (by kernel_rfl)
    simp [hl, h1, hlB, fa62, hlC2, hl3, hl3', hl4, hl4', hlC1]
    repeat apply WP.seq
    apply WP.cond (by simp [hl]; rfl)
    · intro hc
      have hc : bound ≤ at0 (agesOf ages who) (best (agesOf ages who) who.length) := by rw [agesOf_get hwb]; simpa using hc
      repeat apply WP.seq
      apply WP.region; simp [hl]
      apply WP.ret
      simp [hl, resultsA, resultA, single, chooseP, hc, hk1]; exact hC1'
    · intro hc
      have hc : ¬ bound ≤ at0 (agesOf ages who) (best (agesOf ages who) who.length) := by rw [agesOf_get hwb]; simpa using hc
      apply WP.skip; simp
      repeat apply WP.seq
      apply WP.region; simp [hl, hlB, fa62, hlC0, hp.len u22]
      repeat apply WP.seq
      apply WP.cond (by simp [hl]; rfl)
      · intro hc2
        cases picks with
        | nil => simp at hc2
        | cons p ps =>
          have hpos := List.length_pos_iff.2 hne
          obtain ⟨l5, hl5, hl5', _⟩ := hp.at u22 s3 a3 (ints_get (i := 0) (x := p) rfl) (k := .i64)
          obtain ⟨pv', hsl, hp', hid⟩ := Sl.tail (x := .int .i64 p) (xs := ints ps) hp u22 s3 (k := .i64)
          have hr := pickAt_range p hpos
          have hne0 : ((who.length : Nat) : Int) ≠ 0 := by omega
          repeat apply WP.seq
          apply WP.region; simp at hl5; simp [hl, h1, hlB, fa62, hlC0, hl5, hl5', hlen, bin_rem hne0]
          obtain ⟨l', c', rfl⟩ := hp'.slice
          have hst := store_cell (P := Try.prog) s22 (v := .slice l' (ints ps).length c') rfl rfl hg (by simp) (o := 0) (by simp)
          simp only [List.set_cons_zero] at hst
          have hk2 : Keep [C] h (g.set C (.cells [.slice l' (ints ps).length c', .int .i64 bound, av, .int .i64 last] .own)) := hk1.set _ (hk1.wf _ _ hg) (.inl (by simp))
          have hkg : Keep [C] g (g.set C (.cells [.slice l' (ints ps).length c', .int .i64 bound, av, .int .i64 last] .own)) := (Keep.refl hk1.wf).set _ (hk1.wf _ _ hg) (.inl (by simp))
          have hC2 : ∃ pv', ChAt (g.set C (.cells [.slice l' (ints ps).length c', .int .i64 bound, av, .int .i64 last] .own)) C pv' av ps bound ages last ∧ (ps ≠ [] → (p :: ps) ≠ [] ∧ idOf pv' = idOf pv) := by
            refine ⟨_, ⟨Heap.get_set _ _ _, hp'.keep hkg ?_, ha.keep hkg ?_, ?_, hac⟩, ?_⟩
            · intro i hi hm
              have := hid i hi
              simp only [List.mem_singleton] at hm
              exact hpc (by rw [this, hm])
            · intro i hi hm
              simp only [List.mem_singleton] at hm
              exact hac (by rw [hi, hm])
            · intro hi
              exact hpc (hid _ hi)
            · intro hne
              refine ⟨by simp, ?_⟩
              cases l' with
              | none => have := hp'.1; simp at this; exact absurd this hne
              | some l' => exact (hid _ rfl).symm
          have hcp : chooseP (p :: ps) bound ages last who = (pickAt p who.length, ps) := by simp only [chooseP, if_neg hc]
          rw [hcp]
          generalize g.set C (.cells [.slice l' (ints ps).length c', .int .i64 bound, av, .int .i64 last] .own) = g2 at hst hk2 hC2
          repeat apply WP.seq
          apply WP.draw (by kernel_rfl) (by kernel_rfl)
          simp at hst
          simp at hsl
          simp [hl, hlB, fa62, hlC0, hsl, storeR_ptr hst]
          repeat apply WP.seq
          apply WP.region; simp [hl]
          repeat apply WP.seq
          have hlen2 := hs.len u22
          apply WP.cond (by simp [hl]; rfl)
          · intro hq
            have hq : p.tmod who.length < 0 := by simpa using hq
            have hpa : pickAt p who.length = p.tmod who.length + who.length := by simp only [pickAt, if_pos hq]
            have hlenx : ∀ h, lenA Try.prog h 22 v = some (.int .i64 ((nats who).length : Nat)) := by
              intro h; obtain ⟨l, c, rfl⟩ := hs.slice; exact lenA_slice u22
            apply WP.region; simp [hl, h1, hlenx, wrap_small (show -9223372036854775808 ≤ p.tmod who.length + who.length by omega) (by omega)]
            repeat apply WP.seq
            apply WP.region; simp [hl]
            apply WP.ret
            simp [hl, resultsA, resultA, single, hpa, hk2]; simpa using hC2
          · intro hq
            have hq : ¬ p.tmod who.length < 0 := by simpa using hq
            have hpa : pickAt p who.length = p.tmod who.length := by simp only [pickAt, if_neg hq]
            apply WP.skip; simp
            repeat apply WP.seq
            apply WP.region; simp [hl]
            apply WP.ret
            simp [hl, resultsA, resultA, single, hpa, hk2]; simpa using hC2
      · intro hc2
        cases picks with
        | cons p ps => simp at hc2
        | nil =>
          have hcp : chooseP [] bound ages last who = (max 0 (firstGt last who 0), []) := by simp only [chooseP, if_neg hc]
          have hm : (if 0 < firstGt last who 0 then firstGt last who 0 else 0) = max 0 (firstGt last who 0) := by rw [Int.max_def]; split <;> split <;> omega
          have hix := index_ok h30 h29 hB hg hs1 hn
          rw [hcp]
          apply WP.skip; simp
          repeat apply WP.seq
          apply WP.region; simp [hl, h1, hca29, hix, hm]
          apply WP.ret
          simp [hl, resultsA, resultA, single, hk1]; simpa using hC1'
  obtain ⟨_, h', h1, rfl, ⟨pv', h2, h4⟩, h3⟩ := main
  exact ⟨h', pv', h1, h2, h4, h3⟩
end
end Go.Am
