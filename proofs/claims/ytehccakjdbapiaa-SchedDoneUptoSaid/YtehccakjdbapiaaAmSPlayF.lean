/- A part of the proof by the abstract machine: SPlayF. -/
import Derived.Test.YtehccakjdbapiaaAmSPlayP
set_option linter.unusedSimpArgs false
namespace Go.Am
open Go.RowKit Go.Proofs

def invR (call : CallF) (P : Program) (h : Heap) (name : String) (r : AV) (args : List AV) : Option CRes := match r with
  | .iface t v => (match methodA P t name with
    | some g => callA call P h g (v :: args)
    | none => none)
  | _ => none
theorem op_invoke {call : CallF} {P : Program} {e : List AV} {h : Heap} {r : Operand} {name : String} {xs : Array Operand} {ats : Array TypeId} : opA call P e h (.call ⟨.invoke r name, xs, ats⟩) = invR call P h name (evalA P e r) (evals P e xs.toList) := rfl
theorem invR_iface {call : CallF} {P : Program} {h : Heap} {name : String} {t : TypeId} {v : AV} {args : List AV} {g : FuncId} (hm : methodA P t name = some g) : invR call P h name (.iface t v) args = callA call P h g (v :: args) := by simp only [invR, hm]

/-- One element is appended; what is lost is told. -/
theorem Acc.pushX {P : Program} {n0 : Nat} {ex : List Nat} {h : Heap} {v : AV} {xs : List AV} (ha : Acc n0 h v xs) (hw : Wf h) (hex : ∀ i, idOf v = some i → i ∈ ex) (hn' : n0 ≤ h.next) {t el : TypeId} (hu : P.underlying t = some (.slice el)) (h1 : sizeA P el = some 1) (hroom : roomA P el (xs.length + 1) = true)
    {x y : AV} (hy : Sl h y [x]) (hok : cellOk x = true) : ∃ v' h', appendA P h t t v y = some (v', h') ∧ Acc n0 h' v' (xs ++ [x]) ∧ Keep ex h h' ∧ (∀ i, idOf v' = some i → h.next ≤ i) := by
  have hsrc := hy.src (P := P) hu (by simp [cellsOk, hok])
  have hk := Keep.refl (ex := ex) hw
  rcases ha with ⟨rfl, l, rfl, hl⟩ | ⟨i, hi, hne, rfl, hg⟩
  · simp only [List.length_nil, Nat.zero_add] at hroom
    refine ⟨.slice (some ⟨h.next, 0⟩) 1 (.tip 1), h.alloc (.cells [x] .own), ?_, .inr ⟨h.next, hn', by simp, by simp, Heap.get_alloc _ _⟩, hk.alloc _, by simp [idOf]⟩
    cases l with
    | none => simp only [appendA, hu, h1, hsrc, List.length_singleton, Nat.zero_add, hroom, cond_true]
    | some y =>
      obtain ⟨_, hx0, cs, hgx⟩ := hl y rfl
      have hb : Nat.ble 1 0 = false := rfl
      have hrd : readA h y (0 * 1) = some [] := by
        have : Nat.ble y.off cs.length = true := by rw [ble_iff, hx0]; omega
        simp [readA, hgx, this]
      simp only [appendA, hu, h1, hsrc, List.length_singleton, Nat.zero_add, hroom, cond_true, hb, cond_false, hrd, List.nil_append]
  · refine ⟨.slice (some ⟨h.next, 0⟩) (xs.length + 1) (.tip 1), (h.del i).alloc (.cells (xs ++ [x]) .own), ?_, .inr ⟨h.next, hn', by simp, by simp, Heap.get_alloc _ _⟩, (hk.del (.inl (hex i rfl))).alloc _, by simp [idOf]⟩
    have hb : Nat.ble (0 + (xs.length + 1) * 1) xs.length = false := by
      cases hb : Nat.ble (0 + (xs.length + 1) * 1) xs.length with
      | false => rfl
      | true => rw [ble_iff] at hb; omega
    have hb2 : Nat.beq (0 + xs.length * 1) xs.length = true := by simp
    have hx : cellsOk [x] = true := by simp [cellsOk, hok]
    simp only [appendA, hu, h1, hsrc, List.length_singleton, hroom, cond_true, hg, hb, cond_false]
    rw [hb2]
    simp only [hx, Bool.and_true, cond_true, List.drop_zero]
    rfl

/-- A job's own box. -/
theorem fresh49 {h : Heap} (hw : Wf h) (x y : Int) : ∃ B g1 g2, allocA Try.prog h 49 = some (.ptr (some ⟨B, 0⟩), g1) ∧ storeA Try.prog g1 49 ⟨B, 0⟩ (.agg [.int .i64 x, .int .i64 y]) = some g2 ∧ Keep [] h g2 ∧ g2.get B = some (.cells [.int .i64 x, .int .i64 y] .own) ∧ h.next ≤ B ∧ B < g2.next ∧ Keep [] h g1 := by
  have hk1 := (Keep.refl (ex := []) hw).alloc (.cells [.int .i64 0, .int .i64 0] .own)
  have hg1 := Heap.get_alloc h (.cells [.int .i64 0, .int .i64 0] .own)
  have hb := hk1.wf _ _ hg1
  have hk2 := hk1.set (.cells [.int .i64 x, .int .i64 y] .own) hb (.inr (Nat.le_refl _))
  exact ⟨_, _, _, alloc49, store_whole (P := Try.prog) s49 hg1 rfl (ds := [.int .i64 x, .int .i64 y]) rfl rfl, hk2, Heap.get_set _ _ _, Nat.le_refl _, hk2.wf _ _ (Heap.get_set _ _ _), hk1⟩
theorem cellsOk_rowsJ : ∀ {jobs : List (Int × Int)}, cellsOk (rowsJ jobs).flatten = true
  | [] => rfl
  | j :: jobs => by
    have := cellsOk_rowsJ (jobs := jobs)
    simp only [rowsJ] at this
    simp only [rowsJ, List.map_cons, List.flatten_cons, List.cons_append, List.nil_append, cellsOk, this, cellOk, Bool.true_and]
theorem rowsJ_append (a b : List (Int × Int)) : rowsJ (a ++ b) = rowsJ a ++ rowsJ b := by simp [rowsJ]
theorem slr_one {h : Heap} {B : Nat} {r : List AV} (hg : h.get B = some (.cells r .own)) {s : Nat} (hr : r.length = s) {c : Cap} : Slr h s (.slice (some ⟨B, 0⟩) 1 c) [r] := by
  refine ⟨by simp [hr], rfl, .inr ⟨r, .own, hg, by simp only []; omega, ?_⟩⟩
  simp [← hr]

section
variable {ov : CallF}

theorem cut_ok (o17 : ∀ a h, ov 17 a h = none) {h : Heap} (hw : Wf h) {v : AV} {jobs : List (Int × Int)} (hs : Slr h 2 v (rowsJ jobs)) (hn : jobs.length ≤ 2000000) :
    ∃ v' h', callT ov Try.prog 17 [v] h = some (.ret v' h') ∧ Slr h' 2 v' (rowsJ (jobs.take 20)) ∧ Keep [] h h' := by
  refine callT_wp (fn := Try.f17) (o17 _ _) (by kernel_rfl) rfl ?_
  have hl : (frameA Try.f17 [v]).length = 26 := frameA_length (Nat.le_of_ble_eq_true rfl)
  have h0 : nth (frameA Try.f17 [v]) 0 = v := frameA_nth (Nat.le_of_ble_eq_true rfl)
  generalize frameA Try.f17 [v] = e at hl h0
  have hlen : ∀ h, lenA Try.prog h 41 v = some (.int .i64 (jobs.length : Nat)) := fun h' => by simpa [rowsJ_length] using hs.len (P := Try.prog) h' u41
  repeat apply WP.seq
  apply WP.region; simp [hl]
  repeat apply WP.seq
  have hk0 := (Keep.refl (ex := []) hw).alloc (.cells [] .own)
  have hacc0 : Accr h.next (h.alloc (.cells [] .own)) 2 (.slice (some ⟨h.next, 0⟩) 0 (.exact 0)) (rowsJ (([] : List (Int × Int)))) := ⟨by simp [rowsJ], .inl ⟨rfl, _, rfl, fun _ hx => by cases hx; exact ⟨Nat.le_refl _, rfl, _, Heap.get_alloc _ _⟩⟩⟩
  apply WP.region; simp [hl, build41]
  generalize h.alloc (.cells [] .own) = g at hk0 hacc0
  repeat apply WP.seq
  apply WP.region; simp [hl, h0, hlen]
  repeat apply WP.seq
  apply WP.block
  refine WP.loop (fun k e g' => e.length = 26 ∧ nth e 7 = v ∧ nth e 8 = .int .i64 jobs.length ∧ Keep [] h g' ∧ ∃ i, i ≤ jobs.length ∧ k = jobs.length - i ∧ nth e 9 = .int .i64 (i : Nat) ∧ Accr h.next g' 2 (nth e 3) (rowsJ ((jobs.take i).take 20))) ?_ jobs.length _ _ ?_
  · rintro k e g' ⟨hl, h7, h8, hk, i, hi, rfl, h9, hacc⟩
    repeat apply WP.seq
    apply WP.region; simp [hl, h8, h9]
    repeat apply WP.seq
    apply WP.cond (by simp [hl]; rfl)
    · intro hlt1
      have hlt1 : i < jobs.length := by simpa using hlt1
      apply WP.skip; simp
      repeat apply WP.seq
      apply WP.block
      repeat apply WP.seq
      have hji : jobs[i]? = some jobs[i] := List.getElem?_eq_getElem hlt1
      generalize jobs[i] = j at hji
      have hsg : Slr g' 2 v (rowsJ jobs) := hs.keep' hk (by simp)
      obtain ⟨l1, hl1, hl1', _⟩ := hsg.at (P := Try.prog) u41 s49 a49 (rowsJ_get hji) (k := .i64)
      obtain ⟨B, g1, g2, hal, hst, hk2, hg2, hB, hB', _⟩ := fresh49 hk.wf j.1 j.2
      have hacc2 := hacc.keep hk2 (by simp)
      have hkh2 := hk.trans hk2
      have hle := hk.le
      have ht : jobs.take (i + 1) = jobs.take i ++ [j] := by rw [List.take_add_one, hji]; rfl
      have hld0 : loadA Try.prog g2 3 ⟨B, 0⟩ = some (.int .i64 j.1) := load_cell a3 hg2 rfl
      have hld1 : loadA Try.prog g2 3 ⟨B, 1⟩ = some (.int .i64 j.2) := load_cell a3 hg2 rfl
      apply WP.region; simp [hl, h7, h9, hl1, hl1', hal, storeR_ptr hst]
      repeat apply WP.seq
      apply WP.region; simp [hl, h9]
      repeat apply WP.seq
      apply WP.cond (by simp [hl]; rfl)
      · intro hc
        have hc : i < 20 := by
          have : (i : Int) < 20 := by simpa using hc
          omega
        have hk3 := hkh2.alloc (.cells [.int .i64 j.1, .int .i64 j.2] .own)
        have hacc3 := hacc2.keep ((Keep.refl (ex := []) hk2.wf).alloc (.cells [.int .i64 j.1, .int .i64 j.2] .own)) (by simp)
        have hg3 := Heap.get_alloc g2 (.cells [.int .i64 j.1, .int .i64 j.2] .own)
        have hbs := build41_1 (h := g2) (k := .i64) (k' := .i64) (x := j.1) (y := j.2)
        generalize g2.alloc (.cells [.int .i64 j.1, .int .i64 j.2] .own) = g3 at hk3 hacc3 hg3 hbs
        have hlen3 := rowsJ_length ((jobs.take i).take 20)
        obtain ⟨v', g4, hap, hacc4, hk4, _⟩ := hacc3.push (P := Try.prog) hk3 (Nat.le_refl _) (by have := hk3.le; omega) u41 s49 (by omega) (slr_one hg3 rfl (c := .exact 1)) (by simp [cellsOk, cellOk]) (fun _ => room49 (by simp [rowsJ_length]; omega))
        have hfin : rowsJ ((jobs.take i).take 20) ++ [[.int .i64 j.1, .int .i64 j.2]] = rowsJ ((jobs.take (i + 1)).take 20) := by
          have h1 : (jobs.take i).take 20 = jobs.take i := List.take_of_length_le (by simp; omega)
          have h2 : (jobs.take (i + 1)).take 20 = jobs.take (i + 1) := List.take_of_length_le (by simp; omega)
          rw [h1, h2, ht, rowsJ_append]; rfl
        rw [hfin] at hacc4
        apply WP.region; simp [hl, fa49, hld0, hld1, build49, hbs, hap]
        apply WP.region; simp [hl, h9, int_wrap (show i < 9223372036854775807 by omega)]
        exact ⟨jobs.length - (i + 1), by omega, h7, h8, hk4, i + 1, by omega, rfl, by simp, hacc4⟩
      · intro hc
        have hc : ¬ i < 20 := by
          have : ¬ (i : Int) < 20 := by simpa using hc
          omega
        have hfin : (jobs.take i).take 20 = (jobs.take (i + 1)).take 20 := by
          rw [List.take_take, List.take_take]; congr 1; omega
        rw [hfin] at hacc2
        apply WP.skip; simp
        apply WP.region; simp [hl, h9, int_wrap (show i < 9223372036854775807 by omega)]
        exact ⟨jobs.length - (i + 1), by omega, h7, h8, hkh2, i + 1, by omega, rfl, by simp, hacc2⟩
    · intro hge
      have hge : ¬ i < jobs.length := by simpa using hge
      apply WP.exit
      simp
      repeat apply WP.seq
      apply WP.region; simp [hl]
      apply WP.ret
      have hi' : jobs.take i = jobs := List.take_of_length_le (by omega)
      rw [hi'] at hacc
      have hsl := hacc.slr
      obtain ⟨l, c, hv⟩ := hsl.slice
      rw [hv] at hsl
      simp [hl, hv, resultsA, resultA, single]
      exact ⟨hsl, hk⟩
  · refine ⟨by simp [hl], by simp [hl], by simp [hl], hk0, 0, by omega, by omega, by simp [hl], by simpa [hl] using hacc0⟩

theorem same_ok (o20 : ∀ a h, ov 20 a h = none) {h : Heap} {u v : AV} {xs ys : List Int} (hx : Sl h u (ints xs)) (hy : Sl h v (ints ys)) (hn : xs.length ≤ 2000000) (he : xs = ys) :
    callT ov Try.prog 20 [u, v] h = some (.ret (.bool true) h) := by
  subst he
  have main : ∃ r g, callT ov Try.prog 20 [u, v] h = some (.ret r g) ∧ r = .bool true ∧ g = h := by
    refine callT_wp (fn := Try.f20) (o20 _ _) (by kernel_rfl) rfl ?_
    have hl : (frameA Try.f20 [u, v]).length = 26 := frameA_length (Nat.le_of_ble_eq_true rfl)
    have h0 : nth (frameA Try.f20 [u, v]) 0 = u := frameA_nth (Nat.le_of_ble_eq_true rfl)
    have h1 : nth (frameA Try.f20 [u, v]) 1 = v := frameA_nth (Nat.le_of_ble_eq_true rfl)
    generalize frameA Try.f20 [u, v] = e at hl h0 h1
    have hlu := hx.len (P := Try.prog) u22
    have hlv := hy.len (P := Try.prog) u22
    rw [ints_length] at hlu hlv
    repeat apply WP.seq
    apply WP.region; simp [hl]
    repeat apply WP.seq
    apply WP.region; simp [hl, h0, h1, hlu, hlv]
    repeat apply WP.seq
    apply WP.cond (t := false) (by simp [hl]) (by simp)
    intro _
    apply WP.skip; simp
    repeat apply WP.seq
    apply WP.region; simp [hl]
    repeat apply WP.seq
    apply WP.block
    refine WP.loop (fun k e g' => h = g' ∧ e.length = 26 ∧ nth e 0 = u ∧ nth e 1 = v ∧ ∃ i, i ≤ xs.length ∧ k = xs.length - i ∧ nth e 5 = .int .i64 (i : Nat)) ?_ xs.length _ _ ?_
    · rintro k e _ ⟨rfl, hl, h0, h1, i, hi, rfl, h5⟩
      repeat apply WP.seq
      apply WP.region; simp [hl, h0, h5, hlu]
      repeat apply WP.seq
      apply WP.cond (by simp [hl]; rfl)
      · intro hlt1
        have hlt1 : i < xs.length := by simpa using hlt1
        apply WP.skip; simp
        repeat apply WP.seq
        apply WP.block
        repeat apply WP.seq
        have hji : xs[i]? = some xs[i] := List.getElem?_eq_getElem hlt1
        obtain ⟨l1, hl1, hl1', _⟩ := hx.at (P := Try.prog) u22 s3 a3 (ints_get hji) (k := .i64)
        obtain ⟨l2, hl2, hl2', _⟩ := hy.at (P := Try.prog) u22 s3 a3 (ints_get hji) (k := .i64)
        apply WP.draw (by kernel_rfl) (by kernel_rfl)
        simp [hl, h0, h1, h5, hl1, hl1', hl2, hl2']
        repeat apply WP.seq
        apply WP.cond (t := false) (by simp [hl]) (by simp)
        intro _
        apply WP.skip; simp
        apply WP.region; simp [hl, h5, int_wrap (show i < 9223372036854775807 by omega)]
        exact ⟨xs.length - (i + 1), by omega, h0, h1, i + 1, by omega, rfl, by simp⟩
      · intro hge
        apply WP.exit
        simp
        repeat apply WP.seq
        apply WP.region; simp [hl]
        apply WP.ret
        simp [hl, resultsA, resultA, single]
    · exact ⟨rfl, by simp [hl], by simp [hl, h0], by simp [hl, h1], 0, by omega, by omega, by simp [hl]⟩
  obtain ⟨_, _, h1, rfl, rfl⟩ := main
  exact h1

theorem newLog_ok (o21 : ∀ a h, ov 21 a h = none) {h : Heap} (hw : Wf h) :
    ∃ L h', callT ov Try.prog 21 [] h = some (.ret (.ptr (some ⟨L, 0⟩)) h') ∧ h'.get L = some (.cells [.slice none 0 (.exact 0), .int .i64 0] .own) ∧ Keep [] h h' ∧ h.next ≤ L ∧ L < h'.next := by
  have main : ∃ r g, callT ov Try.prog 21 [] h = some (.ret r g) ∧ r = .ptr (some ⟨h.next, 0⟩) ∧ g = h.alloc (.cells [.slice none 0 (.exact 0), .int .i64 0] .own) := by
    refine callT_wp (fn := Try.f21) (o21 _ _) (by kernel_rfl) rfl ?_
    have hl : (frameA Try.f21 []).length = 3 := frameA_length (Nat.le_of_ble_eq_true rfl)
    generalize frameA Try.f21 [] = e at hl
    have hbx := box_agg (h := h) (vs := [.slice none 0 (.exact 0), .int .i64 0]) rfl
    repeat apply WP.seq
    apply WP.region; simp [hl]
    repeat apply WP.seq
    apply WP.region; simp [hl, build68, hbx]
    apply WP.ret
    simp [hl, resultsA, resultA, single]
  obtain ⟨_, _, h1, rfl, rfl⟩ := main
  have hk := (Keep.refl (ex := []) hw).alloc (.cells [.slice none 0 (.exact 0), .int .i64 0] .own)
  exact ⟨_, _, h1, Heap.get_alloc _ _, hk, Nat.le_refl _, hk.wf _ _ (Heap.get_alloc _ _)⟩

/-- A copy that is the caller's own, or nothing. -/
theorem clone_own (hov : ∀ a h, ov 25 a h = none) {h : Heap} (hw : Wf h) {v : AV} {xs : List Int} (hs : Sl h v (ints xs)) (hn : xs.length ≤ 1000000000) :
    ∃ v' h', callT ov Try.prog 25 [v] h = some (.ret v' h') ∧ Sl h' v' (ints xs) ∧ (∃ l c, v' = .slice l xs.length c) ∧ (xs ≠ [] → ∃ i, Own h' v' i (ints xs) ∧ h.next ≤ i) ∧ Keep [] h h' := by
  refine callT_wp (fn := Try.f25) (hov _ _) (by kernel_rfl) rfl ?_
  have hl : (frameA Try.f25 [v]).length = 8 := frameA_length (Nat.le_of_ble_eq_true rfl)
  have h0 : nth (frameA Try.f25 [v]) 0 = v := frameA_nth (Nat.le_of_ble_eq_true rfl)
  generalize frameA Try.f25 [v] = e at hl h0
  obtain ⟨l, c, rfl⟩ := hs.slice
  apply WP.seq; apply WP.region; simp [hl, h0]
  apply WP.seq; apply WP.seq; apply WP.region; simp [hl, h0, bin_slnil u22]
  apply WP.cond (t := l.isNone) (by simp [hl])
  · intro hn
    obtain rfl : l = none := by simpa using hn
    obtain ⟨h1, h2⟩ := hs
    have hx : xs = [] := List.length_eq_zero_iff.1 (by simpa using h1)
    subst hx
    apply WP.seq; apply WP.region; simp [hl, h0]
    apply WP.ret
    simp [hl, h0, resultsA, resultA, single, Sl, idOf, Keep.refl hw, ints]
  · intro _
    apply WP.skip; simp
    obtain ⟨v', h', i, hap, hown, hi, hk⟩ := hs.clone hw u22 s3 (fun _ => room3 (by simpa using hn)) ints_ok
    have hsl := hown.sl
    have hown' := hown
    obtain ⟨c', ⟨rfl, _⟩, hg⟩ := hown
    simp at hap
    apply WP.seq; apply WP.region; simp [hl, h0, build22, hap]
    apply WP.ret
    simp [hl, resultsA, resultA, single, hk]
    rw [ints_length] at hsl hown'
    exact ⟨hsl, fun _ => ⟨i, hown', hi⟩⟩

theorem logDone_ok (o22 : ∀ a h, ov 22 a h = none) (o25 : ∀ a h, ov 25 a h = none) {h : Heap} (hw : Wf h) {L : Nat} {dv n : AV} {xs : List Int} (hg : h.get L = some (.cells [dv, n] .own)) (hs : Sl h dv (ints xs)) (hn : xs.length ≤ 1000000000) :
    ∃ v' h', callT ov Try.prog 22 [.ptr (some ⟨L, 0⟩)] h = some (.ret v' h') ∧ Sl h' v' (ints xs) ∧ (∃ l c, v' = .slice l xs.length c) ∧ (xs ≠ [] → ∃ i, Own h' v' i (ints xs) ∧ h.next ≤ i) ∧ Keep [] h h' := by
  obtain ⟨v', h', hc, hsl, ⟨l, c, rfl⟩, hown, hk⟩ := clone_own o25 hw hs hn
  have main : ∃ r g, callT ov Try.prog 22 [.ptr (some ⟨L, 0⟩)] h = some (.ret r g) ∧ r = .slice l xs.length c ∧ g = h' := by
    refine callT_wp (fn := Try.f22) (o22 _ _) (by kernel_rfl) rfl ?_
    have hl : (frameA Try.f22 [.ptr (some ⟨L, 0⟩)]).length = 8 := frameA_length (Nat.le_of_ble_eq_true rfl)
    have h0 : nth (frameA Try.f22 [.ptr (some ⟨L, 0⟩)]) 0 = .ptr (some ⟨L, 0⟩) := frameA_nth (Nat.le_of_ble_eq_true rfl)
    generalize frameA Try.f22 [.ptr (some ⟨L, 0⟩)] = e at hl h0
    have hca25 : ∀ args h, callA (callT ov Try.prog) Try.prog h 25 args = callT ov Try.prog 25 args h := fun args h => callA_of (fn := Try.f25) (by kernel_rfl) rfl
    have hld : loadA Try.prog h 22 ⟨L, 0⟩ = some dv := load_cell a22 hg rfl
    repeat apply WP.seq
    apply WP.region; simp [hl]
    repeat apply WP.seq
    apply WP.region; simp [hl, h0, fa68, hld, hca25, hc]
    apply WP.ret
    simp [hl, resultsA, resultA, single]
  obtain ⟨_, _, h1, rfl, rfl⟩ := main
  exact ⟨_, _, h1, hsl, ⟨l, c, rfl⟩, hown, hk⟩

theorem add_ok (o23 : ∀ a h, ov 23 a h = none) {h : Heap} (hw : Wf h) {L : Nat} {dv : AV} {n : Nat} (hg : h.get L = some (.cells [dv, .int .i64 (n : Int)] .own)) (hn : n ≤ 1000000000) (x y : Int) :
    ∃ W h', callT ov Try.prog 23 [.ptr (some ⟨L, 0⟩), .agg [.int .i64 x, .int .i64 y]] h = some (.ret (.iface 69 (.ptr (some ⟨W, 0⟩))) h') ∧ h'.get L = some (.cells [dv, .int .i64 ((n + 1 : Nat) : Int)] .own) ∧
      h'.get W = some (.cells [.ptr (some ⟨L, 0⟩), .int .i64 x, .int .i64 y, .int .i64 (n : Int), .int .i64 0] .own) ∧ Keep [L] h h' ∧ h.next ≤ W ∧ W < h'.next := by
  have hlt := hw _ _ hg
  have hbx := box_agg (h := h) (vs := [.int .i64 x, .int .i64 y]) rfl
  have hk1 := (Keep.refl (ex := [L]) hw).alloc (.cells [.int .i64 x, .int .i64 y] .own)
  have hg1 := Heap.get_alloc h (.cells [.int .i64 x, .int .i64 y] .own)
  have hgL1 := ((Keep.refl (ex := []) hw).alloc (.cells [.int .i64 x, .int .i64 y] .own)).get _ _ hg (by simp)
  generalize h.alloc (.cells [.int .i64 x, .int .i64 y] .own) = g1 at hbx hk1 hg1 hgL1
  have hst : storeA Try.prog g1 3 ⟨L, 1⟩ (.int .i64 ((n + 1 : Nat) : Int)) = some (g1.set L (.cells [dv, .int .i64 ((n + 1 : Nat) : Int)] .own)) := store_cell s3 rfl rfl hgL1 (by simp) (by simp)
  have hk1l := hk1.le
  have hk2 := hk1.set (.cells [dv, .int .i64 ((n + 1 : Nat) : Int)] .own) (by omega) (.inl (List.mem_singleton.2 rfl))
  have hg2 := Heap.get_set g1 L (.cells [dv, .int .i64 ((n + 1 : Nat) : Int)] .own)
  have hgB := (Keep.refl (ex := [L]) hk1.wf).set (.cells [dv, .int .i64 ((n + 1 : Nat) : Int)] .own) (by omega) (.inl (List.mem_singleton.2 rfl)) |>.get _ _ hg1 (by simp; omega)
  generalize g1.set L (.cells [dv, .int .i64 ((n + 1 : Nat) : Int)] .own) = g2 at hst hk2 hg2 hgB
  have hbx2 := box_agg (h := g2) (vs := [.ptr (some ⟨L, 0⟩), .int .i64 x, .int .i64 y, .int .i64 (n : Int), .int .i64 0]) rfl
  have hk3 := hk2.alloc (.cells [.ptr (some ⟨L, 0⟩), .int .i64 x, .int .i64 y, .int .i64 (n : Int), .int .i64 0] .own)
  have hg3 := Heap.get_alloc g2 (.cells [.ptr (some ⟨L, 0⟩), .int .i64 x, .int .i64 y, .int .i64 (n : Int), .int .i64 0] .own)
  have hgL3 := ((Keep.refl (ex := []) hk2.wf).alloc (.cells [.ptr (some ⟨L, 0⟩), .int .i64 x, .int .i64 y, .int .i64 (n : Int), .int .i64 0] .own)).get _ _ hg2 (by simp)
  generalize g2.alloc (.cells [.ptr (some ⟨L, 0⟩), .int .i64 x, .int .i64 y, .int .i64 (n : Int), .int .i64 0] .own) = g3 at hbx2 hk3 hg3 hgL3
  have hl1 : loadA Try.prog g1 3 ⟨L, 1⟩ = some (.int .i64 (n : Int)) := load_cell a3 hgL1 rfl
  have hl2 : loadA Try.prog g2 3 ⟨L, 1⟩ = some (.int .i64 ((n + 1 : Nat) : Int)) := load_cell a3 hg2 rfl
  have hlB := load_whole (P := Try.prog) a49 s49 hgB rfl
  have hk2l := hk2.le
  have main : ∃ r g, callT ov Try.prog 23 [.ptr (some ⟨L, 0⟩), .agg [.int .i64 x, .int .i64 y]] h = some (.ret r g) ∧ r = .iface 69 (.ptr (some ⟨g2.next, 0⟩)) ∧ g = g3 := by
    refine callT_wp (fn := Try.f23) (o23 _ _) (by kernel_rfl) rfl ?_
    have hl : (frameA Try.f23 [.ptr (some ⟨L, 0⟩), .agg [.int .i64 x, .int .i64 y]]).length = 22 := frameA_length (Nat.le_of_ble_eq_true rfl)
    have h0 : nth (frameA Try.f23 [.ptr (some ⟨L, 0⟩), .agg [.int .i64 x, .int .i64 y]]) 0 = .ptr (some ⟨L, 0⟩) := frameA_nth (Nat.le_of_ble_eq_true rfl)
    have h1 : nth (frameA Try.f23 [.ptr (some ⟨L, 0⟩), .agg [.int .i64 x, .int .i64 y]]) 1 = .agg [.int .i64 x, .int .i64 y] := frameA_nth (Nat.le_of_ble_eq_true rfl)
    generalize frameA Try.f23 [.ptr (some ⟨L, 0⟩), .agg [.int .i64 x, .int .i64 y]] = e at hl h0 h1
    repeat apply WP.seq
    apply WP.region; simp [hl, h1, hbx]
    repeat apply WP.seq
    have hst' : storeA Try.prog g1 3 ⟨L, 1⟩ (.int .i64 ((n : Int) + 1)) = some g2 := hst
    apply WP.region; simp [hl, h0, fa68, hl1, wrap_small (show -9223372036854775808 ≤ (n : Int) + 1 by omega) (by omega), storeR_ptr hst']
    repeat apply WP.seq
    have hl2' : loadA Try.prog g2 3 ⟨L, 1⟩ = some (.int .i64 ((n : Int) + 1)) := hl2
    apply WP.draw (by kernel_rfl) (by kernel_rfl)
    simp [hl, h0, fa68, hlB, hl2', wrap_small (show -9223372036854775808 ≤ (n : Int) by omega) (by omega), build71, hbx2, mk69]
    apply WP.ret
    simp [hl, resultsA, resultA, single]
  obtain ⟨_, _, h1, rfl, rfl⟩ := main
  exact ⟨_, _, h1, hgL3, hg3, hk3, by omega, hk3.wf _ _ hg3⟩

/-- Whether a worker is ready. -/
theorem ready_ok (o46 : ∀ a h, ov 46 a h = none) {h : Heap} {W L : Nat} {x y i c : Int} {dv n : AV} {xs : List Int} (hg : h.get W = some (.cells [.ptr (some ⟨L, 0⟩), .int .i64 x, .int .i64 y, .int .i64 i, .int .i64 c] .own)) (hL : h.get L = some (.cells [dv, n] .own)) (hs : Sl h dv (ints xs)) :
    callT ov Try.prog 46 [.ptr (some ⟨W, 0⟩)] h = some (.ret (.bool (decide (x ≤ (xs.length : Int)) && decide (c < y))) h) := by
  have main : ∃ r g, callT ov Try.prog 46 [.ptr (some ⟨W, 0⟩)] h = some (.ret r g) ∧ r = .bool (decide (x ≤ (xs.length : Int)) && decide (c < y)) ∧ g = h := by
    refine callT_wp (fn := Try.f46) (o46 _ _) (by kernel_rfl) rfl ?_
    have hl : (frameA Try.f46 [.ptr (some ⟨W, 0⟩)]).length = 29 := frameA_length (Nat.le_of_ble_eq_true rfl)
    have h0 : nth (frameA Try.f46 [.ptr (some ⟨W, 0⟩)]) 0 = .ptr (some ⟨W, 0⟩) := frameA_nth (Nat.le_of_ble_eq_true rfl)
    generalize frameA Try.f46 [.ptr (some ⟨W, 0⟩)] = e at hl h0
    have hl0 : loadA Try.prog h 51 ⟨W, 0⟩ = some (.ptr (some ⟨L, 0⟩)) := load_cell a51 hg rfl
    have hl1 : loadA Try.prog h 3 ⟨W, 1⟩ = some (.int .i64 x) := load_cell a3 hg rfl
    have hl2 : loadA Try.prog h 3 ⟨W, 2⟩ = some (.int .i64 y) := load_cell a3 hg rfl
    have hl4 : loadA Try.prog h 3 ⟨W, 4⟩ = some (.int .i64 c) := load_cell a3 hg rfl
    have hlL : loadA Try.prog h 22 ⟨L, 0⟩ = some dv := load_cell a22 hL rfl
    have hln : lenA Try.prog h 22 dv = some (.int .i64 (xs.length : Nat)) := by simpa using hs.len (P := Try.prog) u22
    repeat apply WP.seq
    apply WP.region; simp [hl]
    repeat apply WP.seq
    apply WP.draw (by kernel_rfl) (by kernel_rfl)
    by_cases hx : x ≤ (xs.length : Int)
    · simp [hl, h0, fa71, fa49, fa68, hl0, hl1, hl2, hl4, hlL, hln, guardA, hx]
      apply WP.ret
      simp [hl, resultsA, resultA, single]
    · simp [hl, h0, fa71, fa49, fa68, hl0, hl1, hl2, hl4, hlL, hln, guardA, hx]
      apply WP.ret
      simp [hl, resultsA, resultA, single]
  obtain ⟨_, _, h1, rfl, rfl⟩ := main
  exact h1

/-- A worker's step: the log grows. -/
theorem step_ok (o47 : ∀ a h, ov 47 a h = none) {h : Heap} (hw : Wf h) {n0 W L : Nat} (hWL : W ≠ L) {x y i c : Int} {dv n : AV} {xs : List Int} (hg : h.get W = some (.cells [.ptr (some ⟨L, 0⟩), .int .i64 x, .int .i64 y, .int .i64 i, .int .i64 c] .own)) (hL : h.get L = some (.cells [dv, n] .own)) (ha : Acc n0 h dv (ints xs))
    (hn0 : n0 ≤ h.next) (hW0 : W < n0) (hL0 : L < n0) (hn : xs.length ≤ 10000000) (hc : 0 ≤ c ∧ c ≤ 1000000000) :
    ∃ dv' h', callT ov Try.prog 47 [.ptr (some ⟨W, 0⟩)] h = some (.ret (.tuple []) h') ∧ h'.get W = some (.cells [.ptr (some ⟨L, 0⟩), .int .i64 x, .int .i64 y, .int .i64 i, .int .i64 (c + 1)] .own) ∧ h'.get L = some (.cells [dv', n] .own) ∧ Acc n0 h' dv' (ints (xs ++ [i])) ∧
      Keep (L :: W :: (idOf dv).toList) h h' ∧ (∀ j, idOf dv' = some j → h.next ≤ j) := by
  have hWn := hw _ _ hg
  have hLn := hw _ _ hL
  have hst1 : storeA Try.prog h 3 ⟨W, 4⟩ (.int .i64 (c + 1)) = some (h.set W (.cells [.ptr (some ⟨L, 0⟩), .int .i64 x, .int .i64 y, .int .i64 i, .int .i64 (c + 1)] .own)) := store_cell s3 rfl rfl hg (by simp) (by simp)
  have hl4 : loadA Try.prog h 3 ⟨W, 4⟩ = some (.int .i64 c) := load_cell a3 hg rfl
  have hk1 := (Keep.refl (ex := [W]) hw).set (.cells [.ptr (some ⟨L, 0⟩), .int .i64 x, .int .i64 y, .int .i64 i, .int .i64 (c + 1)] .own) hWn (.inl (List.mem_singleton.2 rfl))
  have hg1 := Heap.get_set h W (.cells [.ptr (some ⟨L, 0⟩), .int .i64 x, .int .i64 y, .int .i64 i, .int .i64 (c + 1)] .own)
  generalize h.set W (.cells [.ptr (some ⟨L, 0⟩), .int .i64 x, .int .i64 y, .int .i64 i, .int .i64 (c + 1)] .own) = g1 at hst1 hk1 hg1
  have hL1 := hk1.get _ _ hL (by simp; omega)
  have ha1 := ha.keep hk1 (by simp; omega)
  have hk1l := hk1.le
  -- the appended one
  have hbs := build22_i (h := g1) (k := .i64) (n := i)
  have hk2 := (Keep.refl (ex := []) hk1.wf).alloc (.cells [.int .i64 i] .own)
  have hg2 := Heap.get_alloc g1 (.cells [.int .i64 i] .own)
  generalize g1.alloc (.cells [.int .i64 i] .own) = g2 at hbs hk2 hg2
  have hW2 := hk2.get _ _ hg1 (by simp)
  have hL2 := hk2.get _ _ hL1 (by simp)
  have ha2 := ha1.keep hk2 (by simp)
  have hk2l := hk2.le
  have hsl : Sl g2 (.slice (some ⟨g1.next, 0⟩) 1 (.exact 1)) [.int .i64 i] := ⟨⟨rfl, by simp [capOk]⟩, .inr ⟨_, .own, hg2, by simp, rfl⟩⟩
  have hdn : ∀ j, j ∈ (idOf dv).toList → n0 ≤ j := fun j hj => ha.id (by simpa using hj)
  obtain ⟨dv', g3, hap, ha3, hk3, hid3⟩ := ha2.pushX (P := Try.prog) (ex := (idOf dv).toList) hk2.wf (by simp) (by omega) u22 s3 (room3 (by simp; omega)) hsl rfl
  have hW3 := hk3.get _ _ hW2 (fun hm => by have := hdn _ hm; omega)
  have hL3 := hk3.get _ _ hL2 (fun hm => by have := hdn _ hm; omega)
  have hk3l := hk3.le
  have ha3s := ha3.sl
  have hdok := sl_cellOk ha3s
  obtain ⟨dl, dc, hdvs⟩ := ha3s.slice
  have hst4 : storeA Try.prog g3 22 ⟨L, 0⟩ dv' = some (g3.set L (.cells [dv', n] .own)) := store_cell s22 (by rw [hdvs]; rfl) hdok hL3 (by simp) (by simp)
  have hk4 := (Keep.refl (ex := [L]) hk3.wf).set (.cells [dv', n] .own) (hk3.wf _ _ hL3) (.inl (List.mem_singleton.2 rfl))
  have hg4 := Heap.get_set g3 L (.cells [dv', n] .own)
  generalize g3.set L (.cells [dv', n] .own) = g4 at hst4 hk4 hg4
  have hW4 := hk4.get _ _ hW3 (by simp; omega)
  have ha4 := ha3.keep hk4 (by simp; omega)
  have hk := (hk1.more (ex' := L :: W :: (idOf dv).toList) (by simp)).trans ((hk2.more (by simp)).trans ((hk3.more (fun j hj => .inl (List.mem_cons_of_mem _ (List.mem_cons_of_mem _ hj)))).trans (hk4.more (by simp))))
  have hints : ints xs ++ [.int .i64 i] = ints (xs ++ [i]) := by simp [ints]
  rw [hints] at ha4
  refine ⟨dv', g4, ?_, hW4, hg4, ha4, hk, fun j hj => by have := hid3 j hj; omega⟩
  have main : ∃ r g, callT ov Try.prog 47 [.ptr (some ⟨W, 0⟩)] h = some (.ret r g) ∧ r = .tuple [] ∧ g = g4 := by
    refine callT_wp (fn := Try.f47) (o47 _ _) (by kernel_rfl) rfl ?_
    have hl : (frameA Try.f47 [.ptr (some ⟨W, 0⟩)]).length = 28 := frameA_length (Nat.le_of_ble_eq_true rfl)
    have h0 : nth (frameA Try.f47 [.ptr (some ⟨W, 0⟩)]) 0 = .ptr (some ⟨W, 0⟩) := frameA_nth (Nat.le_of_ble_eq_true rfl)
    generalize frameA Try.f47 [.ptr (some ⟨W, 0⟩)] = e at hl h0
    have hlW1 : loadA Try.prog g1 51 ⟨W, 0⟩ = some (.ptr (some ⟨L, 0⟩)) := load_cell a51 hg1 rfl
    have hlW2 : loadA Try.prog g2 51 ⟨W, 0⟩ = some (.ptr (some ⟨L, 0⟩)) := load_cell a51 hW2 rfl
    have hlW3 : loadA Try.prog g3 51 ⟨W, 0⟩ = some (.ptr (some ⟨L, 0⟩)) := load_cell a51 hW3 rfl
    have hlL1 : loadA Try.prog g1 22 ⟨L, 0⟩ = some dv := load_cell a22 hL1 rfl
    have hlL2 : loadA Try.prog g2 22 ⟨L, 0⟩ = some dv := load_cell a22 hL2 rfl
    have hli1 : loadA Try.prog g1 3 ⟨W, 3⟩ = some (.int .i64 i) := load_cell a3 hg1 rfl
    have hli2 : loadA Try.prog g2 3 ⟨W, 3⟩ = some (.int .i64 i) := load_cell a3 hW2 rfl
    repeat apply WP.seq
    apply WP.region; simp [hl, h0, fa71, hl4, wrap_small (show -9223372036854775808 ≤ c + 1 by omega) (by omega), storeR_ptr hst1]
    refine WP.drawDyn (by kernel_rfl) (dynOk_tw (pl := [(3, 15), (3, 16), (3, 19), (7, 15), (7, 16), (10, 15), (10, 16), (14, 15)]) (by kernel_rfl) ?_) ?_
    · simp [hl, h0, fa71, fa68, hlW1, hlW2, hlW3, hlL1, hlL2, hli1, hli2, hbs, hap, storeR_ptr hst4, loadSame]
    · simp [hl, h0, fa71, fa68, hlW1, hlW2, hlW3, hlL1, hlL2, hli1, hli2, hbs, hap, storeR_ptr hst4, resultsA, single]
  obtain ⟨_, _, h1, rfl, rfl⟩ := main
  exact h1
end
end Go.Am
