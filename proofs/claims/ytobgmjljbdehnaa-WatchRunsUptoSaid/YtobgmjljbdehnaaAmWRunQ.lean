/- The sets and the document's sets. -/
import Derived.Test.YtobgmjljbdehnaaAmWRunP
set_option linter.unusedSimpArgs false
namespace Go.Am
open Go.RowKit Go.Proofs

def memAdd (mem : List Nat) (most : Int) (a : Nat) : Bool × List Nat :=
  if 0 ≤ firstT (mem.map fun x => decide (x = a)) 0 then (true, mem) else if most ≤ (mem.length : Int) then (false, mem) else (true, mem ++ [a])
theorem memAdd_lt {mem : List Nat} {most : Int} {a n : Nat} (h : ∀ x ∈ mem, x < n) (ha : a < n) : ∀ x ∈ (memAdd mem most a).2, x < n := by
  unfold memAdd
  split
  · exact h
  · split
    · exact h
    · intro x hx
      rcases List.mem_append.1 hx with hx | hx
      · exact h x hx
      · simp only [List.mem_singleton] at hx; omega
theorem memAdd_len (mem : List Nat) (most : Int) (a : Nat) : (memAdd mem most a).2.length ≤ mem.length + 1 := by
  unfold memAdd
  split
  · simp
  · split <;> simp
theorem refAdd_mem (mem : List Nat) (most : Int) (a : Nat) : refAddP (natI mem) most (a : Int) = ((memAdd mem most a).1, natI (memAdd mem most a).2) := by
  have h1 : ((natI mem).map fun x => decide (x = (a : Int))) = mem.map fun x => decide (x = a) := by
    simp only [natI, List.map_map]
    apply List.map_congr_left
    intro x _
    simp [Int.natCast_inj]
  have h2 : ¬ ((a : Nat) : Int) < 0 := by omega
  simp only [refAddP, memAdd, if_neg h2, h1, natI_length]
  split
  · rfl
  · split
    · rfl
    · simp [natI]
theorem refAdd_neg (mem : List Nat) (most : Int) : refAddP (natI mem) most (-1) = (false, natI mem) := by
  simp only [refAddP]; rw [if_pos (by omega)]
theorem add_mem {tg : Nat → Tg} {g : Heap} {ws : List (Nat × Nat)} {fs : List Bool} (hC : CW tg g ws fs) {mem : List Nat} (hm : ∀ x ∈ mem, x < ws.length) (most : Int) {a : Nat} {w : Nat × Nat} (ha : ws[a]? = some w) :
    addP (pickW ws mem) most w = ((memAdd mem most a).1, pickW ws (memAdd mem most a).2) := by
  have h1 : ((pickW ws mem).map fun v => decide (w.1 = v.1)) = mem.map fun x => decide (x = a) := by
    simp only [pickW, List.map_map]
    apply List.map_congr_left
    intro x hx
    have hlt := hm x hx
    have hxw : ws[x]? = some ws[x] := List.getElem?_eq_getElem hlt
    have hgd : ws.getD x (0, 0) = ws[x] := by simp [List.getD_eq_getElem?_getD, hxw]
    simp only [Function.comp, hgd]
    apply decide_eq_decide.2
    constructor
    · intro h
      have t1 := (hC.tag a w ha).1
      have t2 := (hC.tag x _ hxw).1
      rw [← h, t1] at t2
      cases t2; rfl
    · rintro rfl
      rw [ha] at hxw
      cases hxw; rfl
  have hgd : ws.getD a (0, 0) = w := by simp [List.getD_eq_getElem?_getD, ha]
  simp only [addP, memAdd, idxP, h1, pickW_length]
  split
  · rfl
  · split
    · rfl
    · simp [pickW, ha]
theorem CW.pick {tg : Nat → Tg} {g : Heap} {ws : List (Nat × Nat)} {fs : List Bool} (hC : CW tg g ws fs) {mem : List Nat} (hm : ∀ x ∈ mem, x < ws.length) : WsAt g (pickW ws mem) (mem.map fun a => fs.getD a false) := by
  refine ⟨by simp [pickW], fun i w b hi hb => ?_⟩
  simp only [pickW, List.getElem?_map, Option.map_eq_some_iff] at hi hb
  obtain ⟨a, ha, rfl⟩ := hi
  obtain ⟨a', ha', rfl⟩ := hb
  rw [ha] at ha'
  cases ha'
  have hlt := hm a (List.mem_of_getElem? ha)
  have hlf : a < fs.length := by rw [← hC.pl.1]; exact hlt
  have h1 : ws.getD a (0, 0) = ws[a] := by simp [List.getD_eq_getElem?_getD, List.getElem?_eq_getElem hlt]
  have h2 : fs.getD a false = fs[a] := by simp [List.getD_eq_getElem?_getD, List.getElem?_eq_getElem hlf]
  rw [h1, h2]
  exact hC.pl.2 a _ _ (List.getElem?_eq_getElem hlt) (List.getElem?_eq_getElem hlf)

theorem refFirst_ok {h : Heap} (hw : Wf h) {hv fv : AV} {mem : List Nat} {fs : List Bool} {most : Int} (hs : Sl h hv (ints (natI mem))) (hf : Sl h fv (bools fs)) (hlt : ∀ a ∈ mem, a < fs.length) (hn : mem.length ≤ 1000000000) :
    ∃ h', callT ov1 Try.prog 18 [.agg [.int .i64 most, hv], fv] h = some (.ret (.int .i64 (firstT (mem.map fun a => fs.getD a false) 0)) h') ∧ Keep [] h h' := by
  obtain ⟨F, hF⟩ : ∃ F, F = firstT (mem.map fun a => fs.getD a false) 0 := ⟨_, rfl⟩
  rw [← hF]
  have main : ∃ u h', callT ov1 Try.prog 18 [.agg [.int .i64 most, hv], fv] h = some (.ret u h') ∧ u = .int .i64 F ∧ Keep [] h h' := by
    refine callT_wp (fn := Try.f18) (ov1_none rfl (by decide) (by decide) _ _) (by kernel_rfl) rfl ?_
    have hl : (frameA Try.f18 [.agg [.int .i64 most, hv], fv]).length = 22 := frameA_length (Nat.le_of_ble_eq_true rfl)
    have h0 : nth (frameA Try.f18 [.agg [.int .i64 most, hv], fv]) 0 = .agg [.int .i64 most, hv] := frameA_nth (Nat.le_of_ble_eq_true rfl)
    have h1 : nth (frameA Try.f18 [.agg [.int .i64 most, hv], fv]) 1 = fv := frameA_nth (Nat.le_of_ble_eq_true rfl)
    generalize frameA Try.f18 [.agg [.int .i64 most, hv], fv] = e at hl h0 h1
    obtain ⟨B, g1, hbx, hg1, hk1, hB, hB1⟩ := box2 hw [.int .i64 most, hv]
    have hs1 := hs.keep hk1 (by simp)
    have hf1 := hf.keep hk1 (by simp)
    have hlB1 : loadA Try.prog g1 37 ⟨B, 1⟩ = some hv := load_cell a37 hg1 rfl
    have hln : ∀ h, lenA Try.prog h 37 hv = some (.int .i64 (mem.length : Nat)) := by
      intro h; obtain ⟨l, c, rfl⟩ := hs.slice; simpa [natI_length] using lenA_slice (P := Try.prog) u37
    repeat apply WP.seq
    apply WP.region; simp [hl, h0, hbx]
    repeat apply WP.seq
    apply WP.region; simp [hl]
    repeat apply WP.seq
    apply WP.block
    refine WP.loop (fun k e g => g1 = g ∧ e.length = 22 ∧ nth e 1 = fv ∧ nth e 2 = .ptr (some ⟨B, 0⟩) ∧ ∃ i, i ≤ mem.length ∧ k = mem.length - i ∧ nth e 5 = .int .i64 (i : Nat) ∧ F = firstT ((mem.map fun a => fs.getD a false).drop i) i) ?_ mem.length _ _ ?_
    · clear hl h0 h1
      rintro k e _ ⟨rfl, hl, h1, h2, i, hi, rfl, h5, hinv⟩
      repeat apply WP.seq
      apply WP.region; simp [hl, h2, h5, fa39, hlB1, hln]
      repeat apply WP.seq
      apply WP.cond (by simp [hl]; rfl)
      · intro hlt1
        have hlt1 : i < mem.length := by simpa using hlt1
        apply WP.skip; simp
        repeat apply WP.seq
        apply WP.block
        repeat apply WP.seq
        have hmi : mem[i]? = some mem[i] := List.getElem?_eq_getElem hlt1
        generalize mem[i] = m at hmi
        have hmf := hlt m (List.mem_of_getElem? hmi)
        have hfm : fs[m]? = some fs[m] := List.getElem?_eq_getElem hmf
        have hgd : fs.getD m false = fs[m] := by simp [List.getD_eq_getElem?_getD, hfm]
        generalize fs[m] = b at hfm hgd
        have hni : (natI mem)[i]? = some (m : Int) := by simp [natI, hmi]
        obtain ⟨l1, hl1, hl1', _⟩ := hs1.at (P := Try.prog) u37 s3 a3 (ints_get hni) (k := .i64)
        obtain ⟨l2, hl2, hl2', _⟩ := hf1.at (P := Try.prog) u23 s4 a4 (bools_get hfm) (k := .i64)
        rw [firstT_drop (b := b) (by simp [hmi]; rw [← hgd]; simp [List.getD_eq_getElem?_getD])] at hinv
        apply WP.region; simp [hl, h1, h2, h5, fa39, hlB1, hl1, hl1', hl2, hl2']
        repeat apply WP.seq
        apply WP.cond (by simp [hl]; rfl)
        · intro hc
          rw [hc] at hinv
          simp only [if_true] at hinv
          repeat apply WP.seq
          apply WP.region; simp [hl, h5]
          apply WP.ret
          simp [hl, resultsA, resultA, single, hinv, hk1]
        · intro hc
          rw [hc] at hinv
          simp only [Bool.false_eq_true, if_false] at hinv
          apply WP.skip; simp
          apply WP.region; simp [hl, h5, int_wrap (show i < 9223372036854775807 by omega)]
          exact ⟨mem.length - (i + 1), by omega, h1, h2, i + 1, by omega, rfl, by simp, hinv⟩
      · intro hge
        have hge : ¬ i < mem.length := by simpa using hge
        apply WP.exit
        simp
        rw [List.drop_eq_nil_of_le (by simp; omega)] at hinv
        simp only [firstT] at hinv
        repeat apply WP.seq
        apply WP.region; simp [hl]
        apply WP.ret
        simp [hl, resultsA, resultA, single, hinv, hk1]
    · exact ⟨rfl, by simp [hl], by simp [hl, h1], by simp [hl], 0, by omega, by omega, by simp [hl], hF⟩
  obtain ⟨_, h', h1, rfl, h2⟩ := main
  exact ⟨h', h1, h2⟩

/-- A place for any number. -/
def pickAt (p : Int) (n : Nat) : Int := if p.tmod n < 0 then p.tmod n + n else p.tmod n
theorem pickAt_range (p : Int) {n : Nat} (hn : 0 < n) : 0 ≤ pickAt p n ∧ pickAt p n < n := by
  have h1 := Int.tmod_lt_of_pos p (show (0 : Int) < n by omega)
  have h2 : -(n : Int) < p.tmod n := by
    have := Int.tmod_lt_of_pos (-p) (show (0 : Int) < n by omega)
    rw [Int.neg_tmod] at this
    omega
  unfold pickAt
  split <;> omega
theorem place_ok {h : Heap} (p : Int) {n : Nat} (hn : 0 < n) (hn' : n ≤ 1000000000) :
    callT ov1 Try.prog 12 [.int .i64 p, .int .i64 n] h = some (.ret (.int .i64 (pickAt p n)) h) := by
  have main : ∃ u g, callT ov1 Try.prog 12 [.int .i64 p, .int .i64 n] h = some (.ret u g) ∧ u = .int .i64 (pickAt p n) ∧ g = h := by
    refine callT_wp (fn := Try.f12) (ov1_none rfl (by decide) (by decide) _ _) (by kernel_rfl) rfl ?_
    have hl : (frameA Try.f12 [.int .i64 p, .int .i64 n]).length = 14 := frameA_length (Nat.le_of_ble_eq_true rfl)
    have h0 : nth (frameA Try.f12 [.int .i64 p, .int .i64 n]) 0 = .int .i64 p := frameA_nth (Nat.le_of_ble_eq_true rfl)
    have h1 : nth (frameA Try.f12 [.int .i64 p, .int .i64 n]) 1 = .int .i64 n := frameA_nth (Nat.le_of_ble_eq_true rfl)
    generalize frameA Try.f12 [.int .i64 p, .int .i64 n] = e at hl h0 h1
    have hne0 : ((n : Nat) : Int) ≠ 0 := by omega
    have hr := pickAt_range p hn
    apply WP.seq; apply WP.region; simp [hl]
    repeat apply WP.seq
    apply WP.region; simp [hl, h0, h1, bin_rem hne0]
    repeat apply WP.seq
    apply WP.region; simp [hl]
    repeat apply WP.seq
    apply WP.cond (by simp [hl]; rfl)
    · intro hq
      have hq : p.tmod n < 0 := by simpa using hq
      have hpa : pickAt p n = p.tmod n + n := by simp only [pickAt, if_pos hq]
      apply WP.region; simp [hl, h1, wrap_small (show -9223372036854775808 ≤ p.tmod n + n by omega) (by omega)]
      repeat apply WP.seq
      apply WP.region; simp [hl]
      apply WP.ret
      simp [hl, resultsA, resultA, single, hpa]
    · intro hq
      have hq : ¬ p.tmod n < 0 := by simpa using hq
      have hpa : pickAt p n = p.tmod n := by simp only [pickAt, if_neg hq]
      apply WP.skip; simp
      repeat apply WP.seq
      apply WP.region; simp [hl]
      apply WP.ret
      simp [hl, resultsA, resultA, single, hpa]
  obtain ⟨_, _, h1, rfl, rfl⟩ := main
  exact h1
end Go.Am
