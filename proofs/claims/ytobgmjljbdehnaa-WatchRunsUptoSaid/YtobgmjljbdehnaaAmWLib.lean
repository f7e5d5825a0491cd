/- The library's locks and words, for one goroutine. -/
import Derived.Test.YtobgmjljbdehnaaAmWFacts
set_option linter.unusedSimpArgs false
namespace Go.Am
open Go.RowKit Go.Proofs

/-- What is asked of what is known already. -/
structure WN (ov : CallF) : Prop where
  n51 : ∀ a h r, natA h (.load .u32) a = some r → ov 51 a h = some r
  n62 : ∀ a h r, natA h .store a = some r → ov 62 a h = some r
  n64 : ∀ a h r, natA h (.cas .i32) a = some r → ov 64 a h = some r
  n66 : ∀ a h r, natA h (.add .i32) a = some r → ov 66 a h = some r
  n34 : ∀ a h r, natA h .mark0 a = some r → ov 34 a h = some r
  n35 : ∀ a h r, natA h .mark0 a = some r → ov 35 a h = some r
  n33 : ∀ a h r, natA h .marked a = some r → ov 33 a h = some r
  n46 : ∀ a h r, natA h .marked a = some r → ov 46 a h = some r
  o : ∀ f, f ∈ [22, 23, 30, 52, 53, 54, 60, 61, 63, 9, 10] → ∀ a h, ov f a h = none

/-- A watch: its word, its lock, its channel. -/
def wcell (d s : Int) (c : Nat) : List AV := [.int .u32 d, .int .i32 s, .int .u32 0, .chan (some c)]

theorem convU {h : Heap} {l : Loc} {x : List AV} (hr : readA h l 1 = some x) : convertA Try.prog h 112 86 (.ptr (some l)) = some (.ptr (some l), h) := by
  have h1 : Try.prog.underlying 112 = some (.pointer 62) := by kernel_rfl
  have h2 : Try.prog.underlying 86 = some .unsafePointer := by kernel_rfl
  have h3 : (Try.prog.info? 62).map (fun i => decide (i.size = 0)) = some false := by kernel_rfl
  simp only [convertA, h1, h2, h3, hr]
theorem read_cell {h : Heap} {i o : Nat} {cs : List AV} {k : Kind} {v : AV} (hg : h.get i = some (.cells cs k)) (hv : cs[o]? = some v) : readA h ⟨i, o⟩ 1 = some [v] := by
  have hlt := (List.getElem?_eq_some_iff.1 hv).1
  have hv2 := (List.getElem?_eq_some_iff.1 hv).2
  simp only [readA, hg]
  rw [(ble_iff _ _).2 (by omega)]
  simp only [cond_true]
  rw [List.drop_eq_getElem_cons hlt]
  simp [hv2]
theorem write_cell {h : Heap} {i o : Nat} {cs : List AV} {v : AV} (hg : h.get i = some (.cells cs .own)) (ho : o < cs.length) (hok : cellOk v = true) : writeA h ⟨i, o⟩ [v] = some (h.set i (.cells (cs.set o v) .own)) := by
  have hov : over cs o [v] = cs.set o v := by
    rw [over_cons _ _ _ _ (by simp; omega), over_nil]
  have hb : (cellsOk [v] && Nat.ble (o + [v].length) cs.length) = true := by
    rw [Bool.and_eq_true, ble_iff]
    exact ⟨by simp [cellsOk, hok], by simp; omega⟩
  simp only [writeA, hg, hb, cond_true, hov]

theorem bi_close {P : Program} {h : Heap} {ts : List TypeId} {c : Nat} : biA P h .close ts [.chan (some c)] = toRet (closeA h c) := rfl

section
variable {ov : CallF}

theorem wload_ok (N : WN ov) {h : Heap} {W : Nat} {d s : Int} {c : Nat} (hg : h.get W = some (.cells (wcell d s c) .own)) : callT ov Try.prog 30 [.ptr (some ⟨W, 0⟩)] h = some (.ret (.bool (d != 0)) h) := by
  have main : ∃ r g, callT ov Try.prog 30 [.ptr (some ⟨W, 0⟩)] h = some (.ret r g) ∧ r = .bool (d != 0) ∧ g = h := by
    refine callT_wp (fn := Try.f30) (N.o 30 (by simp) _ _) (by kernel_rfl) rfl ?_
    have hl : (frameA Try.f30 [.ptr (some ⟨W, 0⟩)]).length = 8 := frameA_length (Nat.le_of_ble_eq_true rfl)
    have h0 : nth (frameA Try.f30 [.ptr (some ⟨W, 0⟩)]) 0 = .ptr (some ⟨W, 0⟩) := frameA_nth (Nat.le_of_ble_eq_true rfl)
    generalize frameA Try.f30 [.ptr (some ⟨W, 0⟩)] = e at hl h0
    have hr := read_cell (o := 0) hg rfl
    have hc : callA (callT ov Try.prog) Try.prog h 51 [.ptr (some ⟨W, 0⟩)] = some (.ret (.int .u32 d) h) := callT_ov _ _ (N.n51 _ _ _ (by simp [natA, readI, hr]))
    repeat apply WP.seq
    apply WP.region; simp [hl]
    repeat apply WP.seq
    apply WP.region; simp [hl, h0, fa60, hc]
    apply WP.ret
    simp [hl, resultsA, resultA, single]
  obtain ⟨_, _, h1, rfl, rfl⟩ := main
  exact h1

theorem wstore_ok (N : WN ov) {h : Heap} {W : Nat} {d s : Int} {c : Nat} (hg : h.get W = some (.cells (wcell d s c) .own)) : callT ov Try.prog 54 [.ptr (some ⟨W, 0⟩), .bool true] h = some (.ret (.tuple []) (h.set W (.cells (wcell 1 s c) .own))) := by
  have hb32 : ∀ h, callT ov Try.prog 63 [.bool true] h = some (.ret (.int .u32 1) h) := by
    intro h
    have main : ∃ r g, callT ov Try.prog 63 [.bool true] h = some (.ret r g) ∧ r = .int .u32 1 ∧ g = h := by
      refine callT_wp (fn := Try.f63) (N.o 63 (by simp) _ _) (by kernel_rfl) rfl ?_
      have hl : (frameA Try.f63 [.bool true]).length = 4 := frameA_length (Nat.le_of_ble_eq_true rfl)
      have h0 : nth (frameA Try.f63 [.bool true]) 0 = .bool true := frameA_nth (Nat.le_of_ble_eq_true rfl)
      generalize frameA Try.f63 [.bool true] = e at hl h0
      repeat apply WP.seq
      apply WP.region; simp [hl]
      repeat apply WP.seq
      apply WP.region; simp [hl, h0]
      repeat apply WP.seq
      apply WP.cond (t := true) (by simp [hl]) ?_ (by simp)
      intro _
      repeat apply WP.seq
      apply WP.region; simp [hl]
      apply WP.ret
      simp [hl, resultsA, resultA, single]
    obtain ⟨_, _, h1, rfl, rfl⟩ := main
    exact h1
  have main : ∃ r g, callT ov Try.prog 54 [.ptr (some ⟨W, 0⟩), .bool true] h = some (.ret r g) ∧ r = .tuple [] ∧ g = h.set W (.cells (wcell 1 s c) .own) := by
    refine callT_wp (fn := Try.f54) (N.o 54 (by simp) _ _) (by kernel_rfl) rfl ?_
    have hl : (frameA Try.f54 [.ptr (some ⟨W, 0⟩), .bool true]).length = 10 := frameA_length (Nat.le_of_ble_eq_true rfl)
    have h0 : nth (frameA Try.f54 [.ptr (some ⟨W, 0⟩), .bool true]) 0 = .ptr (some ⟨W, 0⟩) := frameA_nth (Nat.le_of_ble_eq_true rfl)
    have h1 : nth (frameA Try.f54 [.ptr (some ⟨W, 0⟩), .bool true]) 1 = .bool true := frameA_nth (Nat.le_of_ble_eq_true rfl)
    generalize frameA Try.f54 [.ptr (some ⟨W, 0⟩), .bool true] = e at hl h0 h1
    have hr := read_cell (o := 0) hg rfl
    have hwr := write_cell (o := 0) hg (by simp [wcell]) (v := .int .u32 1) rfl
    have hc63 : callA (callT ov Try.prog) Try.prog h 63 [.bool true] = some (.ret (.int .u32 1) h) := hb32 h
    have hc : callA (callT ov Try.prog) Try.prog h 62 [.ptr (some ⟨W, 0⟩), .int .u32 1] = some (.ret (.tuple []) (h.set W (.cells (wcell 1 s c) .own))) := callT_ov _ _ (N.n62 _ _ _ (by simp [natA, hr, hwr, wcell]))
    apply WP.draw (by kernel_rfl) (by kernel_rfl)
    simp [hl, h0, h1, fa60, hc63, hc, resultsA, single]
  obtain ⟨_, _, h1, rfl, rfl⟩ := main
  exact h1

theorem lock_ok (N : WN ov) {h : Heap} {W : Nat} {d : Int} {c : Nat} (hg : h.get W = some (.cells (wcell d 0 c) .own)) : callT ov Try.prog 52 [.ptr (some ⟨W, 1⟩)] h = some (.ret (.tuple []) (h.set W (.cells (wcell d 1 c) .own))) := by
  have hin : callT ov Try.prog 60 [.ptr (some ⟨W, 1⟩)] h = some (.ret (.tuple []) (h.set W (.cells (wcell d 1 c) .own))) := by
    have main : ∃ r g, callT ov Try.prog 60 [.ptr (some ⟨W, 1⟩)] h = some (.ret r g) ∧ r = .tuple [] ∧ g = h.set W (.cells (wcell d 1 c) .own) := by
      refine callT_wp (fn := Try.f60) (N.o 60 (by simp) _ _) (by kernel_rfl) rfl ?_
      have hl : (frameA Try.f60 [.ptr (some ⟨W, 1⟩)]).length = 13 := frameA_length (Nat.le_of_ble_eq_true rfl)
      have h0 : nth (frameA Try.f60 [.ptr (some ⟨W, 1⟩)]) 0 = .ptr (some ⟨W, 1⟩) := frameA_nth (Nat.le_of_ble_eq_true rfl)
      generalize frameA Try.f60 [.ptr (some ⟨W, 1⟩)] = e at hl h0
      have hr := read_cell (o := 1) hg rfl
      have hwr := write_cell (o := 1) hg (by simp [wcell]) (v := .int .i32 1) rfl
      have hset : (wcell d 0 c).set 1 (.int .i32 1) = wcell d 1 c := rfl
      rw [hset] at hwr
      have hc34 : ∀ h, callA (callT ov Try.prog) Try.prog h 34 [] = some (.ret (.tuple []) h) := fun h => callT_ov _ _ (N.n34 _ _ _ (by simp [natA]))
      have hc35 : ∀ h, callA (callT ov Try.prog) Try.prog h 35 [] = some (.ret (.tuple []) h) := fun h => callT_ov _ _ (N.n35 _ _ _ (by simp [natA]))
      have hc46 : ∀ h l, callA (callT ov Try.prog) Try.prog h 46 [.ptr (some l)] = some (.ret (.tuple []) h) := fun h l => callT_ov _ _ (N.n46 _ _ _ (by simp [natA]))
      have hc : callA (callT ov Try.prog) Try.prog h 64 [.ptr (some ⟨W, 1⟩), .int .i32 0, .int .i32 1] = some (.ret (.bool true) (h.set W (.cells (wcell d 1 c) .own))) := callT_ov _ _ (N.n64 _ _ _ (by simp [natA, readI, hr, hwr]))
      have hg2 := Heap.get_set h W (.cells (wcell d 1 c) .own)
      generalize h.set W (.cells (wcell d 1 c) .own) = g at hc hg2
      have hcv := convU (read_cell (o := 1) hg2 rfl)
      repeat apply WP.seq
      apply WP.region; simp [hl, hc34]
      repeat apply WP.seq
      apply WP.region; simp [hl, h0, fa62, hc]
      repeat apply WP.seq
      apply WP.cond (t := true) (by simp [hl]) ?_ (by simp)
      intro _
      repeat apply WP.seq
      apply WP.cond (t := true) (by simp [hl]) ?_ (by simp)
      intro _
      repeat apply WP.seq
      apply WP.region; simp [hl, hc35]
      apply WP.region; simp [hl, h0, hcv, hc46]
      apply WP.ret
      simp [hl, resultsA, single]
    obtain ⟨_, _, h1, rfl, rfl⟩ := main
    exact h1
  have main : ∃ r g, callT ov Try.prog 52 [.ptr (some ⟨W, 1⟩)] h = some (.ret r g) ∧ r = .tuple [] ∧ g = h.set W (.cells (wcell d 1 c) .own) := by
    refine callT_wp (fn := Try.f52) (N.o 52 (by simp) _ _) (by kernel_rfl) rfl ?_
    have hl : (frameA Try.f52 [.ptr (some ⟨W, 1⟩)]).length = 6 := frameA_length (Nat.le_of_ble_eq_true rfl)
    have h0 : nth (frameA Try.f52 [.ptr (some ⟨W, 1⟩)]) 0 = .ptr (some ⟨W, 1⟩) := frameA_nth (Nat.le_of_ble_eq_true rfl)
    generalize frameA Try.f52 [.ptr (some ⟨W, 1⟩)] = e at hl h0
    have hc : callA (callT ov Try.prog) Try.prog h 60 [.ptr (some ⟨W, 1⟩)] = _ := hin
    apply WP.region; simp [hl, h0, fa64, hc, resultsA, single]
  obtain ⟨_, _, h1, rfl, rfl⟩ := main
  exact h1

theorem unlock_ok (N : WN ov) {h : Heap} {W : Nat} {d : Int} {c : Nat} (hg : h.get W = some (.cells (wcell d 1 c) .own)) : callT ov Try.prog 53 [.ptr (some ⟨W, 1⟩)] h = some (.ret (.tuple []) (h.set W (.cells (wcell d 0 c) .own))) := by
  have hin : callT ov Try.prog 61 [.ptr (some ⟨W, 1⟩)] h = some (.ret (.tuple []) (h.set W (.cells (wcell d 0 c) .own))) := by
    have main : ∃ r g, callT ov Try.prog 61 [.ptr (some ⟨W, 1⟩)] h = some (.ret r g) ∧ r = .tuple [] ∧ g = h.set W (.cells (wcell d 0 c) .own) := by
      refine callT_wp (fn := Try.f61) (N.o 61 (by simp) _ _) (by kernel_rfl) rfl ?_
      have hl : (frameA Try.f61 [.ptr (some ⟨W, 1⟩)]).length = 21 := frameA_length (Nat.le_of_ble_eq_true rfl)
      have h0 : nth (frameA Try.f61 [.ptr (some ⟨W, 1⟩)]) 0 = .ptr (some ⟨W, 1⟩) := frameA_nth (Nat.le_of_ble_eq_true rfl)
      generalize frameA Try.f61 [.ptr (some ⟨W, 1⟩)] = e at hl h0
      have hr := read_cell (o := 1) hg rfl
      have hld : loadA Try.prog h 21 ⟨W, 1⟩ = some (.int .i32 1) := load_cell a21 hg rfl
      have hwr := write_cell (o := 1) hg (by simp [wcell]) (v := .int .i32 0) rfl
      have hset : (wcell d 1 c).set 1 (.int .i32 0) = wcell d 0 c := rfl
      rw [hset] at hwr
      have hcv := convU hr
      have hw0 : IntKind.wrap .i32 (1 + -1) = 0 := by decide
      have hc34 : ∀ h, callA (callT ov Try.prog) Try.prog h 34 [] = some (.ret (.tuple []) h) := fun h => callT_ov _ _ (N.n34 _ _ _ (by simp [natA]))
      have hc35 : ∀ h, callA (callT ov Try.prog) Try.prog h 35 [] = some (.ret (.tuple []) h) := fun h => callT_ov _ _ (N.n35 _ _ _ (by simp [natA]))
      have hc33 : ∀ h l, callA (callT ov Try.prog) Try.prog h 33 [.ptr (some l)] = some (.ret (.tuple []) h) := fun h l => callT_ov _ _ (N.n33 _ _ _ (by simp [natA]))
      have hc : callA (callT ov Try.prog) Try.prog h 66 [.ptr (some ⟨W, 1⟩), .int .i32 (-1)] = some (.ret (.int .i32 0) (h.set W (.cells (wcell d 0 c) .own))) := callT_ov _ _ (N.n66 _ _ _ (by simp only [natA, readI, hr, if_true, hw0, hwr]))
      generalize h.set W (.cells (wcell d 0 c) .own) = g at hc
      repeat apply WP.seq
      apply WP.cond (t := true) (by simp [hl]) ?_ (by simp)
      intro _
      repeat apply WP.seq
      apply WP.region; simp [hl, h0, fa62, hld]
      repeat apply WP.seq
      apply WP.region; simp [hl, h0, hcv, hc33]
      apply WP.region; simp [hl, hc34]
      repeat apply WP.seq
      apply WP.region; simp [hl, h0, fa62, hc]
      repeat apply WP.seq
      apply WP.region; simp [hl]
      repeat apply WP.seq
      apply WP.cond (t := false) (by simp [hl]) (by simp)
      intro _
      apply WP.skip; simp
      apply WP.region; simp [hl, hc35, resultsA, single]
    obtain ⟨_, _, h1, rfl, rfl⟩ := main
    exact h1
  have main : ∃ r g, callT ov Try.prog 53 [.ptr (some ⟨W, 1⟩)] h = some (.ret r g) ∧ r = .tuple [] ∧ g = h.set W (.cells (wcell d 0 c) .own) := by
    refine callT_wp (fn := Try.f53) (N.o 53 (by simp) _ _) (by kernel_rfl) rfl ?_
    have hl : (frameA Try.f53 [.ptr (some ⟨W, 1⟩)]).length = 6 := frameA_length (Nat.le_of_ble_eq_true rfl)
    have h0 : nth (frameA Try.f53 [.ptr (some ⟨W, 1⟩)]) 0 = .ptr (some ⟨W, 1⟩) := frameA_nth (Nat.le_of_ble_eq_true rfl)
    generalize frameA Try.f53 [.ptr (some ⟨W, 1⟩)] = e at hl h0
    have hc : callA (callT ov Try.prog) Try.prog h 61 [.ptr (some ⟨W, 1⟩)] = _ := hin
    apply WP.region; simp [hl, h0, fa64, hc, resultsA, single]
  obtain ⟨_, _, h1, rfl, rfl⟩ := main
  exact h1

/-- What a first Fire does. -/
theorem closure_ok (N : WN ov) {h : Heap} {W B F c : Nat} {d s : Int} {b : Bool} (hB : h.get B = some (.cells [.ptr (some ⟨W, 0⟩)] .own)) (hg : h.get W = some (.cells (wcell d s c) .own)) (hc : h.get c = some (.chan 0 [] false)) (hF : h.get F = some (.cells [.bool b] .own)) :
    callT ov Try.prog 23 [.ptr (some ⟨B, 0⟩), .ptr (some ⟨F, 0⟩)] h = some (.ret (.tuple []) ((h.set c (.chan 0 [] true)).set F (.cells [.bool true] .own))) := by
  have main : ∃ r g, callT ov Try.prog 23 [.ptr (some ⟨B, 0⟩), .ptr (some ⟨F, 0⟩)] h = some (.ret r g) ∧ r = .tuple [] ∧ g = (h.set c (.chan 0 [] true)).set F (.cells [.bool true] .own) := by
    refine callT_wp (fn := Try.f23) (N.o 23 (by simp) _ _) (by kernel_rfl) rfl ?_
    have hl : (frameA Try.f23 [.ptr (some ⟨B, 0⟩), .ptr (some ⟨F, 0⟩)]).length = 6 := frameA_length (Nat.le_of_ble_eq_true rfl)
    have h0 : nth (frameA Try.f23 [.ptr (some ⟨B, 0⟩), .ptr (some ⟨F, 0⟩)]) 0 = .ptr (some ⟨B, 0⟩) := frameA_nth (Nat.le_of_ble_eq_true rfl)
    have h1 : nth (frameA Try.f23 [.ptr (some ⟨B, 0⟩), .ptr (some ⟨F, 0⟩)]) 1 = .ptr (some ⟨F, 0⟩) := frameA_nth (Nat.le_of_ble_eq_true rfl)
    generalize frameA Try.f23 [.ptr (some ⟨B, 0⟩), .ptr (some ⟨F, 0⟩)] = e at hl h0 h1
    have hFc : F ≠ c := by rintro rfl; rw [hF] at hc; cases hc
    have hld : loadA Try.prog h 24 ⟨B, 0⟩ = some (.ptr (some ⟨W, 0⟩)) := load_cell a24 hB rfl
    have hlc : loadA Try.prog h 54 ⟨W, 3⟩ = some (.chan (some c)) := load_cell a54 hg rfl
    have hcl : closeA h c = some (.tuple [], h.set c (.chan 0 [] true)) := by simp only [closeA, hc]
    have hF2 : (h.set c (.chan 0 [] true)).get F = some (.cells [.bool b] .own) := by rw [Heap.get_set_ne _ _ (Ne.symm hFc)]; exact hF
    generalize h.set c (.chan 0 [] true) = g at hcl hF2
    have hst : storeA Try.prog g 4 ⟨F, 0⟩ (.bool true) = some (g.set F (.cells [.bool true] .own)) := store_cell s4 rfl rfl hF2 (by simp) (by simp)
    repeat apply WP.seq
    apply WP.region; simp [hl, h0, fa68, hld, hlc, bi_close, hcl]
    apply WP.region; simp [hl, h1, storeR_ptr hst, resultsA, single]
  obtain ⟨_, _, h1, rfl, rfl⟩ := main
  exact h1
end
end Go.Am
