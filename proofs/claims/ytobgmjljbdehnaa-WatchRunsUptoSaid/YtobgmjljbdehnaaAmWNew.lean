/- A part of the proof by the abstract machine: WNew. -/
import Derived.Test.YtobgmjljbdehnaaAmWFire
import Derived.Test.YtobgmjljbdehnaaAmRebase
set_option linter.unusedSimpArgs false
namespace Go.Am
open Go.RowKit Go.Proofs

section
variable {ov : CallF}
/-- Whether it is fired: a select. -/
theorem fired_call (hov : CallsOk Try.prog ov) {h : Heap} {W c : Nat} {b : Bool} (hW : WAt h W c b) : CallOk Try.prog 11 [.ptr (some ⟨W, 0⟩)] h (.ret (.bool b) h) := by
  refine callX fns_ok (fn := Try.f11) (by kernel_rfl) rfl ?_
  have hl : (frameA Try.f11 [.ptr (some ⟨W, 0⟩)]).length = 10 := frameA_length (Nat.le_of_ble_eq_true rfl)
  have h0 : nth (frameA Try.f11 [.ptr (some ⟨W, 0⟩)]) 0 = .ptr (some ⟨W, 0⟩) := frameA_nth (Nat.le_of_ble_eq_true rfl)
  generalize frameA Try.f11 [.ptr (some ⟨W, 0⟩)] = e at hl h0
  have hlc : loadA Try.prog h 54 ⟨W, 3⟩ = some (.chan (some c)) := load_cell a54 hW.1 rfl
  apply WPX.seq
  apply WPX.plain fns_ok mixed_ok hov
  apply WP.region; simp [hl]
  apply WPX.seq
  apply WPX.plain fns_ok mixed_ok hov
  apply WP.region; simp [hl, h0, fa68, hlc]
  apply WPX.seq
  refine WPX.select (z := .agg []) fns_ok mixed_ok hov rfl (i := c) (closed := b) (by simp [hl]) hW.2 (by kernel_rfl) ?_
  cases b with
  | true =>
    simp [hl, extractA]
    apply WPX.plain fns_ok mixed_ok hov
    apply WP.block
    apply WP.cond (t := true) (by simp [hl]) ?_ (by simp)
    intro _
    repeat apply WP.seq
    apply WP.region; simp [hl]
    apply WP.ret
    simp [hl, resultsA, resultA, single]
  | false =>
    simp [hl, extractA]
    apply WPX.plain fns_ok mixed_ok hov
    apply WP.block
    apply WP.cond (t := false) (by simp [hl]) (by simp)
    intro _
    repeat apply WP.seq
    apply WP.region; simp [hl]
    apply WP.ret
    simp [hl, resultsA, resultA, single]
end

/-- What is said of the two functions that the machine does not walk. -/
def SW (f : FuncId) (a : List AV) (h : Heap) (r : CRes) : Prop :=
  (f = 31 ∧ ∃ W B F c, a = [.ptr (some ⟨W, 0⟩), .func (.func 23) [] [.ptr (some ⟨B, 0⟩), .ptr (some ⟨F, 0⟩)]] ∧ WAt h W c false ∧ ∃ h', r = .ret (.tuple []) h' ∧ WAt h' W c true ∧ h'.get F = some (.cells [.bool true] .own) ∧ Keep [W, c, F] h h') ∨
  (f = 11 ∧ ∃ W c b, a = [.ptr (some ⟨W, 0⟩)] ∧ WAt h W c b ∧ r = .ret (.bool b) h)
noncomputable def ov1 : CallF := orCall ov0 (specCall Try.prog SW)
theorem ov1_ok : CallsOk Try.prog ov1 := orCall_ok ov0_ok (specCall_ok SW)
theorem calls_ok : CallsOk Try.prog (callT ov1 Try.prog) := callT_ok _ _ fns_ok mixed_ok ov1_ok
theorem ov0_wn : WN ov0 where
  n51 := fun a h r hr => hr
  n62 := fun a h r hr => hr
  n64 := fun a h r hr => hr
  n66 := fun a h r hr => hr
  n34 := fun a h r hr => hr
  n35 := fun a h r hr => hr
  n33 := fun a h r hr => hr
  n46 := fun a h r hr => hr
  o := by
    intro f hf a h
    simp only [List.mem_cons, List.mem_nil_iff, or_false] at hf
    rcases hf with rfl | rfl | rfl | rfl | rfl | rfl | rfl | rfl | rfl | rfl | rfl <;> rfl
theorem ov1_some {f : FuncId} {a : List AV} {h : Heap} {r : CRes} (hr : ov0 f a h = some r) : ov1 f a h = some r := by
  unfold ov1 orCall; rw [hr]
theorem ov1_spec {f : FuncId} {a : List AV} {h : Heap} (h0 : natOf nsW f = none) : ov1 f a h = specCall Try.prog SW f a h := by
  have : ov0 f a h = none := by unfold ov0 natCall; rw [h0]
  unfold ov1 orCall; rw [this]
theorem ov1_none {f : FuncId} (h0 : natOf nsW f = none) (h1 : f ≠ 31) (h2 : f ≠ 11) (a : List AV) (h : Heap) : ov1 f a h = none := by
  rw [ov1_spec h0]
  refine specCall_none fun r hs => ?_
  rcases hs with ⟨h3, _⟩ | ⟨h3, _⟩
  · exact h1 h3
  · exact h2 h3
theorem ov1_wn : WN ov1 where
  n51 := fun a h r hr => ov1_some hr
  n62 := fun a h r hr => ov1_some hr
  n64 := fun a h r hr => ov1_some hr
  n66 := fun a h r hr => ov1_some hr
  n34 := fun a h r hr => ov1_some hr
  n35 := fun a h r hr => ov1_some hr
  n33 := fun a h r hr => ov1_some hr
  n46 := fun a h r hr => ov1_some hr
  o := by
    intro f hf a h
    simp only [List.mem_cons, List.mem_nil_iff, or_false] at hf
    rcases hf with rfl | rfl | rfl | rfl | rfl | rfl | rfl | rfl | rfl | rfl | rfl <;> exact ov1_none rfl (by decide) (by decide) a h
theorem WAt.same {h : Heap} {W c c' : Nat} {b b' : Bool} (h1 : WAt h W c b) (h2 : WAt h W c' b') : c = c' ∧ b = b' := by
  have := h1.1.symm.trans h2.1
  simp only [wcell, Option.some.injEq, Obj.cells.injEq, List.cons.injEq, AV.int.injEq, AV.chan.injEq, and_true, true_and] at this
  obtain ⟨h3, h4⟩ := this
  refine ⟨h4, ?_⟩
  cases b <;> cases b' <;> simp at h3 ⊢
theorem fired_ok {h : Heap} {W c : Nat} {b : Bool} (hW : WAt h W c b) : callT ov1 Try.prog 11 [.ptr (some ⟨W, 0⟩)] h = some (.ret (.bool b) h) := by
  obtain ⟨r, h1, h2⟩ := specCall_get (S := SW) (fired_call ov0_ok hW) (.inr ⟨rfl, W, c, b, rfl, hW, rfl⟩)
  rcases h2 with ⟨h3, _⟩ | ⟨_, W', c', b', h4, h5, rfl⟩
  · cases h3
  · simp only [List.cons.injEq, AV.ptr.injEq, Option.some.injEq, Loc.mk.injEq, and_true] at h4
    subst h4
    obtain ⟨_, rfl⟩ := hW.same h5
    exact callT_ov _ _ ((ov1_spec rfl).trans h1)
theorem slow_ok {h : Heap} (hw : Wf h) {W B F c : Nat} {b : Bool} (hW : WAt h W c false) (hB : h.get B = some (.cells [.ptr (some ⟨W, 0⟩)] .own)) (hF : h.get F = some (.cells [.bool b] .own)) :
    ∃ h', callT ov1 Try.prog 31 [.ptr (some ⟨W, 0⟩), .func (.func 23) [] [.ptr (some ⟨B, 0⟩), .ptr (some ⟨F, 0⟩)]] h = some (.ret (.tuple []) h') ∧ WAt h' W c true ∧ h'.get F = some (.cells [.bool true] .own) ∧ Keep [W, c, F] h h' := by
  obtain ⟨h', hc, h1, h2, h3⟩ := doSlow_ok ov0_wn ov0_ok hw hW hB hF
  obtain ⟨r, h4, h5⟩ := specCall_get (S := SW) hc (.inl ⟨rfl, W, B, F, c, rfl, hW, h', rfl, h1, h2, h3⟩)
  rcases h5 with ⟨_, W', B', F', c', h6, h7, g, rfl, h8⟩ | ⟨h6, _⟩
  · simp only [List.cons.injEq, AV.ptr.injEq, Option.some.injEq, Loc.mk.injEq, and_true, AV.func.injEq, true_and] at h6
    obtain ⟨rfl, rfl, rfl⟩ := h6
    obtain ⟨rfl, _⟩ := hW.same h7
    exact ⟨g, callT_ov _ _ ((ov1_spec rfl).trans h4), h8⟩
  · cases h6

theorem do_ok {h : Heap} (hw : Wf h) {W B F c : Nat} {b : Bool} (hW : WAt h W c b) (hB : h.get B = some (.cells [.ptr (some ⟨W, 0⟩)] .own)) (hF : h.get F = some (.cells [.bool false] .own)) :
    ∃ h', callT ov1 Try.prog 22 [.ptr (some ⟨W, 0⟩), .func (.func 23) [] [.ptr (some ⟨B, 0⟩), .ptr (some ⟨F, 0⟩)]] h = some (.ret (.tuple []) h') ∧ WAt h' W c true ∧ h'.get F = some (.cells [.bool (!b)] .own) ∧ Keep [W, c, F] h h' := by
  have main : ∃ r h', callT ov1 Try.prog 22 [.ptr (some ⟨W, 0⟩), .func (.func 23) [] [.ptr (some ⟨B, 0⟩), .ptr (some ⟨F, 0⟩)]] h = some (.ret r h') ∧ r = .tuple [] ∧ WAt h' W c true ∧ h'.get F = some (.cells [.bool (!b)] .own) ∧ Keep [W, c, F] h h' := by
    refine callT_wp (fn := Try.f22) (ov1_wn.o 22 (by simp) _ _) (by kernel_rfl) rfl ?_
    have hl : (frameA Try.f22 [.ptr (some ⟨W, 0⟩), .func (.func 23) [] [.ptr (some ⟨B, 0⟩), .ptr (some ⟨F, 0⟩)]]).length = 12 := frameA_length (Nat.le_of_ble_eq_true rfl)
    have h0 : nth (frameA Try.f22 [.ptr (some ⟨W, 0⟩), .func (.func 23) [] [.ptr (some ⟨B, 0⟩), .ptr (some ⟨F, 0⟩)]]) 0 = .ptr (some ⟨W, 0⟩) := frameA_nth (Nat.le_of_ble_eq_true rfl)
    have h1 : nth (frameA Try.f22 [.ptr (some ⟨W, 0⟩), .func (.func 23) [] [.ptr (some ⟨B, 0⟩), .ptr (some ⟨F, 0⟩)]]) 1 = .func (.func 23) [] [.ptr (some ⟨B, 0⟩), .ptr (some ⟨F, 0⟩)] := frameA_nth (Nat.le_of_ble_eq_true rfl)
    generalize frameA Try.f22 [.ptr (some ⟨W, 0⟩), .func (.func 23) [] [.ptr (some ⟨B, 0⟩), .ptr (some ⟨F, 0⟩)]] = e at hl h0 h1
    have hca30 : callA (callT ov1 Try.prog) Try.prog h 30 [.ptr (some ⟨W, 0⟩)] = _ := wload_ok ov1_wn hW.1
    cases b with
    | true =>
      repeat apply WP.seq
      apply WP.region; simp [hl, h0, fa66, hca30]
      apply WP.cond (t := false) (by simp [hl]) (by simp)
      intro _
      apply WP.skip
      exact ⟨.inl rfl, [], rfl, rfl, hW, hF, Keep.refl hw⟩
    | false =>
      obtain ⟨h', hs, h4, h5, h6⟩ := slow_ok hw hW hB hF
      have hca31 : callA (callT ov1 Try.prog) Try.prog h 31 [.ptr (some ⟨W, 0⟩), .func (.func 23) [] [.ptr (some ⟨B, 0⟩), .ptr (some ⟨F, 0⟩)]] = _ := hs
      repeat apply WP.seq
      apply WP.region; simp [hl, h0, fa66, hca30]
      apply WP.cond (t := true) (by simp [hl]) ?_ (by simp)
      intro _
      apply WP.region; simp [hl, h0, h1, hca31, resultsA, single]
      exact ⟨h4, h5, h6⟩
  obtain ⟨_, h', h1, rfl, h2⟩ := main
  exact ⟨h', h1, h2⟩

theorem fire_ok {h : Heap} (hw : Wf h) {W c : Nat} {b : Bool} (hW : WAt h W c b) : ∃ h', callT ov1 Try.prog 10 [.ptr (some ⟨W, 0⟩)] h = some (.ret (.bool (!b)) h') ∧ WAt h' W c true ∧ Keep [W, c] h h' := by
  have hWn := hw _ _ hW.1
  have hcn := hw _ _ hW.2
  have hbx := box_one (h := h) (v := .ptr (some ⟨W, 0⟩)) rfl
  have hk1 := (Keep.refl (ex := []) hw).alloc (.cells [.ptr (some ⟨W, 0⟩)] .own)
  have hB1 := Heap.get_alloc h (.cells [.ptr (some ⟨W, 0⟩)] .own)
  generalize h.alloc (.cells [.ptr (some ⟨W, 0⟩)] .own) = g1 at hbx hk1 hB1
  have hBn := hk1.wf _ _ hB1
  have hal := alloc4 (h := g1)
  have hk2 := (Keep.refl (ex := []) hk1.wf).alloc (.cells [.bool false] .own)
  have hF2 := Heap.get_alloc g1 (.cells [.bool false] .own)
  generalize g1.alloc (.cells [.bool false] .own) = g2 at hal hk2 hF2
  have hFn := hk2.wf _ _ hF2
  have hst : storeA Try.prog g2 4 ⟨g1.next, 0⟩ (.bool false) = some (g2.set g1.next (.cells [.bool false] .own)) := store_cell s4 rfl rfl hF2 (by simp) (by simp)
  have hk3 := hk2.set (i := g1.next) (.cells [.bool false] .own) hFn (.inr (Nat.le_refl _))
  have hF3 := Heap.get_set g2 g1.next (.cells [.bool false] .own)
  generalize g2.set g1.next (.cells [.bool false] .own) = g3 at hst hk3 hF3
  have hB3 := hk3.get _ _ hB1 (by simp)
  have hW3 := (hW.keep hk1 (by simp) (by simp)).keep hk3 (by simp) (by simp)
  obtain ⟨g4, hdo, hW4, hF4, hk4⟩ := do_ok hk3.wf hW3 hB3 hF3
  have hk1l := hk1.le
  have hk3l := hk3.le
  have hld4 : loadA Try.prog g4 4 ⟨g1.next, 0⟩ = some (.bool (!b)) := load_cell a4 hF4 rfl
  have hld3 : loadA Try.prog g3 24 ⟨h.next, 0⟩ = some (.ptr (some ⟨W, 0⟩)) := load_cell a24 hB3 rfl
  have hkf : Keep [W, c] h g4 := (((hk1.trans hk3).more (ex' := [W, c, g1.next]) (by simp)).trans hk4).more (by
    intro i hi
    simp only [List.mem_cons, List.mem_nil_iff, or_false] at hi ⊢
    rcases hi with h | h | h
    · exact .inl (.inl h)
    · exact .inl (.inr h)
    · right; omega)
  have main : ∃ r h', callT ov1 Try.prog 10 [.ptr (some ⟨W, 0⟩)] h = some (.ret r h') ∧ r = .bool (!b) ∧ h' = g4 := by
    refine callT_wp (fn := Try.f10) (ov1_wn.o 10 (by simp) _ _) (by kernel_rfl) rfl ?_
    have hl : (frameA Try.f10 [.ptr (some ⟨W, 0⟩)]).length = 10 := frameA_length (Nat.le_of_ble_eq_true rfl)
    have h0 : nth (frameA Try.f10 [.ptr (some ⟨W, 0⟩)]) 0 = .ptr (some ⟨W, 0⟩) := frameA_nth (Nat.le_of_ble_eq_true rfl)
    generalize frameA Try.f10 [.ptr (some ⟨W, 0⟩)] = e at hl h0
    have hca22 : callA (callT ov1 Try.prog) Try.prog g3 22 [.ptr (some ⟨W, 0⟩), .func (.func 23) [] [.ptr (some ⟨h.next, 0⟩), .ptr (some ⟨g1.next, 0⟩)]] = _ := hdo
    repeat apply WP.seq
    apply WP.region; simp [hl, h0, hbx]
    repeat apply WP.seq
    apply WP.region; simp [hl, hal, storeR_ptr hst]
    repeat apply WP.seq
    apply WP.region; simp [hl, hld3, fa68, hca22]
    repeat apply WP.seq
    apply WP.region; simp [hl, hld4]
    apply WP.ret
    simp [hl, resultsA, resultA, single]
  obtain ⟨_, _, h1, rfl, rfl⟩ := main
  exact ⟨_, h1, hW4, hkf⟩

theorem wnew_ok {h : Heap} (hw : Wf h) : ∃ W c h', callT ov1 Try.prog 9 [] h = some (.ret (.ptr (some ⟨W, 0⟩)) h') ∧ WAt h' W c false ∧ Keep [] h h' ∧ h.next ≤ c ∧ c < W ∧ W < h'.next := by
  have hmk := mkchan54 (h := h)
  have hk1 := (Keep.refl (ex := []) hw).alloc (.chan 0 [] false)
  have hc1 := Heap.get_alloc h (.chan 0 [] false)
  generalize h.alloc (.chan 0 [] false) = g1 at hmk hk1 hc1
  have hbx := box_agg (h := g1) (vs := wcell 0 0 h.next) rfl
  have hk2 := (Keep.refl (ex := []) hk1.wf).alloc (.cells (wcell 0 0 h.next) .own)
  have hW2 := Heap.get_alloc g1 (.cells (wcell 0 0 h.next) .own)
  generalize g1.alloc (.cells (wcell 0 0 h.next) .own) = g2 at hbx hk2 hW2
  have main : ∃ r h', callT ov1 Try.prog 9 [] h = some (.ret r h') ∧ r = .ptr (some ⟨g1.next, 0⟩) ∧ h' = g2 := by
    refine callT_wp (fn := Try.f9) (ov1_wn.o 9 (by simp) _ _) (by kernel_rfl) rfl ?_
    have hl : (frameA Try.f9 []).length = 4 := frameA_length (Nat.le_of_ble_eq_true rfl)
    generalize frameA Try.f9 [] = e at hl
    have hbx' : boxA g1 (.agg [.int .u32 0, .int .i32 0, .int .u32 0, .chan (some h.next)]) = _ := hbx
    have hop : ∀ (call : CallF) (e : List AV), opA call Try.prog e h (.makeChan 54 (.const (.int .i64 0))) = some (.ret (.chan (some h.next)) g1) := by
      intro call e
      have : opA call Try.prog e h (.makeChan 54 (.const (.int .i64 0))) = toRet (makeChanA Try.prog h 54 (.int .i64 0)) := rfl
      rw [this, hmk]; rfl
    repeat apply WP.seq
    apply WP.region; simp [hl]
    repeat apply WP.seq
    apply WP.region; simp [hl, hop, build68, hbx']
    apply WP.ret
    simp [hl, resultsA, resultA, single]
  obtain ⟨_, _, h1, rfl, rfl⟩ := main
  have hcn := hk1.wf _ _ hc1
  refine ⟨_, h.next, _, h1, ⟨hW2, hk2.get _ _ hc1 (by simp)⟩, hk1.trans hk2, Nat.le_refl _, hcn, hk2.wf _ _ hW2⟩
end Go.Am
