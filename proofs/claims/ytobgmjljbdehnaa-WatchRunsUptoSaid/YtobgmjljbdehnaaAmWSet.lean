/- Sets of watches. -/
import Derived.Test.YtobgmjljbdehnaaAmWOnce
set_option linter.unusedSimpArgs false
namespace Go.Am
open Go.RowKit Go.Proofs

def ptrs (ws : List (Nat × Nat)) : List AV := ws.map fun w => .ptr (some ⟨w.1, 0⟩)
@[simp] theorem ptrs_length {ws : List (Nat × Nat)} : (ptrs ws).length = ws.length := by simp [ptrs]
theorem ptrs_get {ws : List (Nat × Nat)} {i : Nat} {w : Nat × Nat} (h : ws[i]? = some w) : (ptrs ws)[i]? = some (.ptr (some ⟨w.1, 0⟩)) := by simp [ptrs, h]
theorem ptrs_ok : ∀ {ws : List (Nat × Nat)}, cellsOk (ptrs ws) = true
  | [] => rfl
  | w :: ws => by simp only [ptrs, List.map_cons, cellsOk, cellOk, Bool.true_and]; exact ptrs_ok (ws := ws)
/-- Watches in memory, fired or not. -/
def WsAt (h : Heap) (ws : List (Nat × Nat)) (fs : List Bool) : Prop := ws.length = fs.length ∧ ∀ (i : Nat) (w : Nat × Nat) (b : Bool), ws[i]? = some w → fs[i]? = some b → WAt h w.1 w.2 b
theorem WsAt.keep {ex : List Nat} {h0 h : Heap} (hk : Keep ex h0 h) {ws : List (Nat × Nat)} {fs : List Bool} (hW : WsAt h0 ws fs) (hx : ∀ w ∈ ws, w.1 ∉ ex ∧ w.2 ∉ ex) : WsAt h ws fs :=
  ⟨hW.1, fun i w b hi hb => (hW.2 i w b hi hb).keep hk (hx w (List.mem_of_getElem? hi)).1 (hx w (List.mem_of_getElem? hi)).2⟩
theorem WsAt.live {h : Heap} {ws : List (Nat × Nat)} {fs : List Bool} (hW : WsAt h ws fs) {w : Nat × Nat} (hw : w ∈ ws) : livePtr h ⟨w.1, 0⟩ = true := by
  obtain ⟨i, hi, rfl⟩ := List.mem_iff_getElem.1 hw
  have hb : i < fs.length := by rw [← hW.1]; exact hi
  have := hW.2 i _ _ (List.getElem?_eq_getElem hi) (List.getElem?_eq_getElem hb)
  simp [livePtr, this.1]
theorem ptr_eq {h : Heap} {a b : Nat} {xo yo : Operand} (ha : livePtr h ⟨a, 0⟩ = true) (hb : livePtr h ⟨b, 0⟩ = true) : binA Try.prog h .eql 24 xo yo (.ptr (some ⟨a, 0⟩)) (.ptr (some ⟨b, 0⟩)) = some (.bool (decide (a = b))) := by
  simp [binA, eqA, u24, s68, ha, hb, Trie.beq1]

def firstT : List Bool → Nat → Int
  | [], _ => -1
  | b :: bs, k => if b then (k : Int) else firstT bs (k + 1)
theorem firstT_range : ∀ (bs : List Bool) (k : Nat), firstT bs k = -1 ∨ ((k : Int) ≤ firstT bs k ∧ firstT bs k < (k + bs.length : Nat))
  | [], k => .inl rfl
  | b :: bs, k => by
    simp only [firstT, List.length_cons]
    cases b with
    | true => right; simp only [if_true]; omega
    | false =>
      have := firstT_range bs (k + 1)
      simp only [Bool.false_eq_true, if_false]
      omega
theorem firstT_set : ∀ (bs : List Bool) (i k : Nat), i < bs.length → firstT (bs.set i true) k = if firstT bs k < 0 ∨ ((k + i : Nat) : Int) < firstT bs k then ((k + i : Nat) : Int) else firstT bs k
  | [], i, k, h => by simp at h
  | b :: bs, 0, k, h => by
    have := firstT_range bs (k + 1)
    simp only [List.set_cons_zero, firstT, if_true, Nat.add_zero]
    cases b with
    | true => simp only [if_true]; split <;> omega
    | false => simp only [Bool.false_eq_true, if_false]; split <;> omega
  | b :: bs, i + 1, k, h => by
    have hs := firstT_set bs i (k + 1) (by simpa using h)
    have hk : k + 1 + i = k + (i + 1) := by omega
    rw [hk] at hs
    simp only [List.set_cons_succ, firstT]
    cases b with
    | true => simp only [if_true]; split <;> omega
    | false => simp only [Bool.false_eq_true, if_false]; exact hs
theorem firstT_drop {bs : List Bool} {i : Nat} {b : Bool} (h : bs[i]? = some b) : firstT (bs.drop i) i = if b then (i : Int) else firstT (bs.drop (i + 1)) (i + 1) := by
  have hi := (List.getElem?_eq_some_iff.1 h).1
  have hb := (List.getElem?_eq_some_iff.1 h).2
  rw [List.drop_eq_getElem_cons hi]
  simp only [firstT, hb]
theorem firstT_false (n k : Nat) : firstT (List.replicate n false) k = -1 := by
  induction n generalizing k with
  | zero => rfl
  | succ n ih => simp only [List.replicate_succ, firstT, Bool.false_eq_true, if_false]; exact ih _

theorem u28 : Try.prog.underlying 28 = some (.slice 24) := by kernel_rfl
theorem u34 : Try.prog.underlying 34 = some (.pointer 71) := by kernel_rfl
theorem u37 : Try.prog.underlying 37 = some (.slice 3) := by kernel_rfl
theorem s28 : sizeA Try.prog 28 = some 1 := by kernel_rfl
theorem a28 : aggA Try.prog 28 = some false := by kernel_rfl
theorem i24 : Try.prog.info? 24 = some Try.t24 := by kernel_rfl
theorem room24 {n : Nat} (hn : n ≤ 1000000000) : roomA Try.prog 24 n = true := room_of i24 (b := 8) (by kernel_rfl) (by omega) (by omega) (z := .pointer none) (by kernel_rfl) (by kernel_rfl) (by kernel_rfl)
theorem fa71 {l : Loc} : fieldAddrA Try.prog 71 (.ptr (some l)) 0 = some (.ptr (some ⟨l.id, l.off + 0⟩)) ∧ fieldAddrA Try.prog 71 (.ptr (some l)) 1 = some (.ptr (some ⟨l.id, l.off + 1⟩)) := by
  refine ⟨?_, ?_⟩ <;> kernel_rfl
theorem build71 {k : IntKind} {x : Int} : buildA Try.prog 71 [(0, .int k x)] = some (.agg [.int k x, .slice none 0 (.exact 0)]) := by kernel_rfl
theorem build28 {h : Heap} : buildSliceA Try.prog h 28 0 [] = some (.slice (some ⟨h.next, 0⟩) 0 (.exact 0), h.alloc (.cells [] .own)) := by kernel_rfl
theorem build28_1 {h : Heap} {l : Option Loc} : buildSliceA Try.prog h 28 1 [(0, .ptr l)] = some (.slice (some ⟨h.next, 0⟩) 1 (.exact 1), h.alloc (.cells [.ptr l] .own)) := by kernel_rfl

/-- A set in memory. -/
def SetAt (h : Heap) (S : Nat) (most : Int) (hv : AV) (ws : List (Nat × Nat)) : Prop := h.get S = some (.cells [.int .i64 most, hv] .own) ∧ Acc 0 h hv (ptrs ws)
theorem SetAt.keep {ex : List Nat} {h0 h : Heap} (hk : Keep ex h0 h) {S : Nat} {most : Int} {hv : AV} {ws : List (Nat × Nat)} (hS : SetAt h0 S most hv ws) (h1 : S ∉ ex) (h2 : ∀ j, idOf hv = some j → j ∉ ex) : SetAt h S most hv ws := ⟨hk.get _ _ hS.1 h1, hS.2.keep2 hk h2⟩

section
variable (h : Heap)
theorem newSet_ok {h : Heap} (hw : Wf h) (m : Int) : ∃ S h', callT ov1 Try.prog 13 [.int .i64 m] h = some (.ret (.ptr (some ⟨S, 0⟩)) h') ∧ SetAt h' S (max m 0) (.slice none 0 (.exact 0)) [] ∧ Keep [] h h' ∧ h.next ≤ S ∧ S < h'.next := by
  have hm : (if m < 0 then (0 : Int) else m) = max m 0 := by rw [Int.max_def]; split <;> split <;> omega
  have hbx := box_agg (h := h) (vs := [.int .i64 (max m 0), .slice none 0 (.exact 0)]) rfl
  have hk := (Keep.refl (ex := []) hw).alloc (.cells [.int .i64 (max m 0), .slice none 0 (.exact 0)] .own)
  have hg := Heap.get_alloc h (.cells [.int .i64 (max m 0), .slice none 0 (.exact 0)] .own)
  generalize h.alloc (.cells [.int .i64 (max m 0), .slice none 0 (.exact 0)] .own) = g at hbx hk hg
  have main : ∃ r h', callT ov1 Try.prog 13 [.int .i64 m] h = some (.ret r h') ∧ r = .ptr (some ⟨h.next, 0⟩) ∧ h' = g := by
    refine callT_wp (fn := Try.f13) (ov1_none rfl (by decide) (by decide) _ _) (by kernel_rfl) rfl ?_
    have hl : (frameA Try.f13 [.int .i64 m]).length = 7 := frameA_length (Nat.le_of_ble_eq_true rfl)
    have h0 : nth (frameA Try.f13 [.int .i64 m]) 0 = .int .i64 m := frameA_nth (Nat.le_of_ble_eq_true rfl)
    generalize frameA Try.f13 [.int .i64 m] = e at hl h0
    repeat apply WP.seq
    apply WP.region; simp [hl]
    repeat apply WP.seq
    apply WP.region; simp [hl, h0, hm, build71, hbx]
    apply WP.ret
    simp [hl, resultsA, resultA, single]
  obtain ⟨_, _, h1, rfl, rfl⟩ := main
  exact ⟨_, _, h1, ⟨hg, Acc.nil⟩, hk, Nat.le_refl _, hk.wf _ _ hg⟩

theorem setLen_ok {h : Heap} {S : Nat} {most : Int} {hv : AV} {ws : List (Nat × Nat)} (hS : SetAt h S most hv ws) : callT ov1 Try.prog 14 [.ptr (some ⟨S, 0⟩)] h = some (.ret (.int .i64 (ws.length : Nat)) h) := by
  have main : ∃ r g, callT ov1 Try.prog 14 [.ptr (some ⟨S, 0⟩)] h = some (.ret r g) ∧ r = .int .i64 (ws.length : Nat) ∧ g = h := by
    refine callT_wp (fn := Try.f14) (ov1_none rfl (by decide) (by decide) _ _) (by kernel_rfl) rfl ?_
    have hl : (frameA Try.f14 [.ptr (some ⟨S, 0⟩)]).length = 8 := frameA_length (Nat.le_of_ble_eq_true rfl)
    have h0 : nth (frameA Try.f14 [.ptr (some ⟨S, 0⟩)]) 0 = .ptr (some ⟨S, 0⟩) := frameA_nth (Nat.le_of_ble_eq_true rfl)
    generalize frameA Try.f14 [.ptr (some ⟨S, 0⟩)] = e at hl h0
    have hld : loadA Try.prog h 28 ⟨S, 1⟩ = some hv := load_cell a28 hS.1 rfl
    have hln : lenA Try.prog h 28 hv = some (.int .i64 (ws.length : Nat)) := by simpa using hS.2.sl.len (P := Try.prog) u28
    repeat apply WP.seq
    apply WP.region; simp [hl]
    repeat apply WP.seq
    apply WP.region; simp [hl, h0, fa71, hld, hln]
    apply WP.ret
    simp [hl, resultsA, resultA, single]
  obtain ⟨_, _, h1, rfl, rfl⟩ := main
  exact h1

/-- Where a watch stands. -/
def idxP (ws : List (Nat × Nat)) (W : Nat) : Int := firstT (ws.map fun w => decide (W = w.1)) 0
theorem index_ok {h : Heap} {hv : AV} {ws : List (Nat × Nat)} {fs : List Bool} (hs : Sl h hv (ptrs ws)) (hW : WsAt h ws fs) {W : Nat} (hlive : livePtr h ⟨W, 0⟩ = true) (hn : ws.length ≤ 1000000000) :
    callT ov1 Try.prog 32 [hv, .ptr (some ⟨W, 0⟩)] h = some (.ret (.int .i64 (idxP ws W)) h) := by
  have main : ∃ r g, callT ov1 Try.prog 32 [hv, .ptr (some ⟨W, 0⟩)] h = some (.ret r g) ∧ r = .int .i64 (idxP ws W) ∧ g = h := by
    refine callT_wp (fn := Try.f32) (ov1_none rfl (by decide) (by decide) _ _) (by kernel_rfl) rfl ?_
    have hl : (frameA Try.f32 [hv, .ptr (some ⟨W, 0⟩)]).length = 19 := frameA_length (Nat.le_of_ble_eq_true rfl)
    have h0 : nth (frameA Try.f32 [hv, .ptr (some ⟨W, 0⟩)]) 0 = hv := frameA_nth (Nat.le_of_ble_eq_true rfl)
    have h1 : nth (frameA Try.f32 [hv, .ptr (some ⟨W, 0⟩)]) 1 = .ptr (some ⟨W, 0⟩) := frameA_nth (Nat.le_of_ble_eq_true rfl)
    generalize frameA Try.f32 [hv, .ptr (some ⟨W, 0⟩)] = e at hl h0 h1
    have hln : lenA Try.prog h 28 hv = some (.int .i64 (ws.length : Nat)) := by simpa using hs.len (P := Try.prog) u28
    repeat apply WP.seq
    apply WP.region; simp [hl]
    repeat apply WP.seq
    apply WP.region; simp [hl, h0, hln]
    repeat apply WP.seq
    apply WP.block
    refine WP.loop (fun k e g => h = g ∧ e.length = 19 ∧ nth e 0 = hv ∧ nth e 1 = .ptr (some ⟨W, 0⟩) ∧ nth e 7 = .int .i64 ws.length ∧ ∃ i, i ≤ ws.length ∧ k = ws.length - i ∧ nth e 8 = .int .i64 (i : Nat) ∧ idxP ws W = firstT ((ws.map fun w => decide (W = w.1)).drop i) i) ?_ ws.length _ _ ?_
    · rintro k e _ ⟨rfl, hl, h0, h1, h7, i, hi, rfl, h8, hinv⟩
      repeat apply WP.seq
      apply WP.region; simp [hl, h7, h8]
      repeat apply WP.seq
      apply WP.cond (by simp [hl]; rfl)
      · intro hlt1
        have hlt1 : i < ws.length := by simpa using hlt1
        apply WP.skip; simp
        repeat apply WP.seq
        apply WP.block
        repeat apply WP.seq
        have hwi : ws[i]? = some ws[i] := List.getElem?_eq_getElem hlt1
        generalize ws[i] = w at hwi
        obtain ⟨l1, hl1, hl1', _⟩ := hs.at (P := Try.prog) u28 s24 a24 (ptrs_get hwi) (k := .i64)
        have hpe : ∀ xo yo, binA Try.prog h .eql 24 xo yo (.ptr (some ⟨W, 0⟩)) (.ptr (some ⟨w.1, 0⟩)) = some (.bool (decide (W = w.1))) := fun xo yo => ptr_eq hlive (hW.live (List.mem_of_getElem? hwi))
        rw [firstT_drop (b := decide (W = w.1)) (by simp [hwi])] at hinv
        apply WP.region; simp [hl, h8]
        repeat apply WP.seq
        apply WP.region; simp [hl, h0, h1, hl1, hl1', hpe]
        repeat apply WP.seq
        apply WP.cond (by simp [hl]; rfl)
        · intro hc
          rw [hc] at hinv
          simp only [if_true] at hinv
          repeat apply WP.seq
          apply WP.region; simp [hl]
          apply WP.ret
          simp [hl, resultsA, resultA, single, hinv]
        · intro hc
          rw [hc] at hinv
          simp only [Bool.false_eq_true, if_false] at hinv
          apply WP.skip; simp
          apply WP.region; simp [hl, h8, int_wrap (show i < 9223372036854775807 by omega)]
          exact ⟨ws.length - (i + 1), by omega, h0, h1, h7, i + 1, by omega, rfl, by simp, hinv⟩
      · intro hge
        have hge : ¬ i < ws.length := by simpa using hge
        apply WP.exit
        simp
        rw [List.drop_eq_nil_of_le (by simp; omega)] at hinv
        simp only [firstT] at hinv
        repeat apply WP.seq
        apply WP.region; simp [hl]
        apply WP.ret
        simp [hl, resultsA, resultA, single, hinv]
    · exact ⟨rfl, by simp [hl], by simp [hl, h0], by simp [hl, h1], by simp [hl], 0, by omega, by omega, by simp [hl], rfl⟩
  obtain ⟨_, _, h1, rfl, rfl⟩ := main
  exact h1

theorem contains_ok {h : Heap} {hv : AV} {ws : List (Nat × Nat)} {fs : List Bool} (hs : Sl h hv (ptrs ws)) (hW : WsAt h ws fs) {W : Nat} (hlive : livePtr h ⟨W, 0⟩ = true) (hn : ws.length ≤ 1000000000) :
    callT ov1 Try.prog 25 [hv, .ptr (some ⟨W, 0⟩)] h = some (.ret (.bool (decide (0 ≤ idxP ws W))) h) := by
  have main : ∃ r g, callT ov1 Try.prog 25 [hv, .ptr (some ⟨W, 0⟩)] h = some (.ret r g) ∧ r = .bool (decide (0 ≤ idxP ws W)) ∧ g = h := by
    refine callT_wp (fn := Try.f25) (ov1_none rfl (by decide) (by decide) _ _) (by kernel_rfl) rfl ?_
    have hl : (frameA Try.f25 [hv, .ptr (some ⟨W, 0⟩)]).length = 9 := frameA_length (Nat.le_of_ble_eq_true rfl)
    have h0 : nth (frameA Try.f25 [hv, .ptr (some ⟨W, 0⟩)]) 0 = hv := frameA_nth (Nat.le_of_ble_eq_true rfl)
    have h1 : nth (frameA Try.f25 [hv, .ptr (some ⟨W, 0⟩)]) 1 = .ptr (some ⟨W, 0⟩) := frameA_nth (Nat.le_of_ble_eq_true rfl)
    generalize frameA Try.f25 [hv, .ptr (some ⟨W, 0⟩)] = e at hl h0 h1
    have hca : callA (callT ov1 Try.prog) Try.prog h 32 [hv, .ptr (some ⟨W, 0⟩)] = _ := index_ok hs hW hlive hn
    repeat apply WP.seq
    apply WP.region; simp [hl]
    repeat apply WP.seq
    apply WP.region; simp [hl, h0, h1, hca]
    apply WP.ret
    simp [hl, resultsA, resultA, single]
  obtain ⟨_, _, h1, rfl, rfl⟩ := main
  exact h1

theorem setFirst_ok {h : Heap} {S : Nat} {most : Int} {hv : AV} {ws : List (Nat × Nat)} {fs : List Bool} (hS : SetAt h S most hv ws) (hW : WsAt h ws fs) (hn : ws.length ≤ 1000000000) :
    callT ov1 Try.prog 15 [.ptr (some ⟨S, 0⟩)] h = some (.ret (.int .i64 (firstT fs 0)) h) := by
  have hs := hS.2.sl
  have hin : callT ov1 Try.prog 24 [hv, .func (.func 11) [] []] h = some (.ret (.int .i64 (firstT fs 0)) h) := by
    have main : ∃ r g, callT ov1 Try.prog 24 [hv, .func (.func 11) [] []] h = some (.ret r g) ∧ r = .int .i64 (firstT fs 0) ∧ g = h := by
      refine callT_wp (fn := Try.f24) (ov1_none rfl (by decide) (by decide) _ _) (by kernel_rfl) rfl ?_
      have hl : (frameA Try.f24 [hv, .func (.func 11) [] []]).length = 19 := frameA_length (Nat.le_of_ble_eq_true rfl)
      have h0 : nth (frameA Try.f24 [hv, .func (.func 11) [] []]) 0 = hv := frameA_nth (Nat.le_of_ble_eq_true rfl)
      have h1 : nth (frameA Try.f24 [hv, .func (.func 11) [] []]) 1 = .func (.func 11) [] [] := frameA_nth (Nat.le_of_ble_eq_true rfl)
      generalize frameA Try.f24 [hv, .func (.func 11) [] []] = e at hl h0 h1
      have hln : lenA Try.prog h 28 hv = some (.int .i64 (ws.length : Nat)) := by simpa using hs.len (P := Try.prog) u28
      repeat apply WP.seq
      apply WP.region; simp [hl]
      repeat apply WP.seq
      apply WP.region; simp [hl, h0, hln]
      repeat apply WP.seq
      apply WP.block
      refine WP.loop (fun k e g => h = g ∧ e.length = 19 ∧ nth e 0 = hv ∧ nth e 1 = .func (.func 11) [] [] ∧ nth e 7 = .int .i64 ws.length ∧ ∃ i, i ≤ ws.length ∧ k = ws.length - i ∧ nth e 8 = .int .i64 (i : Nat) ∧ firstT fs 0 = firstT (fs.drop i) i) ?_ ws.length _ _ ?_
      · rintro k e _ ⟨rfl, hl, h0, h1, h7, i, hi, rfl, h8, hinv⟩
        repeat apply WP.seq
        apply WP.region; simp [hl, h7, h8]
        repeat apply WP.seq
        apply WP.cond (by simp [hl]; rfl)
        · intro hlt1
          have hlt1 : i < ws.length := by simpa using hlt1
          apply WP.skip; simp
          repeat apply WP.seq
          apply WP.block
          repeat apply WP.seq
          have hwi : ws[i]? = some ws[i] := List.getElem?_eq_getElem hlt1
          generalize ws[i] = w at hwi
          have hlf : i < fs.length := by rw [← hW.1]; exact hlt1
          have hfi : fs[i]? = some fs[i] := List.getElem?_eq_getElem hlf
          generalize fs[i] = b at hfi
          obtain ⟨l1, hl1, hl1', _⟩ := hs.at (P := Try.prog) u28 s24 a24 (ptrs_get hwi) (k := .i64)
          have hca11 : callA (callT ov1 Try.prog) Try.prog h 11 [.ptr (some ⟨w.1, 0⟩)] = _ := fired_ok (hW.2 i w b hwi hfi)
          rw [firstT_drop hfi] at hinv
          apply WP.region; simp [hl, h8]
          repeat apply WP.seq
          apply WP.region; simp [hl, h0, h1, hl1, hl1', hca11]
          repeat apply WP.seq
          apply WP.cond (by simp [hl]; rfl)
          · intro hc
            rw [hc] at hinv
            simp only [if_true] at hinv
            repeat apply WP.seq
            apply WP.region; simp [hl]
            apply WP.ret
            simp [hl, resultsA, resultA, single, hinv]
          · intro hc
            rw [hc] at hinv
            simp only [Bool.false_eq_true, if_false] at hinv
            apply WP.skip; simp
            apply WP.region; simp [hl, h8, int_wrap (show i < 9223372036854775807 by omega)]
            exact ⟨ws.length - (i + 1), by omega, h0, h1, h7, i + 1, by omega, rfl, by simp, hinv⟩
        · intro hge
          have hge : ¬ i < ws.length := by simpa using hge
          apply WP.exit
          simp
          rw [List.drop_eq_nil_of_le (by rw [← hW.1]; omega)] at hinv
          simp only [firstT] at hinv
          repeat apply WP.seq
          apply WP.region; simp [hl]
          apply WP.ret
          simp [hl, resultsA, resultA, single, hinv]
      · exact ⟨rfl, by simp [hl], by simp [hl, h0], by simp [hl, h1], by simp [hl], 0, by omega, by omega, by simp [hl], rfl⟩
    obtain ⟨_, _, h1, rfl, rfl⟩ := main
    exact h1
  have main : ∃ r g, callT ov1 Try.prog 15 [.ptr (some ⟨S, 0⟩)] h = some (.ret r g) ∧ r = .int .i64 (firstT fs 0) ∧ g = h := by
    refine callT_wp (fn := Try.f15) (ov1_none rfl (by decide) (by decide) _ _) (by kernel_rfl) rfl ?_
    have hl : (frameA Try.f15 [.ptr (some ⟨S, 0⟩)]).length = 8 := frameA_length (Nat.le_of_ble_eq_true rfl)
    have h0 : nth (frameA Try.f15 [.ptr (some ⟨S, 0⟩)]) 0 = .ptr (some ⟨S, 0⟩) := frameA_nth (Nat.le_of_ble_eq_true rfl)
    generalize frameA Try.f15 [.ptr (some ⟨S, 0⟩)] = e at hl h0
    have hld : loadA Try.prog h 28 ⟨S, 1⟩ = some hv := load_cell a28 hS.1 rfl
    have hca : callA (callT ov1 Try.prog) Try.prog h 24 [hv, .func (.func 11) [] []] = _ := hin
    repeat apply WP.seq
    apply WP.region; simp [hl]
    repeat apply WP.seq
    apply WP.region; simp [hl, h0, fa71, hld, hca]
    apply WP.ret
    simp [hl, resultsA, resultA, single]
  obtain ⟨_, _, h1, rfl, rfl⟩ := main
  exact h1
end
end Go.Am
