/- A part of the proof by the abstract machine: SNew. -/
import Derived.Test.YtehccakjdbapiaaAmSFacts
set_option linter.unusedSimpArgs false
namespace Go.Am
open Go.RowKit Go.Proofs

theorem frameA_length {fn : Func} {args : List AV} (h : args.length ≤ fn.ntmps) : (frameA fn args).length = fn.ntmps := by
  simp only [frameA, List.length_append, List.length_replicate]; omega
theorem nth_append_left : ∀ {xs ys : List AV} {i : Nat}, i < xs.length → nth (xs ++ ys) i = nth xs i
  | _ :: _, _, 0, _ => rfl
  | _ :: xs, ys, i + 1, h => by simp only [List.cons_append, nth]; exact nth_append_left (by simpa using h)
theorem frameA_nth {fn : Func} {args : List AV} {i : Nat} (h : i < args.length) : nth (frameA fn args) i = nth args i := nth_append_left h

def ints (xs : List Int) : List AV := xs.map (.int .i64)
def bools (xs : List Bool) : List AV := xs.map .bool
@[simp] theorem ints_length {xs : List Int} : (ints xs).length = xs.length := by simp [ints]
@[simp] theorem bools_length {xs : List Bool} : (bools xs).length = xs.length := by simp [bools]
theorem ints_get {xs : List Int} {i : Nat} {x : Int} (h : xs[i]? = some x) : (ints xs)[i]? = some (.int .i64 x) := by simp [ints, h]
theorem bools_get {xs : List Bool} {i : Nat} {x : Bool} (h : xs[i]? = some x) : (bools xs)[i]? = some (.bool x) := by simp [bools, h]
theorem ints_ok : ∀ {xs : List Int}, cellsOk (ints xs) = true
  | [] => rfl
  | x :: xs => by simp only [ints, List.map_cons, cellsOk, cellOk, Bool.true_and]; exact ints_ok (xs := xs)
theorem bools_ok : ∀ {xs : List Bool}, cellsOk (bools xs) = true
  | [] => rfl
  | x :: xs => by simp only [bools, List.map_cons, cellsOk, cellOk, Bool.true_and]; exact bools_ok (xs := xs)

section
variable {ov : CallF}

theorem clone_ok (hov : ∀ a h, ov 25 a h = none) {h : Heap} (hw : Wf h) {v : AV} {xs : List Int} (hs : Sl h v (ints xs)) (hn : xs.length ≤ 1000000000) :
    ∃ v' h', callT ov Try.prog 25 [v] h = some (.ret v' h') ∧ Sl h' v' (ints xs) ∧ (∃ l c, v' = .slice l xs.length c) ∧ (∀ i, idOf v' = some i → h.next ≤ i ∧ i < h'.next) ∧ Keep [] h h' := by
  refine callT_wp (fn := Try.f25) (hov _ _) (by kernel_rfl) rfl ?_
  have hl : (frameA Try.f25 [v]).length = 8 := frameA_length (Nat.le_of_ble_eq_true rfl)
  have h0 : nth (frameA Try.f25 [v]) 0 = v := frameA_nth (Nat.le_of_ble_eq_true rfl)
  generalize frameA Try.f25 [v] = e at hl h0
  obtain ⟨l, c, rfl⟩ := hs.slice
  apply WP.seq; apply WP.region; simp [hl, h0]
  apply WP.seq; apply WP.seq; apply WP.region; simp [hl, h0, bin_slnil u22]
  apply WP.cond (t := l.isNone) (by simp [hl])
  · intro hn
    obtain rfl : l = none := by simpa using hn
    obtain ⟨h1, h2⟩ := hs
    have hx : xs = [] := List.length_eq_zero_iff.1 (by simpa using h1)
    subst hx
    apply WP.seq; apply WP.region; simp [hl, h0]
    apply WP.ret
    simp [hl, h0, resultsA, resultA, single, Sl, idOf, Keep.refl hw, ints]
  · intro _
    apply WP.skip; simp
    obtain ⟨v', h', i, hap, hown, hi, hk⟩ := hs.clone hw u22 s3 (fun _ => room3 (by simpa using hn)) ints_ok
    have hsl := hown.sl
    obtain ⟨c', ⟨rfl, _⟩, hg⟩ := hown
    have hlt := hk.wf _ _ hg
    have hid : ∀ j, idOf (.slice (some ⟨i, 0⟩) (ints xs).length c') = some j → h.next ≤ j ∧ j < h'.next := by
      intro j hj; cases hj; exact ⟨hi, hlt⟩
    simp at hap
    apply WP.seq; apply WP.region; simp [hl, h0, build22, hap]
    apply WP.ret
    simp [hl, resultsA, resultA, single, hk]
    rw [ints_length] at hsl hid
    exact ⟨hsl, hid⟩

theorem new_ok (hov : ∀ a h, ov 25 a h = none) (hov' : ∀ a h, ov 11 a h = none) {h : Heap} (hw : Wf h) {v : AV} {xs : List Int} (hs : Sl h v (ints xs)) (hn : xs.length ≤ 1000000000) (b : Int) :
    ∃ C h' v', callT ov Try.prog 11 [v, .int .i64 b] h = some (.ret (.ptr (some ⟨C, 0⟩)) h') ∧ h'.get C = some (.cells [v', .int .i64 (max b 1), .slice none 0 (.exact 0), .int .i64 (-1)] .own) ∧ Sl h' v' (ints xs) ∧ (∀ i, idOf v' = some i → h.next ≤ i ∧ i ≠ C) ∧ h.next ≤ C ∧ Keep [] h h' := by
  obtain ⟨v', h1, hc, hsl, ⟨l, c, rfl⟩, hid, hk⟩ := clone_ok hov hw hs hn
  have hm : (if b < 1 then (1 : Int) else b) = max b 1 := by rw [Int.max_def]; split <;> split <;> omega
  have h2 : ∃ u h', callT ov Try.prog 11 [v, .int .i64 b] h = some (.ret u h') ∧ u = .ptr (some ⟨h1.next, 0⟩) ∧ h' = h1.alloc (.cells [.slice l xs.length c, .int .i64 (max b 1), .slice none 0 (.exact 0), .int .i64 (-1)] .own) := by
    refine callT_wp (fn := Try.f11) (hov' _ _) (by kernel_rfl) rfl ?_
    have hl : (frameA Try.f11 [v, .int .i64 b]).length = 11 := frameA_length (Nat.le_of_ble_eq_true rfl)
    have h0 : nth (frameA Try.f11 [v, .int .i64 b]) 0 = v := frameA_nth (Nat.le_of_ble_eq_true rfl)
    have h1 : nth (frameA Try.f11 [v, .int .i64 b]) 1 = .int .i64 b := frameA_nth (Nat.le_of_ble_eq_true rfl)
    generalize frameA Try.f11 [v, .int .i64 b] = e at hl h0 h1
    apply WP.seq; apply WP.region; simp [hl, h0]
    have hca : ∀ args h, callA (callT ov Try.prog) Try.prog h 25 args = callT ov Try.prog 25 args h := fun args h => callA_of (fn := Try.f25) (by kernel_rfl) rfl
    apply WP.seq; apply WP.region; simp [hl, h0, h1, hca, hc, build62, boxA, cellsA, newA, hm]
    apply WP.ret
    simp [hl, resultsA, resultA, single]
  obtain ⟨_, _, h2, rfl, rfl⟩ := h2
  have hk2 := hk.alloc (.cells [.slice l xs.length c, .int .i64 (max b 1), .slice none 0 (.exact 0), .int .i64 (-1)] .own)
  refine ⟨h1.next, _, _, h2, Heap.get_alloc _ _, ?_, ?_, hk.le, hk2⟩
  · exact hsl.keep (Keep.alloc (Keep.refl (ex := []) hk.wf) _) (by simp)
  · intro i hi
    have := hid i hi
    omega
end
end Go.Am
