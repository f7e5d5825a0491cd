/- Parts of the proof by the abstract machine: SFacts, SNew, SOld, SChoose, SNext, STurnsP, SRef, SAge. -/
import Derived.Test.YtehccakjdbapiaaChecked
import Derived.KernelRfl
import Derived.Test.YtehccakjdbapiaaAmGRLogs9
namespace Go.Am
open Go.RowKit Go.Proofs

attribute [simp] sim_nil sim_cons stepR_ret stepR_none sim_guard gstep_true gstep_false ev_tmp ev_func ev_int ev_bool ev_nilptr ev_nilslice ev_nilIface ev_nilFunc ev_nilmap op_move op_assign op_pick pickA_bool op_alloc op_box op_build op_buildSlice op_load loadR_ptr op_store op_nilCheck op_binOp op_unOp op_convert op_makeInterface op_makeFunc op_makeSlice op_slice op_fieldAddr op_field op_indexAddr op_index op_typeAssert op_extract op_builtin bi_len bi_append bi_copy bi_max2 bi_min2 maxA_two minA_two op_callv valR_func evals_nil evals_cons parts_nil parts_cons evalO_none evalO_some withH_ret toRet_ret toRet_withH bin_add bin_sub bin_mul bin_eql bin_neq bin_lss bin_leq bin_gtr bin_geq un_not nilCheck_ptr nilCheck_iface nilCheck_func
attribute [simp] W_some seqK_normal seqK_exit seqK_ret blockK_same blockK_normal blockK_ret loopK_normal loopK_exit loopK_ret nth_set_eq nth_set_ne

theorem u22 : Try.prog.underlying 22 = some (.slice 3) := by kernel_rfl
theorem u23 : Try.prog.underlying 23 = some (.slice 31) := by kernel_rfl
theorem u31 : Try.prog.underlying 31 = some (.slice 4) := by kernel_rfl
theorem u3 : Try.prog.underlying 3 = some (.int .i64) := by kernel_rfl
theorem u4 : Try.prog.underlying 4 = some .bool := by kernel_rfl
theorem u25 : Try.prog.underlying 25 = some (.pointer 62) := by kernel_rfl
theorem s3 : sizeA Try.prog 3 = some 1 := by kernel_rfl
theorem s4 : sizeA Try.prog 4 = some 1 := by kernel_rfl
theorem s22 : sizeA Try.prog 22 = some 1 := by kernel_rfl
theorem s25 : sizeA Try.prog 25 = some 1 := by kernel_rfl
theorem s31 : sizeA Try.prog 31 = some 1 := by kernel_rfl
theorem a3 : aggA Try.prog 3 = some false := by kernel_rfl
theorem a4 : aggA Try.prog 4 = some false := by kernel_rfl
theorem a22 : aggA Try.prog 22 = some false := by kernel_rfl
theorem a25 : aggA Try.prog 25 = some false := by kernel_rfl
theorem a31 : aggA Try.prog 31 = some false := by kernel_rfl
theorem i3 : Try.prog.info? 3 = some Try.t3 := by kernel_rfl
theorem i4 : Try.prog.info? 4 = some Try.t4 := by kernel_rfl
theorem room3 {n : Nat} (hn : n ≤ 1000000000) : roomA Try.prog 3 n = true := room_of i3 (b := 8) (by kernel_rfl) (by omega) (by omega) (z := .int .i64 0) (by kernel_rfl) (by kernel_rfl) (by kernel_rfl)
theorem room4 {n : Nat} (hn : n ≤ 1000000000) : roomA Try.prog 4 n = true := room_of i4 (b := 1) (by kernel_rfl) (by omega) (by omega) (z := .bool false) (by kernel_rfl) (by kernel_rfl) (by kernel_rfl)
theorem build22 {h : Heap} : buildSliceA Try.prog h 22 0 [] = some (.slice (some ⟨h.next, 0⟩) 0 (.exact 0), h.alloc (.cells [] .own)) :=
  build_none u22 i3 (z := .int .i64 0) (by kernel_rfl) (by kernel_rfl) (by kernel_rfl) (za := .int .i64 0) (by kernel_rfl) (zc := [.int .i64 0]) (by kernel_rfl)
theorem build22_1 {h : Heap} {x : AV} (hx : cellsA x = some [x]) : buildSliceA Try.prog h 22 1 [(0, x)] = some (.slice (some ⟨h.next, 0⟩) 1 (.exact 1), h.alloc (.cells [x] .own)) :=
  build_one u22 i3 (z := .int .i64 0) (by kernel_rfl) (by kernel_rfl) (by kernel_rfl) (za := .int .i64 0) (by kernel_rfl) (zc := .int .i64 0) (by kernel_rfl) hx
theorem build31 {h : Heap} : buildSliceA Try.prog h 31 0 [] = some (.slice (some ⟨h.next, 0⟩) 0 (.exact 0), h.alloc (.cells [] .own)) :=
  build_none u31 i4 (z := .bool false) (by kernel_rfl) (by kernel_rfl) (by kernel_rfl) (za := .bool false) (by kernel_rfl) (zc := [.bool false]) (by kernel_rfl)
theorem make22 {h : Heap} {n : Nat} (hn : n ≤ 1000000000) {k k' : IntKind} : makeSliceA Try.prog h 22 (.int k (n : Int)) (.int k' (n : Int)) = some (.slice (some ⟨h.next, 0⟩) n (.exact n), h.alloc (.cells (List.replicate n (.int .i64 0)) .own)) :=
  make_zeros u22 i3 (z := .int .i64 0) (by kernel_rfl) (by kernel_rfl) (by kernel_rfl) (za := .int .i64 0) (by kernel_rfl) (zc := .int .i64 0) (by kernel_rfl) (by rw [show Try.t3.bytes = 8 from by kernel_rfl]; omega) (by omega)
theorem make31 {h : Heap} {n : Nat} (hn : n ≤ 1000000000) {k k' : IntKind} : makeSliceA Try.prog h 31 (.int k (n : Int)) (.int k' (n : Int)) = some (.slice (some ⟨h.next, 0⟩) n (.exact n), h.alloc (.cells (List.replicate n (.bool false)) .own)) :=
  make_zeros u31 i4 (z := .bool false) (by kernel_rfl) (by kernel_rfl) (by kernel_rfl) (za := .bool false) (by kernel_rfl) (zc := .bool false) (by kernel_rfl) (by rw [show Try.t4.bytes = 1 from by kernel_rfl]; omega) (by omega)

theorem fa62 {l : Loc} : fieldAddrA Try.prog 62 (.ptr (some l)) 0 = some (.ptr (some ⟨l.id, l.off + 0⟩)) ∧ fieldAddrA Try.prog 62 (.ptr (some l)) 1 = some (.ptr (some ⟨l.id, l.off + 1⟩)) ∧
    fieldAddrA Try.prog 62 (.ptr (some l)) 2 = some (.ptr (some ⟨l.id, l.off + 2⟩)) ∧ fieldAddrA Try.prog 62 (.ptr (some l)) 3 = some (.ptr (some ⟨l.id, l.off + 3⟩)) := by
  refine ⟨?_, ?_, ?_, ?_⟩ <;> kernel_rfl
theorem build62 {l : Option Loc} {n : Nat} {c : Cap} {k k' : IntKind} {b m : Int} : buildA Try.prog 62 [(0, .slice l n c), (1, .int k b), (3, .int k' m)] = some (.agg [.slice l n c, .int k b, .slice none 0 (.exact 0), .int k' m]) := by kernel_rfl
def fnsB (l : List Func) : Bool := l.all fun fn => !(fn.name == "runtime.NumGoroutine")
theorem fns_ok : Fns Try.prog := by
  intro f fn hf _
  have hb : fnsB Try.prog.funcs.toList = true := by kernel_rfl
  have hm : fn ∈ Try.prog.funcs.toList := by
    rw [← Array.getElem?_toList] at hf
    exact List.mem_of_getElem? hf
  have := List.all_eq_true.1 hb fn hm
  simpa using this
theorem mixed_ok : Try.prog.follows .mixedOrders = true := by kernel_rfl
end Go.Am

set_option linter.unusedSimpArgs false
namespace Go.Am
open Go.RowKit Go.Proofs

theorem frameA_length {fn : Func} {args : List AV} (h : args.length ≤ fn.ntmps) : (frameA fn args).length = fn.ntmps := by
  simp only [frameA, List.length_append, List.length_replicate]; omega
theorem nth_append_left : ∀ {xs ys : List AV} {i : Nat}, i < xs.length → nth (xs ++ ys) i = nth xs i
  | _ :: _, _, 0, _ => rfl
  | _ :: xs, ys, i + 1, h => by simp only [List.cons_append, nth]; exact nth_append_left (by simpa using h)
theorem frameA_nth {fn : Func} {args : List AV} {i : Nat} (h : i < args.length) : nth (frameA fn args) i = nth args i := nth_append_left h

def ints (xs : List Int) : List AV := xs.map (.int .i64)
def bools (xs : List Bool) : List AV := xs.map .bool
@[simp] theorem ints_length {xs : List Int} : (ints xs).length = xs.length := by simp [ints]
@[simp] theorem bools_length {xs : List Bool} : (bools xs).length = xs.length := by simp [bools]
theorem ints_get {xs : List Int} {i : Nat} {x : Int} (h : xs[i]? = some x) : (ints xs)[i]? = some (.int .i64 x) := by simp [ints, h]
theorem bools_get {xs : List Bool} {i : Nat} {x : Bool} (h : xs[i]? = some x) : (bools xs)[i]? = some (.bool x) := by simp [bools, h]
theorem ints_ok : ∀ {xs : List Int}, cellsOk (ints xs) = true
  | [] => rfl
  | x :: xs => by simp only [ints, List.map_cons, cellsOk, cellOk, Bool.true_and]; exact ints_ok (xs := xs)
theorem bools_ok : ∀ {xs : List Bool}, cellsOk (bools xs) = true
  | [] => rfl
  | x :: xs => by simp only [bools, List.map_cons, cellsOk, cellOk, Bool.true_and]; exact bools_ok (xs := xs)

section
variable {ov : CallF}

theorem clone_ok (hov : ∀ a h, ov 25 a h = none) {h : Heap} (hw : Wf h) {v : AV} {xs : List Int} (hs : Sl h v (ints xs)) (hn : xs.length ≤ 1000000000) :
    ∃ v' h', callT ov Try.prog 25 [v] h = some (.ret v' h') ∧ Sl h' v' (ints xs) ∧ (∃ l c, v' = .slice l xs.length c) ∧ (∀ i, idOf v' = some i → h.next ≤ i ∧ i < h'.next) ∧ Keep [] h h' := by
  refine callT_wp (fn := Try.f25) (hov _ _) (by kernel_rfl) rfl ?_
  have hl : (frameA Try.f25 [v]).length = 8 := frameA_length (Nat.le_of_ble_eq_true rfl)
  have h0 : nth (frameA Try.f25 [v]) 0 = v := frameA_nth (Nat.le_of_ble_eq_true rfl)
  generalize frameA Try.f25 [v] = e at hl h0
  obtain ⟨l, c, rfl⟩ := hs.slice
  apply WP.seq; apply WP.region; simp [hl, h0]
  apply WP.seq; apply WP.seq; apply WP.region; simp [hl, h0, bin_slnil u22]
  apply WP.cond (t := l.isNone) (by simp [hl])
  · intro hn
    obtain rfl : l = none := by simpa using hn
    obtain ⟨h1, h2⟩ := hs
    have hx : xs = [] := List.length_eq_zero_iff.1 (by simpa using h1)
    subst hx
    apply WP.seq; apply WP.region; simp [hl, h0]
    apply WP.ret
    simp [hl, h0, resultsA, resultA, single, Sl, idOf, Keep.refl hw, ints]
  · intro _
    apply WP.skip; simp
    obtain ⟨v', h', i, hap, hown, hi, hk⟩ := hs.clone hw u22 s3 (fun _ => room3 (by simpa using hn)) ints_ok
    have hsl := hown.sl
    obtain ⟨c', ⟨rfl, _⟩, hg⟩ := hown
    have hlt := hk.wf _ _ hg
    have hid : ∀ j, idOf (.slice (some ⟨i, 0⟩) (ints xs).length c') = some j → h.next ≤ j ∧ j < h'.next := by
      intro j hj; cases hj; exact ⟨hi, hlt⟩
    simp at hap
    apply WP.seq; apply WP.region; simp [hl, h0, build22, hap]
    apply WP.ret
    simp [hl, resultsA, resultA, single, hk]
    rw [ints_length] at hsl hid
    exact ⟨hsl, hid⟩

theorem new_ok (hov : ∀ a h, ov 25 a h = none) (hov' : ∀ a h, ov 11 a h = none) {h : Heap} (hw : Wf h) {v : AV} {xs : List Int} (hs : Sl h v (ints xs)) (hn : xs.length ≤ 1000000000) (b : Int) :
    ∃ C h' v', callT ov Try.prog 11 [v, .int .i64 b] h = some (.ret (.ptr (some ⟨C, 0⟩)) h') ∧ h'.get C = some (.cells [v', .int .i64 (max b 1), .slice none 0 (.exact 0), .int .i64 (-1)] .own) ∧ Sl h' v' (ints xs) ∧ (∀ i, idOf v' = some i → h.next ≤ i ∧ i ≠ C) ∧ h.next ≤ C ∧ Keep [] h h' := by
  obtain ⟨v', h1, hc, hsl, ⟨l, c, rfl⟩, hid, hk⟩ := clone_ok hov hw hs hn
  have hm : (if b < 1 then (1 : Int) else b) = max b 1 := by rw [Int.max_def]; split <;> split <;> omega
  have h2 : ∃ u h', callT ov Try.prog 11 [v, .int .i64 b] h = some (.ret u h') ∧ u = .ptr (some ⟨h1.next, 0⟩) ∧ h' = h1.alloc (.cells [.slice l xs.length c, .int .i64 (max b 1), .slice none 0 (.exact 0), .int .i64 (-1)] .own) := by
    refine callT_wp (fn := Try.f11) (hov' _ _) (by kernel_rfl) rfl ?_
    have hl : (frameA Try.f11 [v, .int .i64 b]).length = 11 := frameA_length (Nat.le_of_ble_eq_true rfl)
    have h0 : nth (frameA Try.f11 [v, .int .i64 b]) 0 = v := frameA_nth (Nat.le_of_ble_eq_true rfl)
    have h1 : nth (frameA Try.f11 [v, .int .i64 b]) 1 = .int .i64 b := frameA_nth (Nat.le_of_ble_eq_true rfl)
    generalize frameA Try.f11 [v, .int .i64 b] = e at hl h0 h1
    apply WP.seq; apply WP.region; simp [hl, h0]
    have hca : ∀ args h, callA (callT ov Try.prog) Try.prog h 25 args = callT ov Try.prog 25 args h := fun args h => callA_of (fn := Try.f25) (by kernel_rfl) rfl
    apply WP.seq; apply WP.region; simp [hl, h0, h1, hca, hc, build62, boxA, cellsA, newA, hm]
    apply WP.ret
    simp [hl, resultsA, resultA, single]
  obtain ⟨_, _, h2, rfl, rfl⟩ := h2
  have hk2 := hk.alloc (.cells [.slice l xs.length c, .int .i64 (max b 1), .slice none 0 (.exact 0), .int .i64 (-1)] .own)
  refine ⟨h1.next, _, _, h2, Heap.get_alloc _ _, ?_, ?_, hk.le, hk2⟩
  · exact hsl.keep (Keep.alloc (Keep.refl (ex := []) hk.wf) _) (by simp)
  · intro i hi
    have := hid i hi
    omega
end
end Go.Am

set_option linter.unusedSimpArgs false
namespace Go.Am
open Go.RowKit Go.Proofs

/-- A chooser in memory. -/
def ChAt (h : Heap) (C : Nat) (pv av : AV) (picks : List Int) (bound : Int) (ages : List Int) (last : Int) : Prop :=
  h.get C = some (.cells [pv, .int .i64 bound, av, .int .i64 last] .own) ∧ Sl h pv (ints picks) ∧ Sl h av (ints ages) ∧ idOf pv ≠ some C ∧ idOf av ≠ some C
def Ch (h : Heap) (C : Nat) (picks : List Int) (bound : Int) (ages : List Int) (last : Int) : Prop := ∃ pv av, ChAt h C pv av picks bound ages last

theorem int_wrap {n : Nat} (h : n < 9223372036854775807) : IntKind.wrap .i64 ((n : Int) + 1) = ((n + 1 : Nat) : Int) := by
  rw [wrap_small (by omega) (by omega)]; rfl

def at0 (xs : List Int) (i : Nat) : Int := xs.getD i 0
theorem at0_get {xs : List Int} {i : Nat} (h : i < xs.length) : xs[i]? = some (at0 xs i) := by simp [at0, h]
/-- The first of the greatest. -/
def best (ws : List Int) : Nat → Nat
  | 0 => 0
  | k + 1 => if at0 ws (best ws k) < at0 ws k then k else best ws k
def agesOf (ages : List Int) (who : List Nat) : List Int := who.map fun a => at0 ages a
@[simp] theorem agesOf_length {ages : List Int} {who : List Nat} : (agesOf ages who).length = who.length := by simp [agesOf]
theorem agesOf_get {ages : List Int} {who : List Nat} {i a : Nat} (h : who[i]? = some a) : at0 (agesOf ages who) i = at0 ages a := by simp [agesOf, at0, h]
theorem best_lt {ws : List Int} (h : ws ≠ []) : ∀ k, k ≤ ws.length → best ws k < ws.length
  | 0, _ => List.length_pos_iff.2 h
  | k + 1, hk => by
    simp only [best]
    split
    · omega
    · exact best_lt h k (by omega)

def nats (ns : List Nat) : List AV := ints (ns.map fun (n : Nat) => (n : Int))
@[simp] theorem nats_length {ns : List Nat} : (nats ns).length = ns.length := by simp [nats]
theorem nats_get {ns : List Nat} {i n : Nat} (h : ns[i]? = some n) : (nats ns)[i]? = some (.int .i64 (n : Int)) := ints_get (by simp [h])

section
variable {ov : CallF}

theorem oldest_ok (hov : ∀ a h, ov 28 a h = none) {h : Heap} {C : Nat} {picks ages : List Int} {bound last : Int} {pv av : AV} (hC : ChAt h C pv av picks bound ages last) {v : AV} {who : List Nat} (hs : Sl h v (nats who)) (hn : who.length ≤ 1000000000) (hlt : ∀ a ∈ who, a < ages.length) :
    callT ov Try.prog 28 [.ptr (some ⟨C, 0⟩), v] h = some (.ret (.int .i64 (best (agesOf ages who) who.length : Nat)) h) := by
  have main : ∃ u g, callT ov Try.prog 28 [.ptr (some ⟨C, 0⟩), v] h = some (.ret u g) ∧ u = .int .i64 (best (agesOf ages who) who.length : Nat) ∧ g = h := by
    obtain ⟨hg, hp, ha, _, _⟩ := hC
    refine callT_wp (fn := Try.f28) (hov _ _) (by kernel_rfl) rfl ?_
    have hl : (frameA Try.f28 [.ptr (some ⟨C, 0⟩), v]).length = 36 := frameA_length (Nat.le_of_ble_eq_true rfl)
    have h0 : nth (frameA Try.f28 [.ptr (some ⟨C, 0⟩), v]) 0 = .ptr (some ⟨C, 0⟩) := frameA_nth (Nat.le_of_ble_eq_true rfl)
    have h1 : nth (frameA Try.f28 [.ptr (some ⟨C, 0⟩), v]) 1 = v := frameA_nth (Nat.le_of_ble_eq_true rfl)
    generalize frameA Try.f28 [.ptr (some ⟨C, 0⟩), v] = e at hl h0 h1
    have hlen := hs.len u22
    apply WP.seq; apply WP.region; simp [hl]
    repeat apply WP.seq
    apply WP.region; simp [hl]
    repeat apply WP.seq
    apply WP.region; simp [hl, h1, hlen]
    repeat apply WP.seq
    apply WP.block
    refine WP.loop (fun n e g => g = h ∧ e.length = 36 ∧ nth e 0 = .ptr (some ⟨C, 0⟩) ∧ nth e 1 = v ∧ nth e 8 = v ∧ nth e 9 = .int .i64 who.length ∧ ∃ i, i ≤ who.length ∧ n = who.length - i ∧ nth e 10 = .int .i64 (i : Nat) ∧ nth e 5 = .int .i64 (best (agesOf ages who) i : Nat)) ?_ who.length _ _ ?_
    · rintro n e g ⟨rfl, hl, h0, h1, h8, h9, i, hi, rfl, h10, h5⟩
      repeat apply WP.seq
      apply WP.region; simp [hl, h9, h10]
      repeat apply WP.seq
      apply WP.cond (by simp [hl]; rfl)
      · intro hlt1
        have hlt1 : i < who.length := by simpa using hlt1
        apply WP.skip; simp
        repeat apply WP.seq
        apply WP.block
        obtain ⟨a, hwa⟩ : ∃ a, who[i]? = some a := ⟨who[i], by simp [hlt1]⟩
        obtain ⟨l1, hl1, hl1', _⟩ := hs.at u22 s3 a3 (nats_get hwa) (k := .i64)
        have hal : a < ages.length := hlt a (List.mem_of_getElem? hwa)
        obtain ⟨l2, hl2, hl2', _⟩ := ha.at u22 s3 a3 (ints_get (at0_get hal)) (k := .i64)
        have hne : who ≠ [] := by intro hh; simp [hh] at hlt1
        have hb : best (agesOf ages who) i < who.length := by simpa using best_lt (ws := agesOf ages who) (by rw [← List.length_pos_iff]; simpa [List.length_pos_iff] using hne) i (by simpa using hi)
        obtain ⟨b, hwb⟩ : ∃ b, who[best (agesOf ages who) i]? = some b := ⟨who[best (agesOf ages who) i], by simp [hb]⟩
        obtain ⟨l3, hl3, hl3', _⟩ := hs.at u22 s3 a3 (nats_get hwb) (k := .i64)
        have hbl : b < ages.length := hlt b (List.mem_of_getElem? hwb)
        obtain ⟨l4, hl4, hl4', _⟩ := ha.at u22 s3 a3 (ints_get (at0_get hbl)) (k := .i64)
        repeat apply WP.seq
        have hld : loadA Try.prog g 22 ⟨C, 2⟩ = some av := load_cell a22 hg rfl
        apply WP.region; simp [hl, h8, h10, hl1, hl1']
        repeat apply WP.seq
        apply WP.draw (by kernel_rfl) (by kernel_rfl)
        simp [hl, h0, h1, h5, h8, h10, fa62, hld, hl2, hl2', hl3, hl3', hl4, hl4']
        have hbest : best (agesOf ages who) (i + 1) = if at0 ages b < at0 ages a then i else best (agesOf ages who) i := by
          simp only [best, agesOf_get hwa, agesOf_get hwb]
        apply WP.cond (by simp [hl]; rfl)
        · intro hc
          have hc : at0 ages b < at0 ages a := by simpa using hc
          apply WP.region; simp [hl, h10]
          apply WP.region; simp [hl, h10, int_wrap (show i < 9223372036854775807 by omega)]
          refine ⟨who.length - (i + 1), by omega, h0, h1, h8, h9, i + 1, by omega, rfl, by simp, ?_⟩
          rw [hbest, if_pos hc]
        · intro hc
          have hc : ¬ at0 ages b < at0 ages a := by simpa using hc
          apply WP.skip; simp
          apply WP.region; simp [hl, h10, int_wrap (show i < 9223372036854775807 by omega)]
          refine ⟨who.length - (i + 1), by omega, h0, h1, h8, h9, i + 1, by omega, rfl, by simp, ?_⟩
          rw [hbest, if_neg hc, h5]
      · intro hge
        have hge : ¬ i < who.length := by simpa using hge
        have hi' : i = who.length := by omega
        subst hi'
        apply WP.exit
        simp
        repeat apply WP.seq
        apply WP.region; simp [hl, h5]
        apply WP.ret
        simp [hl, resultsA, resultA, single]
    · refine ⟨rfl, by simp [hl], by simp [h0], by simp [h1], by simp [hl], by simp [hl], 0, by omega, by omega, by simp [hl], by simp [hl, best]⟩
  obtain ⟨_, _, h1, rfl, rfl⟩ := main
  exact h1
end
end Go.Am

set_option linter.unusedSimpArgs false
namespace Go.Am
open Go.RowKit Go.Proofs

/-- The place of the first above a number. -/
def firstGt (last : Int) : List Nat → Nat → Int
  | [], _ => -1
  | a :: as', i => if last < (a : Int) then (i : Int) else firstGt last as' (i + 1)
theorem firstGt_lt (last : Int) : ∀ (l : List Nat) (i : Nat), firstGt last l i < (i + l.length : Nat) ∧ -1 ≤ firstGt last l i
  | [], i => by simp only [firstGt, List.length_nil]; omega
  | a :: l, i => by
    simp only [firstGt, List.length_cons]
    split
    · omega
    · have := firstGt_lt last l (i + 1); omega

def pickAt (p : Int) (n : Nat) : Int := if p.tmod n < 0 then p.tmod n + n else p.tmod n
/-- The place that is chosen, and the picks that are left. -/
def chooseP (picks : List Int) (bound : Int) (ages : List Int) (last : Int) (who : List Nat) : Int × List Int :=
  if bound ≤ at0 (agesOf ages who) (best (agesOf ages who) who.length) then (best (agesOf ages who) who.length, picks)
  else match picks with
    | p :: ps => (pickAt p who.length, ps)
    | [] => (max 0 (firstGt last who 0), [])

section
variable {ov : CallF}

theorem gt_ok (hov : ∀ a h, ov 30 a h = none) {h : Heap} {B C : Nat} (hB : h.get B = some (.cells [.ptr (some ⟨C, 0⟩)] .own)) {pv av : AV} {bound last : Int} (hg : h.get C = some (.cells [pv, .int .i64 bound, av, .int .i64 last] .own)) (a : Int) :
    callT ov Try.prog 30 [.int .i64 a, .ptr (some ⟨B, 0⟩)] h = some (.ret (.bool (decide (last < a))) h) := by
  have main : ∃ u g, callT ov Try.prog 30 [.int .i64 a, .ptr (some ⟨B, 0⟩)] h = some (.ret u g) ∧ u = .bool (decide (last < a)) ∧ g = h := by
    refine callT_wp (fn := Try.f30) (hov _ _) (by kernel_rfl) rfl ?_
    have hl : (frameA Try.f30 [.int .i64 a, .ptr (some ⟨B, 0⟩)]).length = 10 := frameA_length (Nat.le_of_ble_eq_true rfl)
    have h0 : nth (frameA Try.f30 [.int .i64 a, .ptr (some ⟨B, 0⟩)]) 0 = .int .i64 a := frameA_nth (Nat.le_of_ble_eq_true rfl)
    have h1 : nth (frameA Try.f30 [.int .i64 a, .ptr (some ⟨B, 0⟩)]) 1 = .ptr (some ⟨B, 0⟩) := frameA_nth (Nat.le_of_ble_eq_true rfl)
    generalize frameA Try.f30 [.int .i64 a, .ptr (some ⟨B, 0⟩)] = e at hl h0 h1
    have hl1 : loadA Try.prog h 25 ⟨B, 0⟩ = some (.ptr (some ⟨C, 0⟩)) := load_cell a25 hB rfl
    have hl2 : loadA Try.prog h 3 ⟨C, 3⟩ = some (.int .i64 last) := load_cell a3 hg rfl
    apply WP.seq; apply WP.region; simp [hl]
    apply WP.seq; apply WP.region; simp [hl, h0, h1, hl1, fa62, hl2]
    apply WP.ret
    simp [hl, resultsA, resultA, single]
  obtain ⟨_, _, h1, rfl, rfl⟩ := main
  exact h1

theorem index_ok (hov : ∀ a h, ov 30 a h = none) (hov' : ∀ a h, ov 29 a h = none) {h : Heap} {B C : Nat} (hB : h.get B = some (.cells [.ptr (some ⟨C, 0⟩)] .own)) {pv av : AV} {bound last : Int} (hg : h.get C = some (.cells [pv, .int .i64 bound, av, .int .i64 last] .own))
    {v : AV} {who : List Nat} (hs : Sl h v (nats who)) (hn : who.length ≤ 1000000000) :
    callT ov Try.prog 29 [v, .func (.func 30) [] [.ptr (some ⟨B, 0⟩)]] h = some (.ret (.int .i64 (firstGt last who 0)) h) := by
  have main : ∃ u g, callT ov Try.prog 29 [v, .func (.func 30) [] [.ptr (some ⟨B, 0⟩)]] h = some (.ret u g) ∧ u = .int .i64 (firstGt last who 0) ∧ g = h := by
    refine callT_wp (fn := Try.f29) (hov' _ _) (by kernel_rfl) rfl ?_
    have hl : (frameA Try.f29 [v, .func (.func 30) [] [.ptr (some ⟨B, 0⟩)]]).length = 19 := frameA_length (Nat.le_of_ble_eq_true rfl)
    have h0 : nth (frameA Try.f29 [v, .func (.func 30) [] [.ptr (some ⟨B, 0⟩)]]) 0 = v := frameA_nth (Nat.le_of_ble_eq_true rfl)
    have h1 : nth (frameA Try.f29 [v, .func (.func 30) [] [.ptr (some ⟨B, 0⟩)]]) 1 = .func (.func 30) [] [.ptr (some ⟨B, 0⟩)] := frameA_nth (Nat.le_of_ble_eq_true rfl)
    generalize frameA Try.f29 [v, .func (.func 30) [] [.ptr (some ⟨B, 0⟩)]] = e at hl h0 h1
    have hlen := hs.len u22
    have hca : ∀ args h, callA (callT ov Try.prog) Try.prog h 30 args = callT ov Try.prog 30 args h := fun args h => callA_of (fn := Try.f30) (by kernel_rfl) rfl
    repeat apply WP.seq
    apply WP.region; simp [hl]
    repeat apply WP.seq
    apply WP.region; simp [hl, h0, hlen]
    repeat apply WP.seq
    apply WP.block
    refine WP.loop (fun n e g => g = h ∧ e.length = 19 ∧ nth e 0 = v ∧ nth e 1 = .func (.func 30) [] [.ptr (some ⟨B, 0⟩)] ∧ nth e 7 = .int .i64 who.length ∧ ∃ i, i ≤ who.length ∧ n = who.length - i ∧ nth e 8 = .int .i64 (i : Nat) ∧ firstGt last who 0 = firstGt last (who.drop i) i) ?_ who.length _ _ ?_
    · rintro n e g ⟨rfl, hl, h0, h1, h7, i, hi, rfl, h8, hf⟩
      repeat apply WP.seq
      apply WP.region; simp [hl, h7, h8]
      repeat apply WP.seq
      apply WP.cond (by simp [hl]; rfl)
      · intro hlt1
        have hlt1 : i < who.length := by simpa using hlt1
        apply WP.skip; simp
        repeat apply WP.seq
        apply WP.block
        repeat apply WP.seq
        obtain ⟨a, hwa⟩ : ∃ a, who[i]? = some a := ⟨who[i], by simp [hlt1]⟩
        obtain ⟨l1, hl1, hl1', _⟩ := hs.at u22 s3 a3 (nats_get hwa) (k := .i64)
        have hdrop : who.drop i = a :: who.drop (i + 1) := by
          rw [List.drop_eq_getElem_cons hlt1]
          congr 1
          have := List.getElem?_eq_getElem hlt1
          rw [this] at hwa
          exact Option.some.inj hwa
        rw [hdrop] at hf
        apply WP.region; simp [hl, h8]
        repeat apply WP.seq
        apply WP.region; simp [hl, h0, h1, h8, hl1, hl1', hca, gt_ok hov hB hg]
        repeat apply WP.seq
        apply WP.cond (by simp [hl]; rfl)
        · intro hc
          have hc : last < (a : Int) := by simpa using hc
          repeat apply WP.seq
          apply WP.region; simp [hl]
          apply WP.ret
          simp [hl, resultsA, resultA, single, hf, firstGt, hc]
        · intro hc
          have hc : ¬ last < (a : Int) := by simpa using hc
          apply WP.skip; simp
          apply WP.region; simp [hl, h8, int_wrap (show i < 9223372036854775807 by omega)]
          refine ⟨who.length - (i + 1), by omega, h0, h1, h7, i + 1, by omega, rfl, by simp, ?_⟩
          rw [hf]
          simp only [firstGt, if_neg hc]
      · intro hge
        have hge : ¬ i < who.length := by simpa using hge
        have hi' : i = who.length := by omega
        subst hi'
        apply WP.exit
        simp
        repeat apply WP.seq
        apply WP.region; simp [hl]
        apply WP.ret
        simp [hl, resultsA, resultA, single, hf, firstGt]
    · refine ⟨rfl, by simp [hl], by simp [h0], by simp [h1], by simp [hl], 0, by omega, by omega, by simp [hl], by simp⟩
  obtain ⟨_, _, h1, rfl, rfl⟩ := main
  exact h1

theorem ChAt.keep {ex : List Nat} {h0 h : Heap} (hk : Keep ex h0 h) {C : Nat} {pv av : AV} {picks ages : List Int} {bound last : Int} (hC : ChAt h0 C pv av picks bound ages last) (hc : C ∉ ex) (hp : ∀ i, idOf pv = some i → i ∉ ex) (ha : ∀ i, idOf av = some i → i ∉ ex) : ChAt h C pv av picks bound ages last :=
  ⟨hk.get _ _ hC.1 hc, hC.2.1.keep hk hp, hC.2.2.1.keep hk ha, hC.2.2.2⟩

theorem pickAt_range (p : Int) {n : Nat} (hn : 0 < n) : 0 ≤ pickAt p n ∧ pickAt p n < n := by
  have h1 := Int.tmod_lt_of_pos p (show (0 : Int) < n by omega)
  have h2 : -(n : Int) < p.tmod n := by
    have := Int.tmod_lt_of_pos (-p) (show (0 : Int) < n by omega)
    rw [Int.neg_tmod] at this
    omega
  unfold pickAt
  split <;> omega

theorem chooseP_range {picks ages : List Int} {bound last : Int} {who : List Nat} (hne : who ≠ []) : 0 ≤ (chooseP picks bound ages last who).1 ∧ (chooseP picks bound ages last who).1 < who.length := by
  have hpos := List.length_pos_iff.2 hne
  have hb := best_lt (ws := agesOf ages who) (by rw [← List.length_pos_iff]; simpa using hpos) who.length (by simp)
  simp only [agesOf_length] at hb
  unfold chooseP
  split
  · simp only []; omega
  · split
    · exact pickAt_range _ hpos
    · have := firstGt_lt last who 0
      simp only []; omega

set_option maxHeartbeats 4000000 in
theorem choose_ok (h27 : ∀ a h, ov 27 a h = none) (h28 : ∀ a h, ov 28 a h = none) (h29 : ∀ a h, ov 29 a h = none) (h30 : ∀ a h, ov 30 a h = none) {h : Heap} (hw : Wf h) {C : Nat} {picks ages : List Int} {bound last : Int} {pv av : AV} (hC : ChAt h C pv av picks bound ages last)
    {v : AV} {who : List Nat} (hs : Sl h v (nats who)) (hn : who.length ≤ 1000000000) (hne : who ≠ []) (hlt : ∀ a ∈ who, a < ages.length) :
    ∃ h' pv', callT ov Try.prog 27 [.ptr (some ⟨C, 0⟩), v] h = some (.ret (.int .i64 (chooseP picks bound ages last who).1) h') ∧ ChAt h' C pv' av (chooseP picks bound ages last who).2 bound ages last ∧ ((chooseP picks bound ages last who).2 ≠ [] → picks ≠ [] ∧ idOf pv' = idOf pv) ∧ Keep [C] h h' := by
  have main : ∃ u h', callT ov Try.prog 27 [.ptr (some ⟨C, 0⟩), v] h = some (.ret u h') ∧ u = .int .i64 (chooseP picks bound ages last who).1 ∧ (∃ pv', ChAt h' C pv' av (chooseP picks bound ages last who).2 bound ages last ∧ ((chooseP picks bound ages last who).2 ≠ [] → picks ≠ [] ∧ idOf pv' = idOf pv)) ∧ Keep [C] h h' := by
    refine callT_wp (fn := Try.f27) (h27 _ _) (by kernel_rfl) rfl ?_
    have hl : (frameA Try.f27 [.ptr (some ⟨C, 0⟩), v]).length = 60 := frameA_length (Nat.le_of_ble_eq_true rfl)
    have h0 : nth (frameA Try.f27 [.ptr (some ⟨C, 0⟩), v]) 0 = .ptr (some ⟨C, 0⟩) := frameA_nth (Nat.le_of_ble_eq_true rfl)
    have h1 : nth (frameA Try.f27 [.ptr (some ⟨C, 0⟩), v]) 1 = v := frameA_nth (Nat.le_of_ble_eq_true rfl)
    generalize frameA Try.f27 [.ptr (some ⟨C, 0⟩), v] = e at hl h0 h1
    have hca28 : ∀ args h, callA (callT ov Try.prog) Try.prog h 28 args = callT ov Try.prog 28 args h := fun args h => callA_of (fn := Try.f28) (by kernel_rfl) rfl
    have hca29 : ∀ args h, callA (callT ov Try.prog) Try.prog h 29 args = callT ov Try.prog 29 args h := fun args h => callA_of (fn := Try.f29) (by kernel_rfl) rfl
    -- the box
    have hk1 : Keep [C] h (h.alloc (.cells [.ptr (some ⟨C, 0⟩)] .own)) := (Keep.refl hw).alloc _
    have hk0 : Keep [] h (h.alloc (.cells [.ptr (some ⟨C, 0⟩)] .own)) := (Keep.refl hw).alloc _
    have hC1 := hC.keep hk0 (by simp) (by simp) (by simp)
    have hs1 := hs.keep hk0 (by simp)
    have hB : (h.alloc (.cells [.ptr (some ⟨C, 0⟩)] .own)).get h.next = some (.cells [.ptr (some ⟨C, 0⟩)] .own) := Heap.get_alloc _ _
    have hbox : boxA h (.ptr (some ⟨C, 0⟩)) = some (.ptr (some ⟨h.next, 0⟩), h.alloc (.cells [.ptr (some ⟨C, 0⟩)] .own)) := rfl
    have hBC : h.next ≠ C := by have := hw _ _ hC.1; omega
    generalize hb1 : h.alloc (.cells [.ptr (some ⟨C, 0⟩)] .own) = g at hk1 hk0 hC1 hs1 hB hbox
    generalize hbn : h.next = B at hB hbox hBC
    have hC1' : ∃ pv', ChAt g C pv' av picks bound ages last ∧ (picks ≠ [] → picks ≠ [] ∧ idOf pv' = idOf pv) := ⟨_, hC1, fun h => ⟨h, rfl⟩⟩
    have hlen := hs1.len u22
    have hold := oldest_ok h28 hC1 hs1 hn hlt
    obtain ⟨hg, hp, ha, hpc, hac⟩ := id hC1
    have hb := best_lt (ws := agesOf ages who) (by rw [← List.length_pos_iff]; simpa [List.length_pos_iff] using hne) who.length (by simp)
    simp only [agesOf_length] at hb
    have hlB : loadA Try.prog g 25 ⟨B, 0⟩ = some (.ptr (some ⟨C, 0⟩)) := load_cell a25 hB rfl
    have hlC0 : loadA Try.prog g 22 ⟨C, 0⟩ = some pv := load_cell a22 hg rfl
    have hlC1 : loadA Try.prog g 3 ⟨C, 1⟩ = some (.int .i64 bound) := load_cell a3 hg rfl
    have hlC2 : loadA Try.prog g 22 ⟨C, 2⟩ = some av := load_cell a22 hg rfl
    obtain ⟨b, hwb⟩ : ∃ b, who[best (agesOf ages who) who.length]? = some b := ⟨who[best (agesOf ages who) who.length], by simp [hb]⟩
    have hbl : b < ages.length := hlt b (List.mem_of_getElem? hwb)
    obtain ⟨l3, hl3, hl3', _⟩ := hs1.at u22 s3 a3 (nats_get hwb) (k := .i64)
    obtain ⟨l4, hl4, hl4', _⟩ := ha.at u22 s3 a3 (ints_get (at0_get hbl)) (k := .i64)
    repeat apply WP.seq
    apply WP.region; simp [hl, h0, hbox]
    repeat apply WP.seq
    apply WP.region; simp [hl, h1, hlB, hca28, hold]
    repeat apply WP.seq
    apply WP.draw (by kernel_rfl) (by kernel_rfl)
    simp [hl, h1, hlB, fa62, hlC2, hl3, hl3', hl4, hl4', hlC1]
    repeat apply WP.seq
    apply WP.cond (by simp [hl]; rfl)
    · intro hc
      have hc : bound ≤ at0 (agesOf ages who) (best (agesOf ages who) who.length) := by rw [agesOf_get hwb]; simpa using hc
      repeat apply WP.seq
      apply WP.region; simp [hl]
      apply WP.ret
      simp [hl, resultsA, resultA, single, chooseP, hc, hk1]; exact hC1'
    · intro hc
      have hc : ¬ bound ≤ at0 (agesOf ages who) (best (agesOf ages who) who.length) := by rw [agesOf_get hwb]; simpa using hc
      apply WP.skip; simp
      repeat apply WP.seq
      apply WP.region; simp [hl, hlB, fa62, hlC0, hp.len u22]
      repeat apply WP.seq
      apply WP.cond (by simp [hl]; rfl)
      · intro hc2
        cases picks with
        | nil => simp at hc2
        | cons p ps =>
          have hpos := List.length_pos_iff.2 hne
          obtain ⟨l5, hl5, hl5', _⟩ := hp.at u22 s3 a3 (ints_get (i := 0) (x := p) rfl) (k := .i64)
          obtain ⟨pv', hsl, hp', hid⟩ := Sl.tail (x := .int .i64 p) (xs := ints ps) hp u22 s3 (k := .i64)
          have hr := pickAt_range p hpos
          have hne0 : ((who.length : Nat) : Int) ≠ 0 := by omega
          repeat apply WP.seq
          apply WP.region; simp at hl5; simp [hl, h1, hlB, fa62, hlC0, hl5, hl5', hlen, bin_rem hne0]
          obtain ⟨l', c', rfl⟩ := hp'.slice
          have hst := store_cell (P := Try.prog) s22 (v := .slice l' (ints ps).length c') rfl rfl hg (by simp) (o := 0) (by simp)
          simp only [List.set_cons_zero] at hst
          have hk2 : Keep [C] h (g.set C (.cells [.slice l' (ints ps).length c', .int .i64 bound, av, .int .i64 last] .own)) := hk1.set _ (hk1.wf _ _ hg) (.inl (by simp))
          have hkg : Keep [C] g (g.set C (.cells [.slice l' (ints ps).length c', .int .i64 bound, av, .int .i64 last] .own)) := (Keep.refl hk1.wf).set _ (hk1.wf _ _ hg) (.inl (by simp))
          have hC2 : ∃ pv', ChAt (g.set C (.cells [.slice l' (ints ps).length c', .int .i64 bound, av, .int .i64 last] .own)) C pv' av ps bound ages last ∧ (ps ≠ [] → (p :: ps) ≠ [] ∧ idOf pv' = idOf pv) := by
            refine ⟨_, ⟨Heap.get_set _ _ _, hp'.keep hkg ?_, ha.keep hkg ?_, ?_, hac⟩, ?_⟩
            · intro i hi hm
              have := hid i hi
              simp only [List.mem_singleton] at hm
              exact hpc (by rw [this, hm])
            · intro i hi hm
              simp only [List.mem_singleton] at hm
              exact hac (by rw [hi, hm])
            · intro hi
              exact hpc (hid _ hi)
            · intro hne
              refine ⟨by simp, ?_⟩
              cases l' with
              | none => have := hp'.1; simp at this; exact absurd this hne
              | some l' => exact (hid _ rfl).symm
          have hcp : chooseP (p :: ps) bound ages last who = (pickAt p who.length, ps) := by simp only [chooseP, if_neg hc]
          rw [hcp]
          generalize g.set C (.cells [.slice l' (ints ps).length c', .int .i64 bound, av, .int .i64 last] .own) = g2 at hst hk2 hC2
          repeat apply WP.seq
          apply WP.draw (by kernel_rfl) (by kernel_rfl)
          simp at hst
          simp at hsl
          simp [hl, hlB, fa62, hlC0, hsl, storeR_ptr hst]
          repeat apply WP.seq
          apply WP.region; simp [hl]
          repeat apply WP.seq
          have hlen2 := hs.len u22
          apply WP.cond (by simp [hl]; rfl)
          · intro hq
            have hq : p.tmod who.length < 0 := by simpa using hq
            have hpa : pickAt p who.length = p.tmod who.length + who.length := by simp only [pickAt, if_pos hq]
            have hlenx : ∀ h, lenA Try.prog h 22 v = some (.int .i64 ((nats who).length : Nat)) := by
              intro h; obtain ⟨l, c, rfl⟩ := hs.slice; exact lenA_slice u22
            apply WP.region; simp [hl, h1, hlenx, wrap_small (show -9223372036854775808 ≤ p.tmod who.length + who.length by omega) (by omega)]
            repeat apply WP.seq
            apply WP.region; simp [hl]
            apply WP.ret
            simp [hl, resultsA, resultA, single, hpa, hk2]; simpa using hC2
          · intro hq
            have hq : ¬ p.tmod who.length < 0 := by simpa using hq
            have hpa : pickAt p who.length = p.tmod who.length := by simp only [pickAt, if_neg hq]
            apply WP.skip; simp
            repeat apply WP.seq
            apply WP.region; simp [hl]
            apply WP.ret
            simp [hl, resultsA, resultA, single, hpa, hk2]; simpa using hC2
      · intro hc2
        cases picks with
        | cons p ps => simp at hc2
        | nil =>
          have hcp : chooseP [] bound ages last who = (max 0 (firstGt last who 0), []) := by simp only [chooseP, if_neg hc]
          have hm : (if 0 < firstGt last who 0 then firstGt last who 0 else 0) = max 0 (firstGt last who 0) := by rw [Int.max_def]; split <;> split <;> omega
          have hix := index_ok h30 h29 hB hg hs1 hn
          rw [hcp]
          apply WP.skip; simp
          repeat apply WP.seq
          apply WP.region; simp [hl, h1, hca29, hix, hm]
          apply WP.ret
          simp [hl, resultsA, resultA, single, hk1]; simpa using hC1'
  obtain ⟨_, h', h1, rfl, ⟨pv', h2, h4⟩, h3⟩ := main
  exact ⟨h', pv', h1, h2, h4, h3⟩
end
end Go.Am

set_option linter.unusedSimpArgs false
namespace Go.Am
open Go.RowKit Go.Proofs

/-- The places of those that are ready. -/
def whoFrom : List Bool → Nat → List Nat
  | [], _ => []
  | b :: bs, i => if b then i :: whoFrom bs (i + 1) else whoFrom bs (i + 1)
theorem whoFrom_snoc : ∀ (l : List Bool) (b : Bool) (i : Nat), whoFrom (l ++ [b]) i = whoFrom l i ++ (if b then [i + l.length] else [])
  | [], b, i => by cases b <;> simp [whoFrom]
  | a :: l, b, i => by
    simp only [List.cons_append, whoFrom, whoFrom_snoc l b (i + 1), List.length_cons]
    have h : i + 1 + l.length = i + (l.length + 1) := by omega
    rw [h]
    cases a <;> simp
theorem whoFrom_mem : ∀ (l : List Bool) (i a : Nat), a ∈ whoFrom l i → i ≤ a ∧ a < i + l.length ∧ l[a - i]? = some true
  | [], i, a, h => by simp [whoFrom] at h
  | b :: l, i, a, h => by
    simp only [whoFrom] at h
    have tail : a ∈ whoFrom l (i + 1) → i ≤ a ∧ a < i + (b :: l).length ∧ (b :: l)[a - i]? = some true := by
      intro hm
      have := whoFrom_mem l (i + 1) a hm
      refine ⟨by omega, by simp only [List.length_cons]; omega, ?_⟩
      rw [show a - i = (a - (i + 1)) + 1 from by omega, List.getElem?_cons_succ]
      exact this.2.2
    cases b with
    | false => exact tail (by simpa using h)
    | true =>
      simp only [if_true, List.mem_cons] at h
      rcases h with rfl | h
      · simp
      · exact tail h
theorem whoFrom_length : ∀ (l : List Bool) (i : Nat), (whoFrom l i).length ≤ l.length
  | [], i => by simp [whoFrom]
  | b :: l, i => by
    have := whoFrom_length l (i + 1)
    cases b <;> simp [whoFrom] <;> omega

def agesFor (ages : List Int) (n : Nat) : List Int := ages.take n ++ List.replicate (n - ages.length) 0
theorem agesFor_length (ages : List Int) (n : Nat) : (agesFor ages n).length = n := by simp [agesFor]; omega

/-- An actor's age behind a call. -/
def aged (ready : List Bool) (chosen : Int) (a0 : List Int) (i : Nat) : Int := if ready.getD i false = true ∧ (i : Int) ≠ chosen then at0 a0 i + 1 else 0
def mix (ready : List Bool) (chosen : Int) (a0 : List Int) (k n : Nat) : List Int := (List.range n).map fun j => if j < k then aged ready chosen a0 j else at0 a0 j
def newAges (ready : List Bool) (chosen : Int) (a0 : List Int) : List Int := (List.range ready.length).map fun j => aged ready chosen a0 j
theorem mix_zero (ready : List Bool) (chosen : Int) (a0 : List Int) : mix ready chosen a0 0 a0.length = a0 := by
  apply List.ext_getElem?
  intro i
  by_cases hi : i < a0.length
  · simp [mix, hi, at0]
  · simp [mix, hi]
theorem mix_all (ready : List Bool) (chosen : Int) (a0 : List Int) : mix ready chosen a0 ready.length ready.length = newAges ready chosen a0 := by
  apply List.map_congr_left
  intro i hi
  simp only [List.mem_range] at hi
  simp [hi]
theorem mix_length (ready : List Bool) (chosen : Int) (a0 : List Int) (k n : Nat) : (mix ready chosen a0 k n).length = n := by simp [mix]
theorem mix_at (ready : List Bool) (chosen : Int) (a0 : List Int) {k n : Nat} (h : k < n) : (mix ready chosen a0 k n)[k]? = some (at0 a0 k) := by simp [mix, h]
theorem mix_set (ready : List Bool) (chosen : Int) (a0 : List Int) {k n : Nat} (h : k < n) : (mix ready chosen a0 k n).set k (aged ready chosen a0 k) = mix ready chosen a0 (k + 1) n := by
  apply List.ext_getElem?
  intro i
  rw [List.getElem?_set]
  by_cases hi : i < n
  · by_cases hk : k = i
    · subst hk; simp [mix, h]
    · have : (i < k) = (i < k + 1) := by apply propext; omega
      simp [mix, hi, hk, this]
  · have hk : k ≠ i := by omega
    simp [mix, hi, hk]
theorem ints_set (xs : List Int) (i : Nat) (x : Int) : (ints xs).set i (.int .i64 x) = ints (xs.set i x) := by simp [ints, List.map_set]

theorem build22_i {h : Heap} {k : IntKind} {n : Int} : buildSliceA Try.prog h 22 1 [(0, .int k n)] = some (.slice (some ⟨h.next, 0⟩) 1 (.exact 1), h.alloc (.cells [.int k n] .own)) := build22_1 rfl

structure NextR where
  chosen : Int
  picks : List Int
  ages : List Int
  last : Int
def nextP (picks : List Int) (bound : Int) (ages : List Int) (last : Int) (ready : List Bool) : NextR :=
  let who := whoFrom ready 0
  let a0 := agesFor ages ready.length
  if who = [] then ⟨-1, picks, newAges ready (-1) a0, last⟩
  else
    let c := chooseP picks bound a0 last who
    ⟨(who.getD c.1.toNat 0 : Nat), c.2, newAges ready (who.getD c.1.toNat 0 : Nat) a0, (who.getD c.1.toNat 0 : Nat)⟩

theorem nextP_ages (picks : List Int) (bound : Int) (ages : List Int) (last : Int) (ready : List Bool) : (nextP picks bound ages last ready).ages = newAges ready (nextP picks bound ages last ready).chosen (agesFor ages ready.length) := by
  unfold nextP
  simp only []
  split <;> rfl
theorem agesFor_ok {ages : List Int} {M : Int} (hM : 0 < M) (h : ∀ a ∈ ages, 0 ≤ a ∧ a < M) (n : Nat) : ∀ a ∈ agesFor ages n, 0 ≤ a ∧ a < M := by
  intro a ha
  simp only [agesFor, List.mem_append, List.mem_replicate] at ha
  rcases ha with ha | ⟨_, rfl⟩
  · exact h a (List.mem_of_mem_take ha)
  · omega
theorem at0_ok {xs : List Int} {M : Int} (hM : 0 < M) (h : ∀ a ∈ xs, 0 ≤ a ∧ a < M) (i : Nat) : 0 ≤ at0 xs i ∧ at0 xs i < M := by
  by_cases hi : i < xs.length
  · exact h _ (List.mem_of_getElem? (at0_get hi))
  · simp [at0, hi, hM]
theorem copy_ints (ages : List Int) (n : Nat) : (ints ages).take (List.replicate n (AV.int .i64 0)).length ++ (List.replicate n (AV.int .i64 0)).drop (ints ages).length = ints (agesFor ages n) := by
  simp [ints, agesFor, List.map_take]

/-- A chooser behind a call of Next: its picks' block is the one that it was, its ages' block is new. -/
def ChNext (h h' : Heap) (C : Nat) (pv : AV) (picks : List Int) (bound : Int) (N : NextR) : Prop :=
  ∃ pv' av', ChAt h' C pv' av' N.picks bound N.ages N.last ∧ (N.picks ≠ [] → picks ≠ [] ∧ idOf pv' = idOf pv) ∧ (∀ i, idOf av' = some i → h.next ≤ i)

section
variable {ov : CallF}

set_option maxHeartbeats 4000000 in
theorem next_ok' (o14 : ∀ a h, ov 14 a h = none) (o27 : ∀ a h, ov 27 a h = none) (o28 : ∀ a h, ov 28 a h = none) (o29 : ∀ a h, ov 29 a h = none) (o30 : ∀ a h, ov 30 a h = none) {h : Heap} (hw : Wf h) {C : Nat} {picks ages : List Int} {bound last : Int} {pv av : AV} (hCh : ChAt h C pv av picks bound ages last)
    {v : AV} {ready : List Bool} (hs : Sl h v (bools ready)) (hv : idOf v ≠ some C) (hn : ready.length ≤ 1000000000) (hages : ∀ a ∈ ages, 0 ≤ a ∧ a < 4611686018427387904) :
    ∃ h', callT ov Try.prog 14 [.ptr (some ⟨C, 0⟩), v] h = some (.ret (.tuple [.int .i64 (max (nextP picks bound ages last ready).chosen 0), .bool (decide (0 ≤ (nextP picks bound ages last ready).chosen))]) h') ∧
      ChNext h h' C pv picks bound (nextP picks bound ages last ready) ∧ Keep [C] h h' := by
  have main : ∃ u h', callT ov Try.prog 14 [.ptr (some ⟨C, 0⟩), v] h = some (.ret u h') ∧ u = .tuple [.int .i64 (max (nextP picks bound ages last ready).chosen 0), .bool (decide (0 ≤ (nextP picks bound ages last ready).chosen))] ∧
      ChNext h h' C pv picks bound (nextP picks bound ages last ready) ∧ Keep [C] h h' := by
    refine callT_wp (fn := Try.f14) (o14 _ _) (by kernel_rfl) rfl ?_
    have hl : (frameA Try.f14 [.ptr (some ⟨C, 0⟩), v]).length = 85 := frameA_length (Nat.le_of_ble_eq_true rfl)
    have h0 : nth (frameA Try.f14 [.ptr (some ⟨C, 0⟩), v]) 0 = .ptr (some ⟨C, 0⟩) := frameA_nth (Nat.le_of_ble_eq_true rfl)
    have h1 : nth (frameA Try.f14 [.ptr (some ⟨C, 0⟩), v]) 1 = v := frameA_nth (Nat.le_of_ble_eq_true rfl)
    generalize frameA Try.f14 [.ptr (some ⟨C, 0⟩), v] = e at hl h0 h1
    have hca27 : ∀ args h, callA (callT ov Try.prog) Try.prog h 27 args = callT ov Try.prog 27 args h := fun args h => callA_of (fn := Try.f27) (by kernel_rfl) rfl
    have hlen : ∀ h, lenA Try.prog h 31 v = some (.int .i64 (ready.length : Nat)) := by
      intro h; obtain ⟨l, c, rfl⟩ := hs.slice; simpa using lenA_slice (P := Try.prog) u31
    repeat apply WP.seq
    apply WP.region; simp [hl]
    repeat apply WP.seq
    apply WP.region; simp [hl]
    repeat apply WP.seq
    apply WP.region; simp [hl, h1, hlen]
    repeat apply WP.seq
    apply WP.block
    refine WP.loop (fun n e g => e.length = 85 ∧ nth e 0 = .ptr (some ⟨C, 0⟩) ∧ nth e 1 = v ∧ nth e 12 = v ∧ nth e 13 = .int .i64 ready.length ∧ Keep [] h g ∧ ∃ i, i ≤ ready.length ∧ n = ready.length - i ∧ nth e 14 = .int .i64 (i : Nat) ∧ Acc h.next g (nth e 6) (nats (whoFrom (ready.take i) 0))) ?_ ready.length _ _ ?_
    · rintro n e g ⟨hl, h0, h1, h12, h13, hk, i, hi, rfl, h14, hacc⟩
      repeat apply WP.seq
      apply WP.region; simp [hl, h13, h14]
      repeat apply WP.seq
      apply WP.cond (by simp [hl]; rfl)
      · intro hlt1
        have hlt1 : i < ready.length := by simpa using hlt1
        apply WP.skip; simp
        repeat apply WP.seq
        apply WP.block
        repeat apply WP.seq
        obtain ⟨b, hwb⟩ : ∃ b, ready[i]? = some b := ⟨ready[i], by simp [hlt1]⟩
        have hsg := hs.keep hk (by simp)
        obtain ⟨l1, hl1, hl1', _⟩ := hsg.at u31 s4 a4 (bools_get hwb) (k := .i64)
        have htake : ready.take (i + 1) = ready.take i ++ [b] := by
          rw [List.take_add_one, hwb]; rfl
        have hwt : whoFrom (ready.take (i + 1)) 0 = whoFrom (ready.take i) 0 ++ (if b then [i] else []) := by
          rw [htake, whoFrom_snoc]
          simp only [List.length_take, Nat.zero_add, Nat.min_eq_left hi]
        apply WP.region; simp [hl, h12, h14, hl1, hl1']
        repeat apply WP.seq
        apply WP.region; simp [hl]
        repeat apply WP.seq
        apply WP.cond (by simp [hl]; rfl)
        · intro hb
          subst hb
          simp only [if_true] at hwt
          have hg1 := hk.alloc (.cells [.int .i64 (i : Int)] .own)
          have hacc1 := hacc.keep ((Keep.refl (ex := []) hk.wf).alloc (.cells [.int .i64 (i : Int)] .own)) (by simp)
          have hy : Sl (g.alloc (.cells [.int .i64 (i : Int)] .own)) (.slice (some ⟨g.next, 0⟩) 1 (.exact 1)) [.int .i64 (i : Int)] :=
            ⟨⟨rfl, Nat.le_refl 1⟩, .inr ⟨_, _, Heap.get_alloc _ _, by simp, rfl⟩⟩
          have hwl := whoFrom_length (ready.take i) 0
          simp only [List.length_take] at hwl
          obtain ⟨v', g', hap, hacc', hk', hnx⟩ := Acc.push (P := Try.prog) hacc1 hg1 (Nat.le_refl _) (by rw [Heap.next_alloc]; have := hk.le; omega) u22 s3 (room3 (by simp; omega)) hy rfl
          apply WP.region; simp [hl, build22_i, hap]
          apply WP.region; simp [hl, h14, int_wrap (show i < 9223372036854775807 by omega)]
          refine ⟨ready.length - (i + 1), by omega, h0, h1, h12, h13, hk', i + 1, by omega, rfl, by simp, ?_⟩
          rw [hwt]
          simpa [nats, ints] using hacc'
        · intro hb
          subst hb
          apply WP.skip; simp
          apply WP.region; simp [hl, h14, int_wrap (show i < 9223372036854775807 by omega)]
          refine ⟨ready.length - (i + 1), by omega, h0, h1, h12, h13, hk, i + 1, by omega, rfl, by simp, ?_⟩
          rw [hwt]
          simpa [nats, ints] using hacc
      · intro hge
        have hge : ¬ i < ready.length := by simpa using hge
        have hi' : i = ready.length := by omega
        subst hi'
        apply WP.exit
        simp
        rw [List.take_length] at hacc
        have hwn := whoFrom_length ready 0
        have hsg := hs.keep hk (by simp)
        have hCg := hCh.keep hk (by simp) (by simp) (by simp)
        generalize hwv : nth e 6 = wv at hacc
        have hCn := hw _ _ hCh.1
        have hAn := hk.le
        have hsl := hacc.sl
        have hidw : ∀ i, idOf wv = some i → i ∉ [C] := by
          intro i hi hm
          have := hacc.id hi
          simp only [List.mem_singleton] at hm
          omega
        -- the new ages
        have hkg : Keep [] g (g.alloc (.cells (List.replicate ready.length (.int .i64 0)) .own)) := (Keep.refl hk.wf).alloc _
        have hg2 : (g.alloc (.cells (List.replicate ready.length (.int .i64 0)) .own)).get g.next = some (.cells (List.replicate ready.length (.int .i64 0)) .own) := Heap.get_alloc _ _
        have hmk : makeSliceA Try.prog g 22 (.int .i64 (ready.length : Nat)) (.int .i64 (ready.length : Nat)) = _ := make22 hn
        have hn2 : (g.alloc (.cells (List.replicate ready.length (.int .i64 0)) .own)).next = g.next + 1 := rfl
        generalize g.alloc (.cells (List.replicate ready.length (.int .i64 0)) .own) = g2 at hkg hg2 hn2 hmk
        have hown2 : Own g2 (.slice (some ⟨g.next, 0⟩) ready.length (.exact ready.length)) g.next (List.replicate ready.length (.int .i64 0)) :=
          ⟨.exact ready.length, ⟨by simp, by simp [capOk]⟩, hg2⟩
        have hc1 : cellsA (.slice (some ⟨g.next, 0⟩) ready.length (.exact ready.length)) = some [.slice (some ⟨g.next, 0⟩) ready.length (.exact ready.length)] := rfl
        have hc2 : cellOk (.slice (some ⟨g.next, 0⟩) ready.length (.exact ready.length)) = true := rfl
        have hAC : g.next ≠ C := by omega
        have hAg : g.next < g2.next := by omega
        have hAg' : g.next ≤ g.next := Nat.le_refl _
        generalize hA : g.next = A at hown2 hmk hc1 hc2 hAC hAg
        rw [hA] at hAg'
        generalize AV.slice (some ⟨A, 0⟩) ready.length (.exact ready.length) = ns at hown2 hmk hc1 hc2
        have hCg2 := hCg.keep hkg (by simp) (by simp) (by simp)
        have hld2 : loadA Try.prog g2 22 ⟨C, 2⟩ = some av := load_cell a22 hCg2.1 rfl
        obtain ⟨g3, hcopy, hown3, hor⟩ := copy_own (P := Try.prog) hown2 hCg2.2.2.1 ints_ok u22 s3
        rw [copy_ints] at hown3 hor
        have hk3 : Keep [] g g3 := by
          rcases hor with rfl | rfl
          · exact hkg
          · exact hkg.set _ hAg (.inr (by omega))
        clear hor
        have hCg3 := hCg.keep hk3 (by simp) (by simp) (by simp)
        have hst3 := store_cell (P := Try.prog) s22 hc1 hc2 hCg3.1 (by simp) (o := 2) (by simp)
        simp only [List.set_cons_succ, List.set_cons_zero] at hst3
        have hk4 : Keep [C] g (g3.set C (.cells [pv, .int .i64 bound, ns, .int .i64 last] .own)) := (hk3.more (by simp)).set _ (hk3.wf _ _ hCg3.1) (.inl (by simp))
        have hk34 : Keep [C] g3 (g3.set C (.cells [pv, .int .i64 bound, ns, .int .i64 last] .own)) := (Keep.refl hk3.wf).set _ (hk3.wf _ _ hCg3.1) (.inl (by simp))
        have hown4 := hown3.keep hk34 (by simp [hAC])
        have hpv4 : ∀ i, idOf pv = some i → i ∉ [C] := by
          intro i hi hm
          simp only [List.mem_singleton] at hm
          exact hCh.2.2.2.1 (by rw [hi, hm])
        have hidn : idOf ns ≠ some C := by rw [hown4.id]; simp [hAC]
        have hC4 : ChAt (g3.set C (.cells [pv, .int .i64 bound, ns, .int .i64 last] .own)) C pv ns picks bound (agesFor ages ready.length) last :=
          ⟨Heap.get_set _ _ _, hCg3.2.1.keep hk34 hpv4, hown4.sl, hCh.2.2.2.1, hidn⟩
        generalize g3.set C (.cells [pv, .int .i64 bound, ns, .int .i64 last] .own) = g4 at hst3 hk4 hown4 hC4
        have hsl4 := hsl.keep hk4 hidw
        have hlenw : lenA Try.prog g4 22 wv = some (.int .i64 (whoFrom ready 0).length) := by simpa using hsl4.len (P := Try.prog) u22
        repeat apply WP.seq
        apply WP.region; simp [hl, h1, hlen, hmk]
        repeat apply WP.seq
        apply WP.region; simp [hl, h0, fa62, hld2, hcopy]
        repeat apply WP.seq
        apply WP.region; simp [hl, h0, fa62, storeR_ptr hst3]
        repeat apply WP.seq
        apply WP.region; simp [hl]
        repeat apply WP.seq
        apply WP.region; simp [hl, hwv, hlenw]
        generalize hN : nextP picks bound ages last ready = N
        refine WP.mono (K := fun o e g' => o = .normal ∧ e.length = 85 ∧ nth e 0 = .ptr (some ⟨C, 0⟩) ∧ nth e 1 = v ∧ nth e 10 = .int .i64 N.chosen ∧ Keep [C] g g' ∧ Own g' ns A (ints (agesFor ages ready.length)) ∧ ∃ pv', ChAt g' C pv' ns N.picks bound (agesFor ages ready.length) N.last ∧ (N.picks ≠ [] → picks ≠ [] ∧ idOf pv' = idOf pv)) ?_ ?_
        · apply WP.cond (by simp [hl]; rfl)
          · intro hpos
            have hpos : 0 < (whoFrom ready 0).length := by simpa using hpos
            have hne : whoFrom ready 0 ≠ [] := List.length_pos_iff.1 hpos
            obtain ⟨g5, pv5, hcall, hC5, hpvq, hk5⟩ := choose_ok o27 o28 o29 o30 hk4.wf hC4 hsl4 (by omega) hne (by
              intro a ha
              rw [agesFor_length]
              have := whoFrom_mem _ _ _ ha
              omega)
            have hr := chooseP_range (picks := picks) (bound := bound) (ages := agesFor ages ready.length) (last := last) hne
            have hN' : N = ⟨((whoFrom ready 0).getD (chooseP picks bound (agesFor ages ready.length) last (whoFrom ready 0)).1.toNat 0 : Nat), (chooseP picks bound (agesFor ages ready.length) last (whoFrom ready 0)).2, newAges ready ((whoFrom ready 0).getD (chooseP picks bound (agesFor ages ready.length) last (whoFrom ready 0)).1.toNat 0 : Nat) (agesFor ages ready.length), ((whoFrom ready 0).getD (chooseP picks bound (agesFor ages ready.length) last (whoFrom ready 0)).1.toNat 0 : Nat)⟩ := by
              rw [← hN]; simp only [nextP, if_neg hne]
            generalize chooseP picks bound (agesFor ages ready.length) last (whoFrom ready 0) = cc at hcall hC5 hpvq hr hN'
            obtain ⟨pl, ps⟩ := cc
            simp only at hcall hC5 hpvq hr hN'
            obtain ⟨n, rfl⟩ := Int.eq_ofNat_of_zero_le hr.1
            have hnl : n < (whoFrom ready 0).length := by omega
            obtain ⟨x, hx⟩ : ∃ x, (whoFrom ready 0)[n]? = some x := ⟨(whoFrom ready 0)[n], by simp [hnl]⟩
            have hgd : (whoFrom ready 0).getD n 0 = x := by simp [List.getD_eq_getElem?_getD, hx]
            rw [Int.toNat_natCast, hgd] at hN'
            have hsl5 := hsl4.keep hk5 hidw
            obtain ⟨l1, hl1, hl1', _⟩ := hsl5.at u22 s3 a3 (nats_get hx) (k := .i64)
            have hown5 := hown4.keep hk5 (by simp [hAC])
            have hst := store_cell (P := Try.prog) s3 (v := .int .i64 (x : Int)) rfl rfl hC5.1 (by simp) (o := 3) (by simp)
            simp only [List.set_cons_succ, List.set_cons_zero] at hst
            have hk6 : Keep [C] g5 (g5.set C (.cells [pv5, .int .i64 bound, ns, .int .i64 (x : Int)] .own)) := (Keep.refl hk5.wf).set _ (hk5.wf _ _ hC5.1) (.inl (by simp))
            have hpv5 : ∀ i, idOf pv5 = some i → i ∉ [C] := by
              intro i hi hm
              simp only [List.mem_singleton] at hm
              exact hC5.2.2.2.1 (by rw [hi, hm])
            have hown6 := hown5.keep hk6 (by simp [hAC])
            have hC6 : ChAt (g5.set C (.cells [pv5, .int .i64 bound, ns, .int .i64 (x : Int)] .own)) C pv5 ns ps bound (agesFor ages ready.length) (x : Int) :=
              ⟨Heap.get_set _ _ _, hC5.2.1.keep hk6 hpv5, hown6.sl, hC5.2.2.2.1, hidn⟩
            subst hN'
            repeat apply WP.seq
            apply WP.region; simp [hl, h0, hwv, hca27, hcall, hl1, hl1']
            apply WP.region; simp [hl, h0, fa62, storeR_ptr hst]
            exact ⟨h1, (hk4.trans hk5).trans hk6, hown6, pv5, hC6, hpvq⟩
          · intro hz
            have hz : (whoFrom ready 0).length = 0 := by simpa using hz
            have hz' : whoFrom ready 0 = [] := List.length_eq_zero_iff.1 hz
            have hN' : N = ⟨-1, picks, newAges ready (-1) (agesFor ages ready.length), last⟩ := by
              rw [← hN]; simp [nextP, hz']
            subst hN'
            apply WP.skip
            refine ⟨rfl, by simp [hl], by simp [h0], by simp [h1], by simp [hl], hk4, hown4, pv, hC4, fun h => ⟨h, rfl⟩⟩
        · rintro _ e g5 ⟨rfl, hl, h0, h1, h10, hk5, hown5, pv5, hC5, hpq5⟩
          have hpv5 : N.picks ≠ [] → ∀ j, idOf pv5 = some j → j ≠ A := by
            intro hne' j hj
            obtain ⟨hq1, hq2⟩ := hpq5 hne'
            have := hCg.2.1.lt hk.wf (by simpa [ints] using hq1) (by rw [← hq2]; exact hj)
            omega
          have hida : ∀ i, idOf ns = some i → h.next ≤ i := by
            intro i hi
            rw [hown5.id] at hi
            cases hi
            have := hk.le
            omega
          have hNa : N.ages = newAges ready N.chosen (agesFor ages ready.length) := by rw [← hN]; exact nextP_ages _ _ _ _ _
          have hal := agesFor_length ages ready.length
          have haok := agesFor_ok (by decide) hages ready.length
          generalize agesFor ages ready.length = a0 at hown5 hC5 hNa hal haok
          simp
          repeat apply WP.seq
          apply WP.region; simp [hl, h1, hlen]
          repeat apply WP.seq
          apply WP.block
          refine WP.loop (fun n e g' => e.length = 85 ∧ nth e 0 = .ptr (some ⟨C, 0⟩) ∧ nth e 1 = v ∧ nth e 10 = .int .i64 N.chosen ∧ nth e 52 = .int .i64 ready.length ∧ Keep [C] g g' ∧ ∃ i, i ≤ ready.length ∧ n = ready.length - i ∧ nth e 53 = .int .i64 (i : Nat) ∧
            Own g' ns A (ints (mix ready N.chosen a0 i ready.length)) ∧ ChAt g' C pv5 ns N.picks bound (mix ready N.chosen a0 i ready.length) N.last) ?_ ready.length _ _ ?_
          · rintro n e g6 ⟨hl, h0, h1, h10, h52, hk6, i, hi, rfl, h53, hown6, hC6⟩
            repeat apply WP.seq
            apply WP.region; simp [hl, h52, h53]
            repeat apply WP.seq
            apply WP.cond (by simp [hl]; rfl)
            · intro hlt1
              have hlt1 : i < ready.length := by simpa using hlt1
              apply WP.skip; simp
              repeat apply WP.seq
              apply WP.block
              repeat apply WP.seq
              obtain ⟨b, hwb⟩ : ∃ b, ready[i]? = some b := ⟨ready[i], by simp [hlt1]⟩
              have hsg := (hs.keep hk (by simp)).keep hk6 (by intro i hi hm; simp only [List.mem_singleton] at hm; exact hv (by rw [hi, hm]))
              obtain ⟨l1, hl1, hl1', _⟩ := hsg.at u31 s4 a4 (bools_get hwb) (k := .i64)
              have hmx := mix_at ready N.chosen a0 hlt1
              have hml := mix_length ready N.chosen a0 i ready.length
              have hms := mix_set ready N.chosen a0 hlt1
              have hgd : ready.getD i false = b := by simp [List.getD_eq_getElem?_getD, hwb]
              have ha0 := at0_ok (by decide) haok i
              have haddr := hown6.addr (P := Try.prog) u22 s3 (i := i) (by simp [hml, hlt1]) (k := .i64)
              have hload := hown6.load (P := Try.prog) a3 (ints_get hmx)
              have hldC := load_cell (P := Try.prog) a22 hC6.1 (o := 2) (v := ns) rfl
              have fin : ∀ x : Int, x = aged ready N.chosen a0 i → ∃ g7, storeA Try.prog g6 3 ⟨A, i⟩ (.int .i64 x) = some g7 ∧ Keep [C] g g7 ∧ Own g7 ns A (ints (mix ready N.chosen a0 (i + 1) ready.length)) ∧ ChAt g7 C pv5 ns N.picks bound (mix ready N.chosen a0 (i + 1) ready.length) N.last := by
                rintro x rfl
                obtain ⟨hst, hown7⟩ := hown6.store (P := Try.prog) s3 (i := i) (by simp [hml, hlt1]) (x := .int .i64 (aged ready N.chosen a0 i)) rfl rfl
                rw [ints_set, hms] at hst hown7
                have hA6 : A < g6.next := hk6.wf _ _ hown6.choose_spec.2
                have hk7 : Keep [A] g6 (g6.set A (.cells (ints (mix ready N.chosen a0 (i + 1) ready.length)) .own)) := (Keep.refl hk6.wf).set _ hA6 (.inl (by simp))
                refine ⟨_, hst, hk6.set _ hA6 (.inr (by omega)), hown7, hk7.get _ _ hC6.1 (by simp; omega), hC6.2.1.keep' hk7 ?_, hown7.sl, hC6.2.2.2.1, hidn⟩
                intro hne' j hj hm
                simp only [List.mem_singleton] at hm
                exact hpv5 (by simpa [ints] using hne') j hj hm
              have hagd : aged ready N.chosen a0 i = if b = true ∧ (i : Int) ≠ N.chosen then at0 a0 i + 1 else 0 := by simp only [aged, hgd]
              apply WP.region; simp [hl, h53]
              repeat apply WP.seq
              apply WP.region
              cases b with
              | false =>
                obtain ⟨g7, hst, hk7, hown7, hC7⟩ := fin 0 (by rw [hagd]; simp)
                simp [hl, h1, h10, hl1, hl1', guardA]
                apply WP.cond (t := false) (by simp [hl]) (by simp)
                intro _
                apply WP.region; simp [hl, h0, fa62, hldC, haddr, storeR_ptr hst]
                apply WP.region; simp [hl, h53, int_wrap (show i < 9223372036854775807 by omega)]
                exact ⟨ready.length - (i + 1), by omega, h0, h1, h10, h52, hk7, i + 1, by omega, rfl, by simp, hown7, hC7⟩
              | true =>
                simp [hl, h1, h10, hl1, hl1', guardA]
                apply WP.cond (by simp [hl]; rfl)
                · intro hc
                  have hc : (i : Int) ≠ N.chosen := by simpa using hc
                  obtain ⟨g7, hst, hk7, hown7, hC7⟩ := fin (at0 a0 i + 1) (by rw [hagd]; simp [hc])
                  apply WP.region; simp [hl, h0, fa62, hldC, haddr, hload, wrap_small (show -9223372036854775808 ≤ at0 a0 i + 1 by omega) (by omega), storeR_ptr hst]
                  apply WP.region; simp [hl, h53, int_wrap (show i < 9223372036854775807 by omega)]
                  exact ⟨ready.length - (i + 1), by omega, h0, h1, h10, h52, hk7, i + 1, by omega, rfl, by simp, hown7, hC7⟩
                · intro hc
                  have hc : (i : Int) = N.chosen := by simpa using hc
                  obtain ⟨g7, hst, hk7, hown7, hC7⟩ := fin 0 (by rw [hagd]; simp [hc])
                  apply WP.region; simp [hl, h0, fa62, hldC, haddr, storeR_ptr hst]
                  apply WP.region; simp [hl, h53, int_wrap (show i < 9223372036854775807 by omega)]
                  exact ⟨ready.length - (i + 1), by omega, h0, h1, h10, h52, hk7, i + 1, by omega, rfl, by simp, hown7, hC7⟩
            · intro hge
              have hge : ¬ i < ready.length := by simpa using hge
              have hi' : i = ready.length := by omega
              subst hi'
              apply WP.exit
              simp
              rw [mix_all, ← hNa] at hC6
              have hmax : (if 0 > N.chosen then (0 : Int) else N.chosen) = max N.chosen 0 := by rw [Int.max_def]; split <;> split <;> omega
              repeat apply WP.seq
              apply WP.region; simp [hl, h10]
              apply WP.ret
              have hkf : Keep [C] h g6 := (hk.more (by simp)).trans hk6
              have hCf : ChNext h g6 C pv picks bound N := ⟨_, _, hC6, hpq5, hida⟩
              simp [hl, resultsA, resultA, single, hkf, hCf, hmax]
          · refine ⟨by simp [hl], by simp [h0], by simp [h1], by simp [h10], by simp [hl], hk5, 0, by omega, by omega, by simp [hl], ?_, ?_⟩
            · rw [← hal, mix_zero]; exact hown5
            · rw [← hal, mix_zero]; exact hC5
    · refine ⟨by simp [hl], by simp [h0], by simp [h1], by simp [hl], by simp [hl], Keep.refl hw, 0, by omega, by omega, by simp [hl], by simp [hl, whoFrom, nats, ints, Acc.nil]⟩
  obtain ⟨_, h', h1, rfl, h2⟩ := main
  exact ⟨h', h1, h2⟩

theorem next_ok (o14 : ∀ a h, ov 14 a h = none) (o27 : ∀ a h, ov 27 a h = none) (o28 : ∀ a h, ov 28 a h = none) (o29 : ∀ a h, ov 29 a h = none) (o30 : ∀ a h, ov 30 a h = none) {h : Heap} (hw : Wf h) {C : Nat} {picks ages : List Int} {bound last : Int} (hC : Ch h C picks bound ages last)
    {v : AV} {ready : List Bool} (hs : Sl h v (bools ready)) (hv : idOf v ≠ some C) (hn : ready.length ≤ 1000000000) (hages : ∀ a ∈ ages, 0 ≤ a ∧ a < 4611686018427387904) :
    ∃ h', callT ov Try.prog 14 [.ptr (some ⟨C, 0⟩), v] h = some (.ret (.tuple [.int .i64 (max (nextP picks bound ages last ready).chosen 0), .bool (decide (0 ≤ (nextP picks bound ages last ready).chosen))]) h') ∧
      Ch h' C (nextP picks bound ages last ready).picks bound (nextP picks bound ages last ready).ages (nextP picks bound ages last ready).last ∧ Keep [C] h h' := by
  obtain ⟨pv, av, hCh⟩ := hC
  obtain ⟨h', h1, ⟨pv', av', h2, _⟩, h3⟩ := next_ok' o14 o27 o28 o29 o30 hw hCh hs hv hn hages
  exact ⟨h', h1, ⟨pv', av', h2⟩, h3⟩
end
end Go.Am

namespace Go.Am

theorem whoFrom_all : ∀ (n i : Nat), whoFrom (List.replicate n true) i = List.range' i n
  | 0, i => by simp [whoFrom]
  | n + 1, i => by
    rw [List.replicate_succ, List.range'_succ]
    simp only [whoFrom, if_true, whoFrom_all n (i + 1)]

theorem best_eq {ws : List Int} {m : Nat} (h1 : ∀ j, j < m → at0 ws j < at0 ws m) (h2 : ∀ j, at0 ws j ≤ at0 ws m ∨ ws.length ≤ j) : ∀ k, m < k → k ≤ ws.length → best ws k = m
  | 0, h, _ => by omega
  | k + 1, h, hk => by
    simp only [best]
    by_cases hm : m = k
    · subst hm
      by_cases hz : m = 0
      · subst hz; simp [best]
      · have hb : best ws m < m := by
          clear h2 hk h
          induction m with
          | zero => exact absurd rfl hz
          | succ m ih =>
            simp only [best]
            split
            · omega
            · by_cases hm : m = 0
              · subst hm; simp [best]
              · have : ∀ k, best ws k ≤ k := by
                  intro k
                  induction k with
                  | zero => simp [best]
                  | succ k ih => simp only [best]; split <;> omega
                have := this m
                omega
        rw [if_pos (h1 _ hb)]
    · rw [best_eq h1 h2 k (by omega) (by omega)]
      have := h2 k
      rw [if_neg (by omega)]

def turnAge (n q m j : Nat) : Int := if j < m then (m : Int) - 1 - j else if q = 0 then m else (n : Int) - 1 - (j - m)
def turnAges (n q m : Nat) : List Int := (List.range n).map (turnAge n q m)
theorem turnAges_length (n q m : Nat) : (turnAges n q m).length = n := by simp [turnAges]
theorem turnAges_at {n q m j : Nat} (h : j < n) : at0 (turnAges n q m) j = turnAge n q m j := by simp [turnAges, at0, h]
theorem turnAges_zero (n : Nat) : agesFor [] n = turnAges n 0 0 := by
  apply List.ext_getElem?
  intro i
  by_cases hi : i < n
  · simp [agesFor, turnAges, turnAge, hi]
  · simp [agesFor, turnAges, hi]
theorem agesFor_self {ages : List Int} {n : Nat} (h : ages.length = n) : agesFor ages n = ages := by
  subst h; simp [agesFor]
def turnLast (n q m : Nat) : Int := if m = 0 then (if q = 0 then -1 else (n : Int) - 1) else (m : Int) - 1

theorem firstGt_range (last : Int) : ∀ (n i : Nat), firstGt last (List.range' i n) i = if last < i then (if n = 0 then -1 else (i : Int)) else if last < i + n - 1 then last + 1 else -1
  | 0, i => by simp [firstGt]; omega
  | n + 1, i => by
    rw [List.range'_succ]
    simp only [firstGt]
    by_cases h : last < (i : Int)
    · simp [h]
    · rw [if_neg h, if_neg h, firstGt_range last n (i + 1)]
      by_cases h2 : last < ((i + 1 : Nat) : Int)
      · have : last = i := by omega
        subst this
        rw [if_pos h2]
        by_cases hn : n = 0
        · subst hn; simp
        · rw [if_neg hn]
          rw [if_pos (by omega)]
          omega
      · rw [if_neg h2]
        split <;> split <;> omega

theorem agesOf_range {ages : List Int} {n : Nat} (h : ages.length = n) : agesOf ages (List.range' 0 n) = ages := by
  apply List.ext_getElem?
  intro i
  by_cases hi : i < n
  · simp [agesOf, at0, hi, h]
  · simp [agesOf, hi, h]

theorem turn_next {n q m : Nat} (hm : m < n) {bound : Int} {ages : List Int} (ha : agesFor ages n = turnAges n q m) :
    ∃ q' m', m' < n ∧ (n * q' + m' = n * q + m + 1) ∧ nextP [] bound ages (turnLast n q m) (List.replicate n true) = ⟨m, [], turnAges n q' m', turnLast n q' m'⟩ := by
  have hwho : whoFrom (List.replicate n true) 0 = List.range' 0 n := whoFrom_all n 0
  have hne : List.range' 0 n ≠ [] := by simp; omega
  have hbest : best (turnAges n q m) n = m := by
    refine best_eq (fun j hj => ?_) (fun j => ?_) n hm (by rw [turnAges_length]; exact Nat.le_refl _)
    · rw [turnAges_at hm, turnAges_at (by omega)]
      simp only [turnAge]
      repeat' split
      all_goals omega
    · by_cases hj : j < n
      · left
        rw [turnAges_at hm, turnAges_at hj]
        simp only [turnAge]
        repeat' split
        all_goals omega
      · right; rw [turnAges_length]; omega
  have hch : chooseP [] bound (turnAges n q m) (turnLast n q m) (List.range' 0 n) = ((m : Int), []) := by
    simp only [chooseP, agesOf_range (turnAges_length n q m), List.length_range', hbest]
    split
    · rfl
    · rename_i hc
      rw [turnAges_at hm] at hc
      congr 1
      rw [firstGt_range]
      simp only [turnLast]
      have hq : m = 0 → q ≠ 0 → ¬ ((n : Int) - 1 < (0 : Nat) + (n : Nat) - 1) := by omega
      repeat' split
      all_goals omega
  have hlen : (List.replicate n true).length = n := by simp
  have hget : (List.range' 0 n).getD m 0 = m := by simp [List.getD_eq_getElem?_getD, hm]
  have hnext : nextP [] bound ages (turnLast n q m) (List.replicate n true) = ⟨m, [], newAges (List.replicate n true) m (turnAges n q m), m⟩ := by
    simp only [nextP, hwho, if_neg hne, hlen, ha, hch, Int.toNat_natCast, hget]
  rw [hnext]
  by_cases hw : m + 1 < n
  · refine ⟨q, m + 1, hw, by omega, ?_⟩
    congr 1
    · apply List.ext_getElem?
      intro j
      by_cases hj : j < n
      · simp only [newAges, hlen, turnAges, List.getElem?_map, List.getElem?_range hj, Option.map_some, Option.some.injEq, aged]
        rw [← turnAges, turnAges_at hj]
        simp only [turnAge, List.getD_eq_getElem?_getD, List.getElem?_replicate, hj, if_true, Option.getD_some, true_and]
        repeat' split
        all_goals omega
      · simp [newAges, turnAges, hj]
    · simp only [turnLast]; rw [if_neg (by omega)]; omega
  · refine ⟨q + 1, 0, by omega, by rw [Nat.mul_succ]; omega, ?_⟩
    congr 1
    · apply List.ext_getElem?
      intro j
      by_cases hj : j < n
      · simp only [newAges, hlen, turnAges, List.getElem?_map, List.getElem?_range hj, Option.map_some, Option.some.injEq, aged]
        rw [← turnAges, turnAges_at hj]
        simp only [turnAge, List.getD_eq_getElem?_getD, List.getElem?_replicate, hj, if_true, Option.getD_some, true_and]
        repeat' split
        all_goals omega
      · simp [newAges, turnAges, hj]
    · simp [turnLast]; omega
theorem turnAges_ok {n q m : Nat} (hm : m < n) (hn : n ≤ 40) : ∀ a ∈ turnAges n q m, 0 ≤ a ∧ a < 4611686018427387904 := by
  intro a ha
  simp only [turnAges, List.mem_map, List.mem_range] at ha
  obtain ⟨j, hj, rfl⟩ := ha
  simp only [turnAge]
  repeat' split
  all_goals omega
end Go.Am

set_option linter.unusedSimpArgs false
namespace Go.Am
open Go.RowKit Go.Proofs

theorem u27 : Try.prog.underlying 27 = some (.slice 65) := by kernel_rfl
theorem s65 : sizeA Try.prog 65 = some 2 := by kernel_rfl
theorem a65 : aggA Try.prog 65 = some true := by kernel_rfl
theorem s29 : sizeA Try.prog 29 = some 3 := by kernel_rfl
theorem a29 : aggA Try.prog 29 = some true := by kernel_rfl
theorem a27 : aggA Try.prog 27 = some false := by kernel_rfl
theorem s27 : sizeA Try.prog 27 = some 1 := by kernel_rfl
theorem i65 : Try.prog.info? 65 = some Try.t65 := by kernel_rfl
theorem fa29 {l : Loc} : fieldAddrA Try.prog 29 (.ptr (some l)) 0 = some (.ptr (some ⟨l.id, l.off + 0⟩)) ∧ fieldAddrA Try.prog 29 (.ptr (some l)) 1 = some (.ptr (some ⟨l.id, l.off + 1⟩)) ∧
    fieldAddrA Try.prog 29 (.ptr (some l)) 2 = some (.ptr (some ⟨l.id, l.off + 2⟩)) := by
  refine ⟨?_, ?_, ?_⟩ <;> kernel_rfl
theorem fa65 {l : Loc} : fieldAddrA Try.prog 65 (.ptr (some l)) 0 = some (.ptr (some ⟨l.id, l.off + 0⟩)) ∧ fieldAddrA Try.prog 65 (.ptr (some l)) 1 = some (.ptr (some ⟨l.id, l.off + 1⟩)) := by
  refine ⟨?_, ?_⟩ <;> kernel_rfl
theorem alloc29 {h : Heap} : allocA Try.prog h 29 = some (.ptr (some ⟨h.next, 0⟩), h.alloc (.cells [.slice none 0 (.exact 0), .int .i64 0, .slice none 0 (.exact 0)] .own)) := by kernel_rfl
theorem alloc65 {h : Heap} : allocA Try.prog h 65 = some (.ptr (some ⟨h.next, 0⟩), h.alloc (.cells [.slice none 0 (.exact 0), .int .i64 0] .own)) := by kernel_rfl
theorem build29 {l : Option Loc} {n : Nat} {c : Cap} {k : IntKind} {b : Int} : buildA Try.prog 29 [(0, .slice l n c), (1, .int k b)] = some (.agg [.slice l n c, .int k b, .slice none 0 (.exact 0)]) := by kernel_rfl
theorem build65 {l : Option Loc} {n : Nat} {c : Cap} {k : IntKind} {b : Int} : buildA Try.prog 65 [(0, .slice l n c), (1, .int k b)] = some (.agg [.slice l n c, .int k b]) := by kernel_rfl

/-- A whole block is written anew. -/
theorem store_whole {P : Program} {h : Heap} {t : TypeId} {n : Nat} (hs : sizeA P t = some n) {i : Nat} {cs ds : List AV} (hg : h.get i = some (.cells cs .own)) (hn : cs.length = n) (hd : ds.length = n) (hok : cellsOk ds = true) : storeA P h t ⟨i, 0⟩ (.agg ds) = some (h.set i (.cells ds .own)) := by
  have hb1 : Nat.beq ds.length n = true := by rw [hd]; simp
  have hb2 : Nat.ble (0 + ds.length) cs.length = true := by rw [ble_iff]; omega
  have hov : over cs 0 ds = ds := by simp [over, hd, ← hn]
  simp only [storeA, hs, cellsA, hb1, cond_true, writeA, hg, hok, hb2, Bool.and_self, hov]
theorem load_whole {P : Program} {h : Heap} {t : TypeId} {n : Nat} (ha : aggA P t = some true) (hs : sizeA P t = some n) {i : Nat} {cs : List AV} {k : Kind} (hg : h.get i = some (.cells cs k)) (hn : cs.length = n) : loadA P h t ⟨i, 0⟩ = some (.agg cs) := by
  rw [load_agg ha hs hg (by omega)]
  simp [← hn]

/-- The reference's calls: each with the slice that holds its list. -/
def rowsOf (cs : List (AV × List Bool × Int)) : List (List AV) := cs.map fun x => [x.1, .int .i64 x.2.2]
theorem rowsOf_length (cs : List (AV × List Bool × Int)) : (rowsOf cs).length = cs.length := by simp [rowsOf]
def CallsAt (h : Heap) (cv : AV) (cs : List (AV × List Bool × Int)) : Prop := Slr h 2 cv (rowsOf cs) ∧ ∀ x ∈ cs, Sl h x.1 (bools x.2.1)

/-- An actor's age, from the last call on. -/
def ageR : List (List Bool × Int) → Nat → Nat
  | [], _ => 0
  | x :: xs, a => if x.1.getD a false = false ∨ x.2 = (a : Int) then 0 else ageR xs a + 1
def hist (cs : List (AV × List Bool × Int)) : List (List Bool × Int) := (cs.map (·.2)).reverse
theorem ageR_le : ∀ (xs : List (List Bool × Int)) (a : Nat), ageR xs a ≤ xs.length
  | [], _ => by simp [ageR]
  | x :: xs, a => by
    have := ageR_le xs a
    simp only [ageR, List.length_cons]
    split <;> omega

section
variable {ov : CallF}

theorem refNew_ok (o12 : ∀ a h, ov 12 a h = none) {h : Heap} (hw : Wf h) {l : Option Loc} {n : Nat} {c : Cap} (b : Int) :
    ∃ h', callT ov Try.prog 12 [.slice l n c, .int .i64 b] h = some (.ret (.agg [.slice l n c, .int .i64 (max b 1), .slice none 0 (.exact 0)]) h') ∧ Keep [] h h' := by
  have main : ∃ u h', callT ov Try.prog 12 [.slice l n c, .int .i64 b] h = some (.ret u h') ∧ u = .agg [.slice l n c, .int .i64 (max b 1), .slice none 0 (.exact 0)] ∧ Keep [] h h' := by
    refine callT_wp (fn := Try.f12) (o12 _ _) (by kernel_rfl) rfl ?_
    have hl : (frameA Try.f12 [.slice l n c, .int .i64 b]).length = 10 := frameA_length (Nat.le_of_ble_eq_true rfl)
    have h0 : nth (frameA Try.f12 [.slice l n c, .int .i64 b]) 0 = .slice l n c := frameA_nth (Nat.le_of_ble_eq_true rfl)
    have h1 : nth (frameA Try.f12 [.slice l n c, .int .i64 b]) 1 = .int .i64 b := frameA_nth (Nat.le_of_ble_eq_true rfl)
    generalize frameA Try.f12 [.slice l n c, .int .i64 b] = e at hl h0 h1
    have hk := (Keep.refl (ex := []) hw).alloc (.cells [.slice none 0 (.exact 0), .int .i64 0, .slice none 0 (.exact 0)] .own)
    have hg : (h.alloc (.cells [.slice none 0 (.exact 0), .int .i64 0, .slice none 0 (.exact 0)] .own)).get h.next = _ := Heap.get_alloc _ _
    have hal : allocA Try.prog h 29 = _ := alloc29 (h := h)
    generalize h.alloc (.cells [.slice none 0 (.exact 0), .int .i64 0, .slice none 0 (.exact 0)] .own) = g at hk hg hal
    have hst := store_whole (P := Try.prog) s29 hg rfl (ds := [.slice l n c, .int .i64 (max b 1), .slice none 0 (.exact 0)]) rfl rfl
    have hk2 := hk.set (.cells [.slice l n c, .int .i64 (max b 1), .slice none 0 (.exact 0)] .own) (hk.wf _ _ hg) (.inr (Nat.le_refl h.next))
    have hld := load_whole (P := Try.prog) a29 s29 (Heap.get_set g h.next (.cells [.slice l n c, .int .i64 (max b 1), .slice none 0 (.exact 0)] .own)) rfl
    generalize g.set h.next (.cells [.slice l n c, .int .i64 (max b 1), .slice none 0 (.exact 0)] .own) = g2 at hst hk2 hld
    repeat apply WP.seq
    apply WP.region; simp [hl, hal]
    repeat apply WP.seq
    apply WP.region; simp [hl, h1]
    repeat apply WP.seq
    refine WP.mono (K := fun o e g' => o = .normal ∧ g = g' ∧ e.length = 10 ∧ nth e 0 = .slice l n c ∧ nth e 1 = .int .i64 (max b 1) ∧ nth e 4 = .ptr (some ⟨h.next, 0⟩)) ?_ ?_
    · apply WP.cond (by simp [hl]; rfl)
      · intro hc
        have hc : b < 1 := by simpa using hc
        have hm : max b 1 = 1 := by omega
        apply WP.region; simp [hl, h0, hm]
      · intro hc
        have hc : ¬ b < 1 := by simpa using hc
        have hm : max b 1 = b := by omega
        apply WP.skip; simp [hl, h0, h1, hm]
    rintro _ e _ ⟨rfl, rfl, hl, h0, h1, h4⟩
    simp
    repeat apply WP.seq
    apply WP.region; simp [hl, h0, h1, h4, build29, storeR_ptr hst]
    apply WP.ret
    simp [hl, h4, resultsA, resultA, single, hld, hk2]
  obtain ⟨_, h', h1, rfl, h2⟩ := main
  exact ⟨h', h1, h2⟩
end
end Go.Am

set_option linter.unusedSimpArgs false
namespace Go.Am
open Go.RowKit Go.Proofs

theorem hist_take {cs : List (AV × List Bool × Int)} {k : Nat} {x : AV × List Bool × Int} (h : cs[k]? = some x) : hist (cs.take (k + 1)) = x.2 :: hist (cs.take k) := by
  rw [List.take_add_one, h]
  simp [hist]
theorem hist_length (cs : List (AV × List Bool × Int)) : (hist cs).length = cs.length := by simp [hist]

section
variable {ov : CallF}

set_option maxHeartbeats 4000000 in
theorem age_ok (o26 : ∀ a h, ov 26 a h = none) {h : Heap} (hw : Wf h) {pv : AV} {b : Int} {cv : AV} {cs : List (AV × List Bool × Int)} (hc : CallsAt h cv cs) (hn : cs.length ≤ 1000000000) (a : Nat) :
    ∃ h', callT ov Try.prog 26 [.agg [pv, .int .i64 b, cv], .int .i64 a] h = some (.ret (.int .i64 (ageR (hist cs) a : Nat)) h') ∧ Keep [] h h' := by
  have main : ∃ u h', callT ov Try.prog 26 [.agg [pv, .int .i64 b, cv], .int .i64 a] h = some (.ret u h') ∧ u = .int .i64 (ageR (hist cs) a : Nat) ∧ Keep [] h h' := by
    refine callT_wp (fn := Try.f26) (o26 _ _) (by kernel_rfl) rfl ?_
    have hl : (frameA Try.f26 [.agg [pv, .int .i64 b, cv], .int .i64 a]).length = 44 := frameA_length (Nat.le_of_ble_eq_true rfl)
    have h0 : nth (frameA Try.f26 [.agg [pv, .int .i64 b, cv], .int .i64 a]) 0 = .agg [pv, .int .i64 b, cv] := frameA_nth (Nat.le_of_ble_eq_true rfl)
    have h1 : nth (frameA Try.f26 [.agg [pv, .int .i64 b, cv], .int .i64 a]) 1 = .int .i64 a := frameA_nth (Nat.le_of_ble_eq_true rfl)
    generalize frameA Try.f26 [.agg [pv, .int .i64 b, cv], .int .i64 a] = e at hl h0 h1
    have hrl := rowsOf_length cs
    have hk := (Keep.refl (ex := []) hw).alloc (.cells [pv, .int .i64 b, cv] .own)
    have hg : (h.alloc (.cells [pv, .int .i64 b, cv] .own)).get h.next = _ := Heap.get_alloc _ _
    have hbox : boxA h (.agg [pv, .int .i64 b, cv]) = some (.ptr (some ⟨h.next, 0⟩), h.alloc (.cells [pv, .int .i64 b, cv] .own)) := rfl
    generalize h.alloc (.cells [pv, .int .i64 b, cv] .own) = g at hk hg hbox
    generalize h.next = B at hg hbox
    have hlenc : ∀ h', lenA Try.prog h' 27 cv = some (.int .i64 (cs.length : Nat)) := by
      intro h'; rw [← hrl]; exact hc.1.len (P := Try.prog) h' u27
    have hld := load_cell (P := Try.prog) a27 hg (o := 2) (v := cv) rfl
    have hw1 : IntKind.wrap .i64 ((cs.length : Int) - 1) = (cs.length : Int) - 1 := wrap_small (by omega) (by omega)
    repeat apply WP.seq
    apply WP.region; simp [hl, h0, hbox]
    repeat apply WP.seq
    apply WP.region; simp [hl]
    repeat apply WP.seq
    apply WP.region; simp [hl, fa29, hld, hlenc, hw1]
    repeat apply WP.seq
    apply WP.block
    refine WP.loop (fun m e g' => e.length = 44 ∧ nth e 1 = .int .i64 a ∧ nth e 2 = .ptr (some ⟨B, 0⟩) ∧ Keep [] g g' ∧ ∃ k, k ≤ cs.length ∧ m = k ∧ nth e 6 = .int .i64 ((k : Int) - 1) ∧ nth e 5 = .int .i64 ((cs.length - k : Nat) : Int) ∧ ageR (hist cs) a = cs.length - k + ageR (hist (cs.take k)) a) ?_ cs.length _ _ ?_
    · rintro m e g' ⟨hl, h1, h2, hk', k, hkl, rfl, h6, h5, hage⟩
      repeat apply WP.seq
      apply WP.region; simp [hl, h6]
      repeat apply WP.seq
      apply WP.cond (by simp [hl]; rfl)
      · intro hpos
        have hpos : 1 ≤ m := by
          have : (0 : Int) ≤ (m : Int) - 1 := by simpa using hpos
          omega
        obtain ⟨k, rfl⟩ : ∃ k, m = k + 1 := ⟨m - 1, by omega⟩
        have hki : ((k + 1 : Nat) : Int) - 1 = (k : Int) := by omega
        rw [hki] at h6
        obtain ⟨⟨rv, r, c⟩, hx⟩ : ∃ x, cs[k]? = some x := ⟨cs[k], by simp [show k < cs.length by omega]⟩
        rw [hist_take hx] at hage
        simp only [ageR] at hage
        have hrow : (rowsOf cs)[k]? = some [rv, .int .i64 c] := by simp [rowsOf, hx]
        have hcg : CallsAt g' cv cs := ⟨hc.1.keep' (hk.trans hk') (by simp), fun x hx => (hc.2 x hx).keep (hk.trans hk') (by simp)⟩
        obtain ⟨l1, hl1, hl1', _⟩ := hcg.1.at (P := Try.prog) u27 s65 a65 hrow (k := .i64)
        have hld' := load_cell (P := Try.prog) a27 (hk'.get _ _ hg (by simp)) (o := 2) (v := cv) rfl
        have hsr : Sl g' rv (bools r) := hcg.2 _ (List.mem_of_getElem? hx)
        have hrv : cellOk rv = true := by obtain ⟨l, c, rfl⟩ := hsr.slice; rfl
        have hk2 := hk'.alloc (.cells [.slice none 0 (.exact 0), .int .i64 0] .own)
        have hg2 : (g'.alloc (.cells [.slice none 0 (.exact 0), .int .i64 0] .own)).get g'.next = _ := Heap.get_alloc _ _
        have hal : allocA Try.prog g' 65 = _ := alloc65 (h := g')
        generalize g'.alloc (.cells [.slice none 0 (.exact 0), .int .i64 0] .own) = g2 at hk2 hg2 hal
        have hst := store_whole (P := Try.prog) s65 hg2 rfl (ds := [rv, .int .i64 c]) rfl (by simp only [cellsOk, hrv, Bool.true_and]; rfl)
        have hk3 := hk2.set (.cells [rv, .int .i64 c] .own) (hk2.wf _ _ hg2) (.inr hk'.le)
        have hg3 := Heap.get_set g2 g'.next (.cells [rv, .int .i64 c] .own)
        generalize g2.set g'.next (.cells [rv, .int .i64 c] .own) = g3 at hst hk3 hg3
        generalize g'.next = D at hg2 hal hst hg3
        have hld0 := load_cell (P := Try.prog) a31 hg3 (o := 0) (v := rv) rfl
        have hld1 := load_cell (P := Try.prog) a3 hg3 (o := 1) (v := .int .i64 c) rfl
        have hsr3 : Sl g3 rv (bools r) := (hc.2 _ (List.mem_of_getElem? hx)).keep (hk.trans hk3) (by simp)
        have hlr : lenA Try.prog g3 31 rv = some (.int .i64 (r.length : Nat)) := by simpa using hsr3.len (P := Try.prog) u31
        apply WP.skip; simp
        repeat apply WP.seq
        apply WP.block
        repeat apply WP.seq
        apply WP.region; simp [hl, h2, h6, fa29, hld', hl1, hl1', hal, storeR_ptr hst]
        repeat apply WP.seq
        apply WP.region
        by_cases hz : r.getD a false = false ∨ c = (a : Int)
        · rw [if_pos hz] at hage
          by_cases hlr' : r.length ≤ a
          · simp [hl, h1, fa65, hld0, hlr, guardA, hlr']
            repeat apply WP.seq
            apply WP.cond (t := true) (by simp [hl]) ?_ (by simp)
            intro _
            repeat apply WP.seq
            apply WP.region; simp [hl, h5]
            apply WP.ret
            simp [hl, resultsA, resultA, single, hage, hk.trans hk3]
          · obtain ⟨bb, hrb⟩ : ∃ bb, r[a]? = some bb := ⟨r[a], by simp [show a < r.length by omega]⟩
            have hgd : r.getD a false = bb := by simp [List.getD_eq_getElem?_getD, hrb]
            obtain ⟨l2, hl2, hl2', _⟩ := hsr3.at (P := Try.prog) u31 s4 a4 (bools_get hrb) (k := .i64)
            cases bb with
            | false =>
              simp [hl, h1, fa65, hld0, hlr, guardA, hlr', hl2, hl2']
              repeat apply WP.seq
              apply WP.cond (t := true) (by simp [hl]) ?_ (by simp)
              intro _
              repeat apply WP.seq
              apply WP.region; simp [hl, h5]
              apply WP.ret
              simp [hl, resultsA, resultA, single, hage, hk.trans hk3]
            | true =>
              have hca : c = (a : Int) := by
                rcases hz with hz | hz
                · rw [hgd] at hz; cases hz
                · exact hz
              simp [hl, h1, fa65, hld0, hld1, hlr, guardA, hlr', hl2, hl2', hca]
              repeat apply WP.seq
              apply WP.cond (t := true) (by simp [hl]) ?_ (by simp)
              intro _
              repeat apply WP.seq
              apply WP.region; simp [hl, h5]
              apply WP.ret
              simp [hl, resultsA, resultA, single, hage, hk.trans hk3]
        · rw [if_neg hz] at hage
          have hz1 : r.getD a false = true := by
            cases hg : r.getD a false with
            | false => exact absurd (.inl hg) hz
            | true => rfl
          have hrb : r[a]? = some true := by
            rw [List.getD_eq_getElem?_getD] at hz1
            cases hg : r[a]? with
            | none => simp [hg] at hz1
            | some bb => simp [hg] at hz1; rw [hz1]
          have hlr' : ¬ r.length ≤ a := by
            have := (List.getElem?_eq_some_iff.1 hrb).1
            omega
          have hca : ¬ c = (a : Int) := fun h => hz (.inr h)
          obtain ⟨l2, hl2, hl2', _⟩ := hsr3.at (P := Try.prog) u31 s4 a4 (bools_get hrb) (k := .i64)
          simp [hl, h1, fa65, hld0, hld1, hlr, guardA, hlr', hl2, hl2', hca]
          repeat apply WP.seq
          apply WP.cond (t := false) (by simp [hl, hca]) (by simp)
          intro _
          apply WP.skip; simp
          repeat apply WP.seq
          apply WP.region; simp [hl, h5, int_wrap (show cs.length - (k + 1) < 9223372036854775807 by omega)]
          apply WP.region; simp [hl, h6, wrap_small (show -9223372036854775808 ≤ (k : Int) - 1 by omega) (by omega)]
          have : cs.length - (k + 1) + 1 = cs.length - k := by omega
          exact ⟨k, by omega, h1, h2, hk3, k, by omega, rfl, by simp, by rw [← this]; rfl, by omega⟩
      · intro hneg
        have hneg : m = 0 := by
          have : ¬ (0 : Int) ≤ (m : Int) - 1 := by simpa using hneg
          omega
        subst hneg
        apply WP.exit
        simp
        repeat apply WP.seq
        apply WP.region; simp [hl, h5]
        apply WP.ret
        rw [List.take_zero] at hage
        have h9 : ageR (hist []) a = 0 := rfl
        rw [h9] at hage
        simp only [Nat.sub_zero, Nat.add_zero] at hage
        simp [hl, resultsA, resultA, single, hage, hk.trans hk']
    · refine ⟨by simp [hl], by simp [h1], by simp [hl], Keep.refl hk.wf, cs.length, by omega, rfl, by simp [hl], by simp [hl], by simp⟩
  obtain ⟨_, h', h1, rfl, h2⟩ := main
  exact ⟨h', h1, h2⟩
end
end Go.Am
