/- Laws that no seat has alone. -/
import Derived.KernelRfl
import Derived.Test.YtnllflgijnloiaaAmGRDBack13
import Derived.Test.YtnllflgijnloiaaAmGRDBack12
import Derived.Test.YtnllflgijnloiaaAmGRDBack10
set_option linter.unusedSimpArgs false
namespace Go.Am
open Go.RowKit

attribute [simp] sim_nil sim_cons stepR_ret stepR_none sim_guard gstep_true gstep_false ev_tmp ev_func ev_int ev_bool ev_nilptr ev_nilslice ev_nilIface ev_nilFunc ev_nilmap op_move op_assign op_pick pickA_bool op_alloc op_box op_build op_buildSlice op_load loadR_ptr op_store op_nilCheck op_binOp op_unOp op_convert op_makeInterface op_makeFunc op_makeSlice op_slice op_fieldAddr op_field op_indexAddr op_index op_typeAssert op_extract op_builtin bi_len bi_append bi_copy bi_max2 bi_min2 maxA_two minA_two op_callv valR_func evals_nil evals_cons parts_nil parts_cons evalO_none evalO_some withH_ret toRet_ret toRet_withH bin_add bin_sub bin_mul bin_eql bin_neq bin_lss bin_leq bin_gtr bin_geq un_not nilCheck_ptr nilCheck_iface nilCheck_func
attribute [simp] W_some seqK_normal seqK_exit seqK_ret blockK_same blockK_normal blockK_ret loopK_normal loopK_exit loopK_ret nth_set_eq nth_set_ne

theorem frameA_length {fn : Func} {args : List AV} (h : args.length ≤ fn.ntmps) : (frameA fn args).length = fn.ntmps := by
  simp only [frameA, List.length_append, List.length_replicate]; omega
theorem nth_append_left : ∀ {xs ys : List AV} {i : Nat}, i < xs.length → nth (xs ++ ys) i = nth xs i
  | _ :: _, _, 0, _ => rfl
  | _ :: xs, ys, i + 1, h => by simp only [List.cons_append, nth]; exact nth_append_left (by simpa using h)
theorem frameA_nth {fn : Func} {args : List AV} {i : Nat} (h : i < args.length) : nth (frameA fn args) i = nth args i := nth_append_left h

def ints (xs : List Int) : List AV := xs.map (.int .i64)
def bools (xs : List Bool) : List AV := xs.map .bool
@[simp] theorem ints_length {xs : List Int} : (ints xs).length = xs.length := by simp [ints]
@[simp] theorem bools_length {xs : List Bool} : (bools xs).length = xs.length := by simp [bools]
theorem ints_get {xs : List Int} {i : Nat} {x : Int} (h : xs[i]? = some x) : (ints xs)[i]? = some (.int .i64 x) := by simp [ints, h]
theorem bools_get {xs : List Bool} {i : Nat} {x : Bool} (h : xs[i]? = some x) : (bools xs)[i]? = some (.bool x) := by simp [bools, h]
theorem ints_ok : ∀ {xs : List Int}, cellsOk (ints xs) = true
  | [] => rfl
  | x :: xs => by simp only [ints, List.map_cons, cellsOk, cellOk, Bool.true_and]; exact ints_ok (xs := xs)
theorem bools_ok : ∀ {xs : List Bool}, cellsOk (bools xs) = true
  | [] => rfl
  | x :: xs => by simp only [bools, List.map_cons, cellsOk, cellOk, Bool.true_and]; exact bools_ok (xs := xs)


theorem int_wrap {n : Nat} (h : n < 9223372036854775807) : IntKind.wrap .i64 ((n : Int) + 1) = ((n + 1 : Nat) : Int) := by
  rw [wrap_small (by omega) (by omega)]; rfl
theorem ints_set (xs : List Int) (i : Nat) (x : Int) : (ints xs).set i (.int .i64 x) = ints (xs.set i x) := by simp [ints, List.map_set]
theorem bools_set {xs : List Bool} {i : Nat} {b : Bool} : (bools xs).set i (.bool b) = bools (xs.set i b) := by simp [bools, List.map_set]
/-- A whole block is written anew. -/
theorem store_whole {P : Program} {h : Heap} {t : TypeId} {n : Nat} (hs : sizeA P t = some n) {i : Nat} {cs ds : List AV} (hg : h.get i = some (.cells cs .own)) (hn : cs.length = n) (hd : ds.length = n) (hok : cellsOk ds = true) : storeA P h t ⟨i, 0⟩ (.agg ds) = some (h.set i (.cells ds .own)) := by
  have hb1 : Nat.beq ds.length n = true := by rw [hd]; simp
  have hb2 : Nat.ble (0 + ds.length) cs.length = true := by rw [ble_iff]; omega
  have hov : over cs 0 ds = ds := by simp [over, hd, ← hn]
  simp only [storeA, hs, cellsA, hb1, cond_true, writeA, hg, hok, hb2, Bool.and_self, hov]
theorem load_whole {P : Program} {h : Heap} {t : TypeId} {n : Nat} (ha : aggA P t = some true) (hs : sizeA P t = some n) {i : Nat} {cs : List AV} {k : Kind} (hg : h.get i = some (.cells cs k)) (hn : cs.length = n) : loadA P h t ⟨i, 0⟩ = some (.agg cs) := by
  rw [load_agg ha hs hg (by omega)]
  simp [← hn]
theorem box_agg {h : Heap} {vs cs : List AV} (hc : cellsA (.agg vs) = some cs) : boxA h (.agg vs) = some (.ptr (some ⟨h.next, 0⟩), h.alloc (.cells cs .own)) := by simp only [boxA, hc]; rfl
theorem box_one {h : Heap} {v : AV} (hc : cellsA v = some [v]) : boxA h v = some (.ptr (some ⟨h.next, 0⟩), h.alloc (.cells [v] .own)) := by simp only [boxA, hc]; rfl
theorem sl_cellOk {h : Heap} {v : AV} {xs : List AV} (hs : Sl h v xs) : cellOk v = true := by
  obtain ⟨l, c, rfl⟩ := hs.slice; rfl
/-- One element is appended; what is lost is told. -/
theorem Acc.pushX {P : Program} {n0 : Nat} {ex : List Nat} {h : Heap} {v : AV} {xs : List AV} (ha : Acc n0 h v xs) (hw : Wf h) (hex : ∀ i, idOf v = some i → i ∈ ex) (hn' : n0 ≤ h.next) {t el : TypeId} (hu : P.underlying t = some (.slice el)) (h1 : sizeA P el = some 1) (hroom : roomA P el (xs.length + 1) = true)
    {x y : AV} (hy : Sl h y [x]) (hok : cellOk x = true) : ∃ v' h', appendA P h t t v y = some (v', h') ∧ Acc n0 h' v' (xs ++ [x]) ∧ Keep ex h h' ∧ (∀ i, idOf v' = some i → h.next ≤ i) := by
  have hsrc := hy.src (P := P) hu (by simp [cellsOk, hok])
  have hk := Keep.refl (ex := ex) hw
  rcases ha with ⟨rfl, l, rfl, hl⟩ | ⟨i, hi, hne, rfl, hg⟩
  · simp only [List.length_nil, Nat.zero_add] at hroom
    refine ⟨.slice (some ⟨h.next, 0⟩) 1 (.tip 1), h.alloc (.cells [x] .own), ?_, .inr ⟨h.next, hn', by simp, by simp, Heap.get_alloc _ _⟩, hk.alloc _, by simp [idOf]⟩
    cases l with
    | none => simp only [appendA, hu, h1, hsrc, List.length_singleton, Nat.zero_add, hroom, cond_true]
    | some y =>
      obtain ⟨_, hx0, cs, hgx⟩ := hl y rfl
      have hb : Nat.ble 1 0 = false := rfl
      have hrd : readA h y (0 * 1) = some [] := by
        have : Nat.ble y.off cs.length = true := by rw [ble_iff, hx0]; omega
        simp [readA, hgx, this]
      simp only [appendA, hu, h1, hsrc, List.length_singleton, Nat.zero_add, hroom, cond_true, hb, cond_false, hrd, List.nil_append]
  · refine ⟨.slice (some ⟨h.next, 0⟩) (xs.length + 1) (.tip 1), (h.del i).alloc (.cells (xs ++ [x]) .own), ?_, .inr ⟨h.next, hn', by simp, by simp, Heap.get_alloc _ _⟩, (hk.del (.inl (hex i rfl))).alloc _, by simp [idOf]⟩
    have hb : Nat.ble (0 + (xs.length + 1) * 1) xs.length = false := by
      cases hb : Nat.ble (0 + (xs.length + 1) * 1) xs.length with
      | false => rfl
      | true => rw [ble_iff] at hb; omega
    have hb2 : Nat.beq (0 + xs.length * 1) xs.length = true := by simp
    have hx : cellsOk [x] = true := by simp [cellsOk, hok]
    simp only [appendA, hu, h1, hsrc, List.length_singleton, hroom, cond_true, hg, hb, cond_false]
    rw [hb2]
    simp only [hx, Bool.and_true, cond_true, List.drop_zero]
    rfl

theorem Acc.lt {n0 : Nat} {h : Heap} (hw : Wf h) {v : AV} {xs : List AV} (ha : Acc n0 h v xs) {i : Nat} (hi : idOf v = some i) : i < h.next := by
  rcases ha with ⟨_, l, rfl, hl⟩ | ⟨j, _, _, rfl, hg⟩
  · cases l with
    | none => cases hi
    | some x =>
      cases hi
      obtain ⟨_, _, cs, hg⟩ := hl x rfl
      exact hw _ _ hg
  · cases hi; exact hw _ _ hg
theorem Acc.keep2 {n0 : Nat} {ex : List Nat} {h0 h : Heap} (hk : Keep ex h0 h) {v : AV} {xs : List AV} (hs : Acc n0 h0 v xs) (hx : ∀ i, idOf v = some i → i ∉ ex) : Acc n0 h v xs := by
  rcases hs with ⟨h1, l, h2, h3⟩ | ⟨j, h1, h2, h3, hg⟩
  · refine .inl ⟨h1, l, h2, fun x hx' => ?_⟩
    obtain ⟨h4, h5, cs, h6⟩ := h3 x hx'
    exact ⟨h4, h5, cs, hk.get _ _ h6 (hx _ (by rw [h2, hx']; rfl))⟩
  · exact .inr ⟨j, h1, h2, h3, hk.get _ _ hg (hx _ (by rw [h3]; rfl))⟩

/-- Several elements are appended; what is lost is told. -/
theorem Acc.app {P : Program} {n0 : Nat} {ex : List Nat} {h : Heap} {v : AV} {xs : List AV} (ha : Acc n0 h v xs) (hw : Wf h) (hex : ∀ i, idOf v = some i → i ∈ ex) (hn' : n0 ≤ h.next) {ts tu el : TypeId} (hu : P.underlying ts = some (.slice el)) (h1 : sizeA P el = some 1) {y : AV} {ys : List AV} (hroom : roomA P el (xs.length + ys.length) = true)
    (hsrc : srcA P h 1 tu y = some (ys.length, ys)) (hok : cellsOk ys = true) (hne : ys ≠ []) : ∃ v' h', appendA P h ts tu v y = some (v', h') ∧ Acc n0 h' v' (xs ++ ys) ∧ Keep ex h h' ∧ (∀ i, idOf v' = some i → h.next ≤ i) := by
  have hk := Keep.refl (ex := ex) hw
  obtain ⟨n, hn⟩ : ∃ n, ys.length = n + 1 := ⟨ys.length - 1, by have := List.length_pos_iff.2 hne; omega⟩
  rcases ha with ⟨rfl, l, rfl, hl⟩ | ⟨i, hi, hxne, rfl, hg⟩
  · simp only [List.length_nil, Nat.zero_add] at hroom
    refine ⟨.slice (some ⟨h.next, 0⟩) (n + 1) (.tip 1), h.alloc (.cells ys .own), ?_, .inr ⟨h.next, hn', by simpa using hne, by simp [hn], by simpa using Heap.get_alloc _ _⟩, hk.alloc _, by simp [idOf]⟩
    rw [hn] at hroom hsrc
    cases l with
    | none => simp only [appendA, hu, h1, hsrc, Nat.zero_add, hroom, cond_true]
    | some z =>
      obtain ⟨_, hx0, cs, hgx⟩ := hl z rfl
      have hb : Nat.ble (n + 1) 0 = false := rfl
      have hrd : readA h z (0 * 1) = some [] := by
        have : Nat.ble z.off cs.length = true := by rw [ble_iff, hx0]; omega
        simp [readA, hgx, this]
      simp only [appendA, hu, h1, hsrc, Nat.zero_add, hroom, cond_true, hb, cond_false, hrd, List.nil_append]
  · refine ⟨.slice (some ⟨h.next, 0⟩) (xs.length + (n + 1)) (.tip 1), (h.del i).alloc (.cells (xs ++ ys) .own), ?_, .inr ⟨h.next, hn', by simp [hxne], by simp [hn], Heap.get_alloc _ _⟩, (hk.del (.inl (hex i rfl))).alloc _, by simp [idOf]⟩
    rw [hn] at hroom hsrc
    have hb : Nat.ble (0 + (xs.length + (n + 1)) * 1) xs.length = false := by
      cases hb : Nat.ble (0 + (xs.length + (n + 1)) * 1) xs.length with
      | false => rfl
      | true => rw [ble_iff] at hb; omega
    have hb2 : Nat.beq (0 + xs.length * 1) xs.length = true := by simp
    simp only [appendA, hu, h1, hsrc, hroom, cond_true, hg, hb, cond_false]
    rw [hb2]
    simp only [hok, Bool.and_true, cond_true, List.drop_zero]
    rfl

theorem Accr.lt {n0 : Nat} {h : Heap} (hw : Wf h) {s : Nat} {v : AV} {rows : List (List AV)} (ha : Accr n0 h s v rows) {i : Nat} (hi : idOf v = some i) : i < h.next := by
  rcases ha.2 with ⟨_, l, rfl, hl⟩ | ⟨j, _, _, rfl, hg⟩
  · cases l with
    | none => cases hi
    | some x =>
      cases hi
      obtain ⟨_, _, cs, hg⟩ := hl x rfl
      exact hw _ _ hg
  · cases hi; exact hw _ _ hg
/-- Several rows are appended; what is lost is told. -/
theorem Accr.app {P : Program} {n0 : Nat} {ex : List Nat} {h : Heap} {s : Nat} {v : AV} {rows : List (List AV)} (ha : Accr n0 h s v rows) (hw : Wf h) (hex : ∀ i, idOf v = some i → i ∈ ex) (hn' : n0 ≤ h.next) {t el : TypeId} (hu : P.underlying t = some (.slice el)) (h1 : sizeA P el = some s) (hs0 : 0 < s)
    {news : List (List AV)} {y : AV} (hall : ∀ r ∈ news, r.length = s) (hroom : roomA P el (rows.length + news.length) = true) (hsrc : srcA P h s t y = some (news.length, news.flatten)) (hok : cellsOk news.flatten = true) (hne : news ≠ []) :
    ∃ v' h', appendA P h t t v y = some (v', h') ∧ Accr n0 h' s v' (rows ++ news) ∧ Keep ex h h' ∧ (∀ i, idOf v' = some i → h.next ≤ i) := by
  have hk := Keep.refl (ex := ex) hw
  obtain ⟨n, hn⟩ : ∃ n, news.length = n + 1 := ⟨news.length - 1, by have := List.length_pos_iff.2 hne; omega⟩
  have hall2 : ∀ r ∈ rows ++ news, r.length = s := by
    intro r hr
    rcases List.mem_append.1 hr with h | h
    · exact ha.1 r h
    · exact hall r h
  rcases ha.2 with ⟨rfl, l, rfl, hl⟩ | ⟨i, hi, hxne, rfl, hg⟩
  · simp only [List.length_nil, Nat.zero_add] at hroom
    refine ⟨.slice (some ⟨h.next, 0⟩) (n + 1) (.tip s), h.alloc (.cells news.flatten .own), ?_, ⟨hall2, .inr ⟨h.next, hn', by simpa using hne, by simp [hn], by simpa using Heap.get_alloc _ _⟩⟩, hk.alloc _, by simp [idOf]⟩
    rw [hn] at hroom hsrc
    cases l with
    | none => simp only [appendA, hu, h1, hsrc, Nat.zero_add, hroom, cond_true]
    | some z =>
      obtain ⟨_, hx0, cs, hgx⟩ := hl z rfl
      have hb : Nat.ble (n + 1) 0 = false := rfl
      have hrd : readA h z (0 * s) = some [] := by
        have : Nat.ble z.off cs.length = true := by rw [ble_iff, hx0]; omega
        simp [readA, hgx, this]
      simp only [appendA, hu, h1, hsrc, Nat.zero_add, hroom, cond_true, hb, cond_false, hrd, List.nil_append]
  · have hfl := flatten_length ha.1
    refine ⟨.slice (some ⟨h.next, 0⟩) (rows.length + (n + 1)) (.tip s), (h.del i).alloc (.cells (rows ++ news).flatten .own), ?_, ⟨hall2, .inr ⟨h.next, hn', by simp [hxne], by simp [hn], Heap.get_alloc _ _⟩⟩, (hk.del (.inl (hex i rfl))).alloc _, by simp [idOf]⟩
    rw [hn] at hroom hsrc
    have hb : Nat.ble (0 + (rows.length + (n + 1)) * s) rows.flatten.length = false := by
      cases hb : Nat.ble (0 + (rows.length + (n + 1)) * s) rows.flatten.length with
      | false => rfl
      | true =>
        rw [ble_iff, hfl, Nat.add_mul, Nat.add_mul] at hb
        omega
    have hb2 : Nat.beq (0 + rows.length * s) rows.flatten.length = true := by rw [hfl]; simp
    have hb0 : Nat.beq s s = true := by simp
    simp only [appendA, hu, h1, hsrc, hroom, cond_true, hg, hb, cond_false, hb0]
    rw [hb2]
    simp only [hok, Bool.and_true, cond_true, List.drop_zero, List.flatten_append]
theorem Keep.into {ex ex' : List Nat} {a b c : Heap} (h : Keep ex a b) (h' : Keep ex' b c) (hx : ∀ i ∈ ex', i ∈ ex ∨ a.next ≤ i) : Keep ex a c :=
  ⟨h.wf0, h'.wf, Nat.le_trans h.le h'.le, fun i o hi hn => h'.get i o (h.get i o hi hn) (fun hm => by
    rcases hx i hm with h1 | h1
    · exact hn h1
    · have := h.wf0 _ _ hi; omega)⟩
end Go.Am
