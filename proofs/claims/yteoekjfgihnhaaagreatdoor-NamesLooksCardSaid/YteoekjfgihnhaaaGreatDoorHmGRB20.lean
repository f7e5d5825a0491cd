/- Walks by the WP calculus: what simp knows, frames, cells. -/
import Derived.Test.YteoekjfgihnhaaaGreatDoorHmGRB15
import Derived.KernelRfl
set_option linter.all false
noncomputable section
namespace Go.Am
open Go.RowKit

attribute [simp] sim_nil sim_cons stepR_ret stepR_none sim_guard gstep_true gstep_false ev_tmp ev_func ev_int ev_bool ev_nilptr ev_nilslice ev_nilIface ev_nilFunc ev_nilmap op_move op_assign op_pick pickA_bool op_alloc op_box op_build op_buildSlice op_load loadR_ptr op_store op_nilCheck op_binOp op_unOp op_convert op_makeInterface op_makeFunc op_makeSlice op_slice op_fieldAddr op_field op_indexAddr op_index op_typeAssert op_extract op_builtin bi_len bi_append bi_copy bi_max2 bi_min2 maxA_two minA_two op_callv valR_func evals_nil evals_cons parts_nil parts_cons evalO_none evalO_some withH_ret toRet_ret toRet_withH bin_add bin_sub bin_mul bin_eql bin_neq bin_lss bin_leq bin_gtr bin_geq un_not nilCheck_ptr nilCheck_iface nilCheck_func
attribute [simp] W_some seqK_normal seqK_exit seqK_ret blockK_same blockK_normal blockK_ret loopK_normal loopK_exit loopK_ret nth_set_eq nth_set_ne

theorem frameA_length {fn : Func} {args : List AV} (h : args.length ≤ fn.ntmps) : (frameA fn args).length = fn.ntmps := by
  simp only [frameA, List.length_append, List.length_replicate]; omega
theorem nth_append_left : ∀ {xs ys : List AV} {i : Nat}, i < xs.length → nth (xs ++ ys) i = nth xs i
  | _ :: _, _, 0, _ => rfl
  | _ :: xs, ys, i + 1, h => by simp only [List.cons_append, nth]; exact nth_append_left (by simpa using h)
theorem frameA_nth {fn : Func} {args : List AV} {i : Nat} (h : i < args.length) : nth (frameA fn args) i = nth args i := nth_append_left h
theorem store_agg {P : Program} {h : Heap} {t : TypeId} {i n : Nat} {cs r : List AV} {k : Kind} (hs : sizeA P t = some n) (hg : h.get i = some (.cells cs k)) (hk : k ≠ .ro) (hr : r.length = n) (hc : cs.length = n) (hok : cellsOk r = true) : storeA P h t ⟨i, 0⟩ (.agg r) = some (h.set i (.cells r k)) := by
  have hov : over cs 0 r = r := by
    unfold over
    rw [List.take_zero, List.nil_append, List.drop_eq_nil_of_le (by omega), List.append_nil]
  have hb : (cellsOk r && Nat.ble (0 + r.length) cs.length) = true := by
    rw [Bool.and_eq_true, ble_iff]
    exact ⟨hok, by omega⟩
  have hbb : Nat.beq r.length n = true := by rw [hr]; exact Nat.beq_refl n
  simp only [storeA, hs, cellsA, hbb, cond_true, writeA, hg]
  cases k with
  | ro => exact absurd rfl hk
  | own => simp only [hb, cond_true, hov]
  | var => simp only [hb, cond_true, hov]
  | str => simp only [hb, cond_true, hov]
/-- A region, by what it leaves. -/
theorem WP.regionS {ov : CallF} {P : Program} {id : Nat} {ops : Array Oper} {e : List AV} {h : Heap} {K : Post} (Φ : List AV → Heap → Prop) (hw : W (fun o e h => o = .normal ∧ Φ e h) (opsA (callT ov P) P ops ops.toList e h)) (hk : ∀ e h, Φ e h → K .normal e h) : WP ov P (.region id ops false) e h K := by
  refine WP.mono (WP.region hw) ?_
  rintro o e h ⟨rfl, hp⟩
  exact hk e h hp
@[simp] theorem ev_strc {P : Program} {e : List AV} {b : Array UInt8} : evalA P e (.const (.string ⟨b⟩)) = .str b.toList := by simp [evalA, ofValue, ofScalar]
theorem Sl.clone {P : Program} {h : Heap} (hw : Wf h) {k : Kind} {t el : TypeId} (hu : P.underlying t = some (.slice el)) (h1 : sizeA P el = some 1) {xs : List AV} {y : AV} (hy : Sl h y xs) (hok : cellsOk xs = true) (hroom : xs ≠ [] → roomA P el xs.length = true) :
    ∃ v' h', appendA P (h.alloc (.cells [] k)) t t (.slice (some ⟨h.next, 0⟩) 0 (.exact 0)) y = some (v', h') ∧ Sl h' v' xs ∧ Keep [] h h' := by
  have hk := (Keep.refl (ex := []) hw).alloc (.cells [] k)
  have hy' : Sl (h.alloc (.cells [] k)) y xs := hy.keep' hk (by simp)
  have hsrc := hy'.src (P := P) hu hok
  cases hn2 : xs.length with
  | zero =>
    have : xs = [] := List.length_eq_zero_iff.1 hn2
    subst this
    refine ⟨.slice (some ⟨h.next, 0⟩) 0 (.exact 0), _, ?_, ⟨⟨rfl, Nat.le_refl _⟩, .inl rfl⟩, hk⟩
    simp only [appendA, hu, h1, hsrc, List.length_nil, appendCore]
  | succ m =>
    rw [hn2] at hsrc hroom
    have hne : xs ≠ [] := by intro hh; simp [hh] at hn2
    have hroom := hroom hne
    have hg : (h.alloc (.cells [] k)).get h.next = some (.cells [] k) := Heap.get_alloc _ _
    have hb : Nat.ble (0 + (m + 1)) 0 = false := by simp [Nat.ble]
    have hrd : readA (h.alloc (.cells [] k)) ⟨h.next, 0⟩ (0 * 1) = some [] := by
      simp only [readA, hg, Nat.zero_mul, List.length_nil]; rfl
    refine ⟨.slice (some ⟨h.next + 1, 0⟩) (0 + (m + 1)) (.tip 1), (h.alloc (.cells [] k)).alloc (.cells xs (.own (some el))), ?_, ⟨⟨by simp [hn2], rfl⟩, .inr ⟨_, .own (some el), Heap.get_alloc _ _, ?_, ?_⟩⟩, hk.alloc _⟩
    · simp only [Nat.zero_add] at hroom hb ⊢
      simp only [appendA, hu, h1, hsrc, appendCore, Nat.zero_add, hroom, cond_true, hb, cond_false, hrd, List.nil_append, Heap.next_alloc]
    · show 0 + (0 + (m + 1)) ≤ xs.length; omega
    · rw [List.drop_zero, Nat.zero_add, ← hn2, List.take_length]
end Go.Am
