/- The sched seat's types and functions, as the abstract machine asks for them. -/
import Derived.Test.YtehccakjdbapiaaChecked
import Derived.KernelRfl
import Derived.Test.YtehccakjdbapiaaAmWp
namespace Go.Am
open Go.RowKit Go.Proofs

attribute [simp] sim_nil sim_cons stepR_ret stepR_none sim_guard gstep_true gstep_false ev_tmp ev_func ev_int ev_bool ev_nilptr ev_nilslice ev_nilIface ev_nilFunc ev_nilmap op_move op_assign op_pick pickA_bool op_alloc op_box op_build op_buildSlice op_load loadR_ptr op_store op_nilCheck op_binOp op_unOp op_convert op_makeInterface op_makeFunc op_makeSlice op_slice op_fieldAddr op_field op_indexAddr op_index op_typeAssert op_extract op_builtin bi_len bi_append bi_copy bi_max2 bi_min2 maxA_two minA_two op_callv valR_func evals_nil evals_cons parts_nil parts_cons evalO_none evalO_some withH_ret toRet_ret toRet_withH bin_add bin_sub bin_mul bin_eql bin_neq bin_lss bin_leq bin_gtr bin_geq un_not nilCheck_ptr nilCheck_iface nilCheck_func
attribute [simp] W_some seqK_normal seqK_exit seqK_ret blockK_same blockK_normal blockK_ret loopK_normal loopK_exit loopK_ret nth_set_eq nth_set_ne

theorem u22 : Try.prog.underlying 22 = some (.slice 3) := by kernel_rfl
theorem u23 : Try.prog.underlying 23 = some (.slice 31) := by kernel_rfl
theorem u31 : Try.prog.underlying 31 = some (.slice 4) := by kernel_rfl
theorem u3 : Try.prog.underlying 3 = some (.int .i64) := by kernel_rfl
theorem u4 : Try.prog.underlying 4 = some .bool := by kernel_rfl
theorem u25 : Try.prog.underlying 25 = some (.pointer 62) := by kernel_rfl
theorem s3 : sizeA Try.prog 3 = some 1 := by kernel_rfl
theorem s4 : sizeA Try.prog 4 = some 1 := by kernel_rfl
theorem s22 : sizeA Try.prog 22 = some 1 := by kernel_rfl
theorem s25 : sizeA Try.prog 25 = some 1 := by kernel_rfl
theorem s31 : sizeA Try.prog 31 = some 1 := by kernel_rfl
theorem a3 : aggA Try.prog 3 = some false := by kernel_rfl
theorem a4 : aggA Try.prog 4 = some false := by kernel_rfl
theorem a22 : aggA Try.prog 22 = some false := by kernel_rfl
theorem a25 : aggA Try.prog 25 = some false := by kernel_rfl
theorem a31 : aggA Try.prog 31 = some false := by kernel_rfl
theorem i3 : Try.prog.info? 3 = some Try.t3 := by kernel_rfl
theorem i4 : Try.prog.info? 4 = some Try.t4 := by kernel_rfl
theorem room3 {n : Nat} (hn : n ≤ 1000000000) : roomA Try.prog 3 n = true := room_of i3 (b := 8) (by kernel_rfl) (by omega) (by omega) (z := .int .i64 0) (by kernel_rfl) (by kernel_rfl) (by kernel_rfl)
theorem room4 {n : Nat} (hn : n ≤ 1000000000) : roomA Try.prog 4 n = true := room_of i4 (b := 1) (by kernel_rfl) (by omega) (by omega) (z := .bool false) (by kernel_rfl) (by kernel_rfl) (by kernel_rfl)
theorem build22 {h : Heap} : buildSliceA Try.prog h 22 0 [] = some (.slice (some ⟨h.next, 0⟩) 0 (.exact 0), h.alloc (.cells [] .own)) :=
  build_none u22 i3 (z := .int .i64 0) (by kernel_rfl) (by kernel_rfl) (by kernel_rfl) (za := .int .i64 0) (by kernel_rfl) (zc := [.int .i64 0]) (by kernel_rfl)
theorem build22_1 {h : Heap} {x : AV} (hx : cellsA x = some [x]) : buildSliceA Try.prog h 22 1 [(0, x)] = some (.slice (some ⟨h.next, 0⟩) 1 (.exact 1), h.alloc (.cells [x] .own)) :=
  build_one u22 i3 (z := .int .i64 0) (by kernel_rfl) (by kernel_rfl) (by kernel_rfl) (za := .int .i64 0) (by kernel_rfl) (zc := .int .i64 0) (by kernel_rfl) hx
theorem build31 {h : Heap} : buildSliceA Try.prog h 31 0 [] = some (.slice (some ⟨h.next, 0⟩) 0 (.exact 0), h.alloc (.cells [] .own)) :=
  build_none u31 i4 (z := .bool false) (by kernel_rfl) (by kernel_rfl) (by kernel_rfl) (za := .bool false) (by kernel_rfl) (zc := [.bool false]) (by kernel_rfl)
theorem make22 {h : Heap} {n : Nat} (hn : n ≤ 1000000000) {k k' : IntKind} : makeSliceA Try.prog h 22 (.int k (n : Int)) (.int k' (n : Int)) = some (.slice (some ⟨h.next, 0⟩) n (.exact n), h.alloc (.cells (List.replicate n (.int .i64 0)) .own)) :=
  make_zeros u22 i3 (z := .int .i64 0) (by kernel_rfl) (by kernel_rfl) (by kernel_rfl) (za := .int .i64 0) (by kernel_rfl) (zc := .int .i64 0) (by kernel_rfl) (by rw [show Try.t3.bytes = 8 from by kernel_rfl]; omega) (by omega)
theorem make31 {h : Heap} {n : Nat} (hn : n ≤ 1000000000) {k k' : IntKind} : makeSliceA Try.prog h 31 (.int k (n : Int)) (.int k' (n : Int)) = some (.slice (some ⟨h.next, 0⟩) n (.exact n), h.alloc (.cells (List.replicate n (.bool false)) .own)) :=
  make_zeros u31 i4 (z := .bool false) (by kernel_rfl) (by kernel_rfl) (by kernel_rfl) (za := .bool false) (by kernel_rfl) (zc := .bool false) (by kernel_rfl) (by rw [show Try.t4.bytes = 1 from by kernel_rfl]; omega) (by omega)

theorem fa62 {l : Loc} : fieldAddrA Try.prog 62 (.ptr (some l)) 0 = some (.ptr (some ⟨l.id, l.off + 0⟩)) ∧ fieldAddrA Try.prog 62 (.ptr (some l)) 1 = some (.ptr (some ⟨l.id, l.off + 1⟩)) ∧
    fieldAddrA Try.prog 62 (.ptr (some l)) 2 = some (.ptr (some ⟨l.id, l.off + 2⟩)) ∧ fieldAddrA Try.prog 62 (.ptr (some l)) 3 = some (.ptr (some ⟨l.id, l.off + 3⟩)) := by
  refine ⟨?_, ?_, ?_, ?_⟩ <;> kernel_rfl
theorem build62 {l : Option Loc} {n : Nat} {c : Cap} {k k' : IntKind} {b m : Int} : buildA Try.prog 62 [(0, .slice l n c), (1, .int k b), (3, .int k' m)] = some (.agg [.slice l n c, .int k b, .slice none 0 (.exact 0), .int k' m]) := by kernel_rfl
def fnsB (l : List Func) : Bool := l.all fun fn => !(fn.name == "runtime.NumGoroutine")
theorem fns_ok : Fns Try.prog := by
  intro f fn hf _
  have hb : fnsB Try.prog.funcs.toList = true := by kernel_rfl
  have hm : fn ∈ Try.prog.funcs.toList := by
    rw [← Array.getElem?_toList] at hf
    exact List.mem_of_getElem? hf
  have := List.all_eq_true.1 hb fn hm
  simpa using this
theorem mixed_ok : Try.prog.follows .mixedOrders = true := by kernel_rfl
end Go.Am
