/- The dns seat's types and functions, as the abstract machine asks for them. -/
import Derived.Test.YtnllflgijnloiaaChecked
import Derived.Test.YtnllflgijnloiaaAmGen
set_option linter.unusedSimpArgs false
namespace Go.Am
open Go.RowKit Go.Proofs

theorem u24 : Try.prog.underlying 24 = some (.slice 9) := by kernel_rfl
theorem u27 : Try.prog.underlying 27 = some (.slice 42) := by kernel_rfl
theorem u30 : Try.prog.underlying 30 = some (.slice 5) := by kernel_rfl
theorem u54 : Try.prog.underlying 54 = some (.slice 3) := by kernel_rfl
theorem u3 : Try.prog.underlying 3 = some (.int .i64) := by kernel_rfl
theorem u4 : Try.prog.underlying 4 = some .bool := by kernel_rfl
theorem u5 : Try.prog.underlying 5 = some (.int .u8) := by kernel_rfl
theorem u9 : Try.prog.underlying 9 = some .string := by kernel_rfl
theorem u23 : Try.prog.underlying 23 = some (.int .u16) := by kernel_rfl
theorem u31 : Try.prog.underlying 31 = some (.int .i64) := by kernel_rfl
theorem u39 : Try.prog.underlying 39 = some (.int .u32) := by kernel_rfl
theorem u57 : Try.prog.underlying 57 = some (.int .u64) := by kernel_rfl
theorem s3 : sizeA Try.prog 3 = some 1 := by kernel_rfl
theorem s4 : sizeA Try.prog 4 = some 1 := by kernel_rfl
theorem s5 : sizeA Try.prog 5 = some 1 := by kernel_rfl
theorem s9 : sizeA Try.prog 9 = some 1 := by kernel_rfl
theorem s23 : sizeA Try.prog 23 = some 1 := by kernel_rfl
theorem s24 : sizeA Try.prog 24 = some 1 := by kernel_rfl
theorem s26 : sizeA Try.prog 26 = some 6 := by kernel_rfl
theorem s27 : sizeA Try.prog 27 = some 1 := by kernel_rfl
theorem s29 : sizeA Try.prog 29 = some 9 := by kernel_rfl
theorem s30 : sizeA Try.prog 30 = some 1 := by kernel_rfl
theorem s31 : sizeA Try.prog 31 = some 1 := by kernel_rfl
theorem s39 : sizeA Try.prog 39 = some 1 := by kernel_rfl
theorem s40 : sizeA Try.prog 40 = some 4 := by kernel_rfl
theorem s42 : sizeA Try.prog 42 = some 8 := by kernel_rfl
theorem s64 : sizeA Try.prog 64 = some 2 := by kernel_rfl
theorem s65 : sizeA Try.prog 65 = some 4 := by kernel_rfl
theorem a3 : aggA Try.prog 3 = some false := by kernel_rfl
theorem a4 : aggA Try.prog 4 = some false := by kernel_rfl
theorem a5 : aggA Try.prog 5 = some false := by kernel_rfl
theorem a9 : aggA Try.prog 9 = some false := by kernel_rfl
theorem a23 : aggA Try.prog 23 = some false := by kernel_rfl
theorem a24 : aggA Try.prog 24 = some false := by kernel_rfl
theorem a27 : aggA Try.prog 27 = some false := by kernel_rfl
theorem a30 : aggA Try.prog 30 = some false := by kernel_rfl
theorem a31 : aggA Try.prog 31 = some false := by kernel_rfl
theorem a39 : aggA Try.prog 39 = some false := by kernel_rfl
theorem a26 : aggA Try.prog 26 = some true := by kernel_rfl
theorem a29 : aggA Try.prog 29 = some true := by kernel_rfl
theorem a40 : aggA Try.prog 40 = some true := by kernel_rfl
theorem a42 : aggA Try.prog 42 = some true := by kernel_rfl
theorem a65 : aggA Try.prog 65 = some true := by kernel_rfl
theorem i5 : Try.prog.info? 5 = some Try.t5 := by kernel_rfl
theorem i9 : Try.prog.info? 9 = some Try.t9 := by kernel_rfl
theorem i42 : Try.prog.info? 42 = some Try.t42 := by kernel_rfl
theorem room5 {n : Nat} (hn : n ≤ 100000000000) : roomA Try.prog 5 n = true := room_of i5 (b := 1) (by kernel_rfl) (by omega) (by omega) (z := .int .u8 0) (by kernel_rfl) (by kernel_rfl) (by kernel_rfl)
theorem room9 {n : Nat} (hn : n ≤ 100000000) : roomA Try.prog 9 n = true := room_of i9 (b := 16) (by kernel_rfl) (by omega) (by omega) (z := .string ⟨#[]⟩) (by kernel_rfl) (by kernel_rfl) (by kernel_rfl)

/-- The fields of a query, of a reply, of a record, of a reader. -/
theorem fa26 {l : Loc} : fieldAddrA Try.prog 26 (.ptr (some l)) 0 = some (.ptr (some ⟨l.id, l.off + 0⟩)) ∧ fieldAddrA Try.prog 26 (.ptr (some l)) 1 = some (.ptr (some ⟨l.id, l.off + 1⟩)) ∧ fieldAddrA Try.prog 26 (.ptr (some l)) 2 = some (.ptr (some ⟨l.id, l.off + 2⟩)) ∧
    fieldAddrA Try.prog 26 (.ptr (some l)) 3 = some (.ptr (some ⟨l.id, l.off + 3⟩)) ∧ fieldAddrA Try.prog 26 (.ptr (some l)) 4 = some (.ptr (some ⟨l.id, l.off + 4⟩)) ∧ fieldAddrA Try.prog 26 (.ptr (some l)) 5 = some (.ptr (some ⟨l.id, l.off + 5⟩)) := by
  refine ⟨?_, ?_, ?_, ?_, ?_, ?_⟩ <;> kernel_rfl
theorem fa29 {l : Loc} : fieldAddrA Try.prog 29 (.ptr (some l)) 0 = some (.ptr (some ⟨l.id, l.off + 0⟩)) ∧ fieldAddrA Try.prog 29 (.ptr (some l)) 1 = some (.ptr (some ⟨l.id, l.off + 6⟩)) ∧ fieldAddrA Try.prog 29 (.ptr (some l)) 2 = some (.ptr (some ⟨l.id, l.off + 7⟩)) ∧
    fieldAddrA Try.prog 29 (.ptr (some l)) 3 = some (.ptr (some ⟨l.id, l.off + 8⟩)) := by
  refine ⟨?_, ?_, ?_, ?_⟩ <;> kernel_rfl
theorem fa42 {l : Loc} : fieldAddrA Try.prog 42 (.ptr (some l)) 0 = some (.ptr (some ⟨l.id, l.off + 0⟩)) ∧ fieldAddrA Try.prog 42 (.ptr (some l)) 1 = some (.ptr (some ⟨l.id, l.off + 1⟩)) ∧ fieldAddrA Try.prog 42 (.ptr (some l)) 2 = some (.ptr (some ⟨l.id, l.off + 2⟩)) ∧
    fieldAddrA Try.prog 42 (.ptr (some l)) 3 = some (.ptr (some ⟨l.id, l.off + 6⟩)) ∧ fieldAddrA Try.prog 42 (.ptr (some l)) 4 = some (.ptr (some ⟨l.id, l.off + 7⟩)) := by
  refine ⟨?_, ?_, ?_, ?_, ?_⟩ <;> kernel_rfl
theorem fa64 {l : Loc} : fieldAddrA Try.prog 64 (.ptr (some l)) 0 = some (.ptr (some ⟨l.id, l.off + 0⟩)) ∧ fieldAddrA Try.prog 64 (.ptr (some l)) 1 = some (.ptr (some ⟨l.id, l.off + 1⟩)) := by
  refine ⟨?_, ?_⟩ <;> kernel_rfl

theorem b54_6 {h : Heap} {a b c d e f : Int} : buildSliceA Try.prog h 54 6 [(0, .int .i64 a), (1, .int .i64 b), (2, .int .i64 c), (3, .int .i64 d), (4, .int .i64 e), (5, .int .i64 f)] = some (.slice (some ⟨h.next, 0⟩) 6 (.exact 6), h.alloc (.cells (ints [a, b, c, d, e, f]) .own)) := by kernel_rfl
theorem b54_2 {h : Heap} {a b : Int} : buildSliceA Try.prog h 54 2 [(0, .int .i64 a), (1, .int .i64 b)] = some (.slice (some ⟨h.next, 0⟩) 2 (.exact 2), h.alloc (.cells (ints [a, b]) .own)) := by kernel_rfl
theorem b54_5 {h : Heap} {a b c d e : Int} : buildSliceA Try.prog h 54 5 [(0, .int .i64 a), (1, .int .i64 b), (2, .int .i64 c), (3, .int .i64 d), (4, .int .i64 e)] = some (.slice (some ⟨h.next, 0⟩) 5 (.exact 5), h.alloc (.cells (ints [a, b, c, d, e]) .own)) := by kernel_rfl
theorem b54_3 {h : Heap} {a b c : Int} : buildSliceA Try.prog h 54 3 [(0, .int .i64 a), (1, .int .i64 b), (2, .int .i64 c)] = some (.slice (some ⟨h.next, 0⟩) 3 (.exact 3), h.alloc (.cells (ints [a, b, c]) .own)) := by kernel_rfl
theorem b54_1 {h : Heap} {a : Int} : buildSliceA Try.prog h 54 1 [(0, .int .i64 a)] = some (.slice (some ⟨h.next, 0⟩) 1 (.exact 1), h.alloc (.cells (ints [a]) .own)) := by kernel_rfl
theorem b30_2 {h : Heap} {a b : Int} : buildSliceA Try.prog h 30 2 [(0, .int .u8 a), (1, .int .u8 b)] = some (.slice (some ⟨h.next, 0⟩) 2 (.exact 2), h.alloc (.cells [.int .u8 a, .int .u8 b] .own)) := by kernel_rfl
theorem b30_1 {h : Heap} {a : Int} : buildSliceA Try.prog h 30 1 [(0, .int .u8 a)] = some (.slice (some ⟨h.next, 0⟩) 1 (.exact 1), h.alloc (.cells [.int .u8 a] .own)) := by kernel_rfl

def fnsB (l : List Func) : Bool := l.all fun fn => !(fn.name == "runtime.NumGoroutine")
theorem fns_ok : Fns Try.prog := by
  intro f fn hf _
  have hb : fnsB Try.prog.funcs.toList = true := by kernel_rfl
  have hm : fn ∈ Try.prog.funcs.toList := by
    rw [← Array.getElem?_toList] at hf
    exact List.mem_of_getElem? hf
  have := List.all_eq_true.1 hb fn hm
  simpa using this
theorem mixed_ok : Try.prog.follows .mixedOrders = true := by kernel_rfl
end Go.Am
