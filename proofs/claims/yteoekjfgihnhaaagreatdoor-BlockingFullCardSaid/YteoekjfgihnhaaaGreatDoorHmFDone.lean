/- BlockingFull: all numbers of queries, reckoned. -/
import Derived.Test.YteoekjfgihnhaaaGreatDoorHmFD1
import Derived.Test.YteoekjfgihnhaaaGreatDoorHmFD2
import Derived.Test.YteoekjfgihnhaaaGreatDoorHmFD3
import Derived.Test.YteoekjfgihnhaaaGreatDoorHmFD4
import Derived.Test.YteoekjfgihnhaaaGreatDoorHmFD5
import Derived.Test.YteoekjfgihnhaaaGreatDoorHmFD6
import Derived.Test.YteoekjfgihnhaaaGreatDoorHmFD7
import Derived.Test.YteoekjfgihnhaaaGreatDoorHmFD8
import Derived.Test.YteoekjfgihnhaaaGreatDoorHmFD9
import Derived.Test.YteoekjfgihnhaaaGreatDoorHmFD10
import Derived.Test.YteoekjfgihnhaaaGreatDoorHmFD11
import Derived.Test.YteoekjfgihnhaaaGreatDoorHmFD12
import Derived.Test.YteoekjfgihnhaaaGreatDoorHmFD13
import Derived.Test.YteoekjfgihnhaaaGreatDoorHmFD14
import Derived.Test.YteoekjfgihnhaaaGreatDoorHmFD15
set_option linter.all false
noncomputable section
namespace Go.Am
open Go.RowKit Go.Proofs

theorem all_mem {l : List Nat} (h : l.all chk = true) {m : Nat} (hm : m ∈ l) : chk m = true := List.all_eq_true.1 h m hm
theorem fDone (m : Nat) (h1 : 1 ≤ m) (h2 : m ≤ 60) : chk m = true := by
  have hs : m ∈ [1, 60, 2, 59] ∨ m ∈ [3, 58, 4, 57] ∨ m ∈ [5, 56, 6, 55] ∨ m ∈ [7, 54, 8, 53] ∨ m ∈ [9, 52, 10, 51] ∨ m ∈ [11, 50, 12, 49] ∨ m ∈ [13, 48, 14, 47] ∨ m ∈ [15, 46, 16, 45] ∨ m ∈ [17, 44, 18, 43] ∨ m ∈ [19, 42, 20, 41] ∨ m ∈ [21, 40, 22, 39] ∨ m ∈ [23, 38, 24, 37] ∨ m ∈ [25, 36, 26, 35] ∨ m ∈ [27, 34, 28, 33] ∨ m ∈ [29, 32, 30, 31] := by
    simp only [List.mem_cons, List.mem_nil_iff, or_false]
    omega
  rcases hs with h | h | h | h | h | h | h | h | h | h | h | h | h | h | h
  · exact all_mem fd1 h
  · exact all_mem fd2 h
  · exact all_mem fd3 h
  · exact all_mem fd4 h
  · exact all_mem fd5 h
  · exact all_mem fd6 h
  · exact all_mem fd7 h
  · exact all_mem fd8 h
  · exact all_mem fd9 h
  · exact all_mem fd10 h
  · exact all_mem fd11 h
  · exact all_mem fd12 h
  · exact all_mem fd13 h
  · exact all_mem fd14 h
  · exact all_mem fd15 h
end Go.Am
