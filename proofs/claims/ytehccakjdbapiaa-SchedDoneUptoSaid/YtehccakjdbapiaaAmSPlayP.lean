/- Plays, in plain lists; and the smaller functions of a play. -/
import Derived.Test.YtehccakjdbapiaaAmSRunsP
set_option linter.unusedSimpArgs false
namespace Go.Am
open Go.RowKit Go.Proofs

structure PS where
  picks : List Int
  ages : List Int
  last : Int
  cnt : List Int
  out : List Int
def readyAt (jobs : List (Int × Int)) (s : PS) (i : Nat) : Bool := decide ((jobs.getD i (0, 0)).1 ≤ (s.out.length : Int)) && decide (at0 s.cnt i < (jobs.getD i (0, 0)).2)
def readyP (jobs : List (Int × Int)) (s : PS) : List Bool := (List.range jobs.length).map (readyAt jobs s)
def nextS (jobs : List (Int × Int)) (b : Int) (s : PS) : NextR := nextP s.picks b s.ages s.last (readyP jobs s)
def moved (s : PS) (N : NextR) : PS := ⟨N.picks, N.ages, N.last, s.cnt.set N.chosen.toNat (at0 s.cnt N.chosen.toNat + 1), s.out ++ [N.chosen]⟩
def playN (jobs : List (Int × Int)) (b : Int) : Nat → PS → PS
  | 0, s => s
  | n + 1, s => if (nextS jobs b s).chosen < 0 then s else playN jobs b n (moved s (nextS jobs b s))
def startP (jobs : List (Int × Int)) (picks : List Int) : PS := ⟨picks, [], -1, List.replicate jobs.length 0, []⟩
def playOut (jobs : List (Int × Int)) (picks : List Int) (b steps : Int) : List Int := (playN jobs (max b 1) steps.toNat (startP jobs picks)).out

theorem playN_stop {jobs : List (Int × Int)} {b : Int} {s : PS} (h : (nextS jobs b s).chosen < 0) : ∀ n, playN jobs b n s = s
  | 0 => rfl
  | n + 1 => by simp only [playN, if_pos h]
theorem playN_go {jobs : List (Int × Int)} {b : Int} {s : PS} (h : ¬ (nextS jobs b s).chosen < 0) {n : Nat} (hn : 0 < n) : playN jobs b n s = playN jobs b (n - 1) (moved s (nextS jobs b s)) := by
  cases n with
  | zero => omega
  | succ n => simp only [playN, if_neg h, Nat.add_sub_cancel]
theorem readyP_length (jobs : List (Int × Int)) (s : PS) : (readyP jobs s).length = jobs.length := by simp [readyP]
theorem readyP_get {jobs : List (Int × Int)} {s : PS} {i : Nat} (h : i < jobs.length) : (readyP jobs s)[i]? = some (readyAt jobs s i) := by simp [readyP, h]
theorem whoFrom_lt {l : List Bool} {a : Nat} (h : a ∈ whoFrom l 0) : a < l.length := by
  have := whoFrom_mem l 0 a h; omega
theorem next_chosen_lt {jobs : List (Int × Int)} {b : Int} {s : PS} (h : ¬ (nextS jobs b s).chosen < 0) : ∃ c : Nat, (nextS jobs b s).chosen = c ∧ c < jobs.length ∧ readyAt jobs s c = true := by
  rcases next_spec s.picks b s.ages s.last (readyP jobs s) with ⟨_, hc⟩ | ⟨c, hc, hcm, _⟩
  · exfalso; apply h; show (nextP _ _ _ _ _).chosen < 0; omega
  · have hw := whoFrom_mem _ _ _ hcm
    have hlt := whoFrom_lt hcm
    rw [readyP_length] at hlt
    refine ⟨c, hc, hlt, ?_⟩
    have h3 := hw.2.2
    rw [Nat.sub_zero, readyP_get hlt] at h3
    exact Option.some.inj h3

/-- Jobs as they lie in memory. -/
def rowsJ (jobs : List (Int × Int)) : List (List AV) := jobs.map fun j => [.int .i64 j.1, .int .i64 j.2]
theorem rowsJ_length (jobs : List (Int × Int)) : (rowsJ jobs).length = jobs.length := by simp [rowsJ]
theorem rowsJ_get {jobs : List (Int × Int)} {i : Nat} {j : Int × Int} (h : jobs[i]? = some j) : (rowsJ jobs)[i]? = some [.int .i64 j.1, .int .i64 j.2] := by simp [rowsJ, h]

theorem u41 : Try.prog.underlying 41 = some (.slice 49) := by kernel_rfl
theorem u51 : Try.prog.underlying 51 = some (.pointer 68) := by kernel_rfl
theorem u54 : Try.prog.underlying 54 = some (.slice 56) := by kernel_rfl
theorem u69 : Try.prog.underlying 69 = some (.pointer 71) := by kernel_rfl
theorem s49 : sizeA Try.prog 49 = some 2 := by kernel_rfl
theorem a49 : aggA Try.prog 49 = some true := by kernel_rfl
theorem s56 : sizeA Try.prog 56 = some 1 := by kernel_rfl
theorem a56 : aggA Try.prog 56 = some false := by kernel_rfl
theorem s51 : sizeA Try.prog 51 = some 1 := by kernel_rfl
theorem a51 : aggA Try.prog 51 = some false := by kernel_rfl
theorem a41 : aggA Try.prog 41 = some false := by kernel_rfl
theorem i49 : Try.prog.info? 49 = some Try.t49 := by kernel_rfl
theorem i56 : Try.prog.info? 56 = some Try.t56 := by kernel_rfl
theorem room49 {n : Nat} (hn : n ≤ 1000000000) : roomA Try.prog 49 n = true := room_of i49 (b := 16) (by kernel_rfl) (by omega) (by omega) (z := .agg #[.int .i64 0, .int .i64 0]) (by kernel_rfl) (by kernel_rfl) (by kernel_rfl)
theorem room56 {n : Nat} (hn : n ≤ 1000000000) : roomA Try.prog 56 n = true := room_of i56 (b := 16) (by kernel_rfl) (by omega) (by omega) (z := .nilIface) (by kernel_rfl) (by kernel_rfl) (by kernel_rfl)
theorem fa49 {l : Loc} : fieldAddrA Try.prog 49 (.ptr (some l)) 0 = some (.ptr (some ⟨l.id, l.off + 0⟩)) ∧ fieldAddrA Try.prog 49 (.ptr (some l)) 1 = some (.ptr (some ⟨l.id, l.off + 1⟩)) := by
  refine ⟨?_, ?_⟩ <;> kernel_rfl
theorem fa68 {l : Loc} : fieldAddrA Try.prog 68 (.ptr (some l)) 0 = some (.ptr (some ⟨l.id, l.off + 0⟩)) ∧ fieldAddrA Try.prog 68 (.ptr (some l)) 1 = some (.ptr (some ⟨l.id, l.off + 1⟩)) := by
  refine ⟨?_, ?_⟩ <;> kernel_rfl
theorem fa71 {l : Loc} : fieldAddrA Try.prog 71 (.ptr (some l)) 0 = some (.ptr (some ⟨l.id, l.off + 0⟩)) ∧ fieldAddrA Try.prog 71 (.ptr (some l)) 1 = some (.ptr (some ⟨l.id, l.off + 1⟩)) ∧
    fieldAddrA Try.prog 71 (.ptr (some l)) 2 = some (.ptr (some ⟨l.id, l.off + 3⟩)) ∧ fieldAddrA Try.prog 71 (.ptr (some l)) 3 = some (.ptr (some ⟨l.id, l.off + 4⟩)) := by
  refine ⟨?_, ?_, ?_, ?_⟩ <;> kernel_rfl
theorem alloc49 {h : Heap} : allocA Try.prog h 49 = some (.ptr (some ⟨h.next, 0⟩), h.alloc (.cells [.int .i64 0, .int .i64 0] .own)) := by kernel_rfl
theorem build41 {h : Heap} : buildSliceA Try.prog h 41 0 [] = some (.slice (some ⟨h.next, 0⟩) 0 (.exact 0), h.alloc (.cells [] .own)) := by kernel_rfl
theorem build41_1 {h : Heap} {k k' : IntKind} {x y : Int} : buildSliceA Try.prog h 41 1 [(0, .agg [.int k x, .int k' y])] = some (.slice (some ⟨h.next, 0⟩) 1 (.exact 1), h.alloc (.cells [.int k x, .int k' y] .own)) := by kernel_rfl
theorem build31_b {h : Heap} {b : Bool} : buildSliceA Try.prog h 31 1 [(0, .bool b)] = some (.slice (some ⟨h.next, 0⟩) 1 (.exact 1), h.alloc (.cells [.bool b] .own)) := by kernel_rfl
theorem build54_1 {h : Heap} {t : TypeId} {l : Option Loc} : buildSliceA Try.prog h 54 1 [(0, .iface t (.ptr l))] = some (.slice (some ⟨h.next, 0⟩) 1 (.exact 1), h.alloc (.cells [.iface t (.ptr l)] .own)) := by kernel_rfl
theorem build49 {k k' : IntKind} {x y : Int} : buildA Try.prog 49 [(0, .int k x), (1, .int k' y)] = some (.agg [.int k x, .int k' y]) := by kernel_rfl
theorem build49_1 {k' : IntKind} {y : Int} : buildA Try.prog 49 [(1, .int k' y)] = some (.agg [.int .i64 0, .int k' y]) := by kernel_rfl
theorem build68 : buildA Try.prog 68 [] = some (.agg [.slice none 0 (.exact 0), .int .i64 0]) := by kernel_rfl
theorem build71 {l : Option Loc} {k k' k'' : IntKind} {x y z : Int} : buildA Try.prog 71 [(0, .ptr l), (1, .agg [.int k x, .int k' y]), (2, .int k'' z)] = some (.agg [.ptr l, .int k x, .int k' y, .int k'' z, .int .i64 0]) := by kernel_rfl
theorem mk69 {l : Option Loc} : makeInterfaceA Try.prog 69 (.ptr l) = some (.iface 69 (.ptr l)) := by kernel_rfl
theorem box_agg {h : Heap} {vs cs : List AV} (hc : cellsA (.agg vs) = some cs) : boxA h (.agg vs) = some (.ptr (some ⟨h.next, 0⟩), h.alloc (.cells cs .own)) := by simp only [boxA, hc]; rfl
theorem meth69 : methodA Try.prog 69 "Ready" = some 46 ∧ methodA Try.prog 69 "Step" = some 47 := by
  refine ⟨?_, ?_⟩ <;> kernel_rfl
end Go.Am
