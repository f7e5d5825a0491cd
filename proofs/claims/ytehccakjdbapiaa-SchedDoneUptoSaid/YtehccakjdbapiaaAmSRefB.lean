/- A part of the proof by the abstract machine: SRefB. -/
import Derived.Test.YtehccakjdbapiaaAmSRefQ
namespace Go.Am
open Go.RowKit Go.Proofs
theorem build27 {h : Heap} : buildSliceA Try.prog h 27 0 [] = some (.slice (some ⟨h.next, 0⟩) 0 (.exact 0), h.alloc (.cells [] .own)) := by kernel_rfl
theorem build27_1 {h : Heap} {l : Option Loc} {n : Nat} {c : Cap} {k : IntKind} {x : Int} : buildSliceA Try.prog h 27 1 [(0, .agg [.slice l n c, .int k x])] = some (.slice (some ⟨h.next, 0⟩) 1 (.exact 1), h.alloc (.cells [.slice l n c, .int k x] .own)) := by kernel_rfl
theorem room65 {n : Nat} (hn : n ≤ 1000000000) : roomA Try.prog 65 n = true := room_of i65 (b := 32) (by kernel_rfl) (by omega) (by omega) (z := .agg #[.slice none 0 0, .int .i64 0]) (by kernel_rfl) (by kernel_rfl) (by kernel_rfl)
theorem sl_cellOk {h : Heap} {v : AV} {xs : List AV} (hs : Sl h v xs) : cellOk v = true := by
  obtain ⟨l, c, rfl⟩ := hs.slice; rfl
theorem rowsOf_ok {h : Heap} : ∀ {cs : List (AV × List Bool × Int)}, (∀ x ∈ cs, Sl h x.1 (bools x.2.1)) → cellsOk (rowsOf cs).flatten = true
  | [], _ => rfl
  | x :: cs, hx => by
    have h1 := sl_cellOk (hx x List.mem_cons_self)
    have h2 := rowsOf_ok (cs := cs) (fun y hy => hx y (List.mem_cons_of_mem _ hy))
    simp only [rowsOf, List.map_cons, List.flatten_cons, List.cons_append, List.nil_append, cellsOk, h1, Bool.true_and]
    exact h2
end Go.Am
