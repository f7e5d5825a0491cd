/- 'musterlaw17.SchedRuns' returns true for every input whose bulk is at most 1048576 (the second form), and each argument reads behind the call as it read before. -/
import Derived.Test.YtehccakjdbapiaaAmRFair
import Derived.Test.YtehccakjdbapiaaAmSRuns
namespace Go.Proofs.Ytehccakjdbapiaa.Runs
open Go.ChangeShapes Go.WideShapes Go.ChangeAt Go.RowKit Go.Am

theorem walk {H : Type} {h : Heap} {ds : List (DataW H)} {as' : List AV} (hk : Rows.uptoBulkAll ds ≤ 1048576) (hr : RepsArgs Try.prog h ds [22, 3, 23] as') (hb : ∀ i, h.next ≤ i → h.get i = none) : ∃ h', CallOk Try.prog 3 as' h (.ret (.bool true) h') := by
  obtain ⟨d1, ds, a1, as', rfl, rfl, r1, hr⟩ := repsArgs_cons hr
  obtain ⟨d2, ds, a2, as', rfl, rfl, r2, hr⟩ := repsArgs_cons hr
  obtain ⟨d3, ds, a3, as', rfl, rfl, r3, hr⟩ := repsArgs_cons hr
  obtain ⟨rfl, rfl⟩ := repsArgs_nil hr
  obtain ⟨ns, hs, hl, _⟩ := arg_ints r1
  obtain ⟨n2, rfl, hw2⟩ := arg_int u3 r2
  obtain ⟨vs, rs, hcs, hss, hrl, hrm⟩ := arg_lists r3
  simp only [Rows.uptoBulkAll] at hk
  have h2 : -9223372036854775808 ≤ n2 ∧ n2 ≤ 9223372036854775807 := by simpa [Lit.wf, IntKind.min, IntKind.max, IntKind.signed, IntKind.bits] using hw2
  obtain ⟨h', hc⟩ := runs_ok ovTrue_sched (ovTrue_ne rfl) (ovTrue_ne rfl) (ovTrue_ne rfl) (ovTrue_ne rfl) (ovTrue_ne rfl) (wf_of hb) hs (by omega) n2 hcs hss (by omega) (fun r hr => by have := hrm r hr; omega)
  exact ⟨h', calls_ok _ _ _ _ hc⟩

set_option maxRecDepth 100000 in
theorem lifted (os : Os) (started : os.Started) (H : Type) (enc : TypeId × Value → H) (F : Stop.Interp) :
    ReturnsInHanded {} Try.checked os 3 .any ((Rows.OpenSpec.upto Rows.schedRunsSpec).pre6 enc Try.prog Try.f3 Rows.schedRunsUptoRow.domain false) (((Rows.OpenSpec.upto Rows.schedRunsSpec).at F).post enc Try.prog Try.f3 false true false false) := by
  refine returnsInHanded_of_cond (C := Try.checked) (s := Rows.OpenSpec.upto Rows.schedRunsSpec) (k := Rows.uptoSmall) rfl own started (by kernel_rfl) Try.func3
    (OpenSpec.witness (enc := enc) (C := Try.checked) (s := Rows.OpenSpec.upto Rows.schedRunsSpec) (k := Rows.uptoSmall) rfl false ⟨#[], #[.slice none 0 0, .int .i64 0, .slice none 0 0], []⟩ 8 (by kernel_rfl) (by kernel_rfl) (by kernel_rfl)
      (x := ([.nil, .lit (.int .i64 0), .nil], [], [])) (by kernel_rfl) rfl (by kernel_rfl)) ?_
  intro W base args ds gs before hval hW _ hk _
  refine law_contract (spec := Rows.schedRunsSpec) (dep := 8) (tb := 4) sched_laid rfl rfl u4 ?_ (by kernel_rfl) (by kernel_rfl) hval hW ?_
  · intro ds hl
    match ds, hl with
    | [d1, d2, d3], _ => rfl
  · intro h as' hr _ _ hb
    exact walk (bulk_of hk) hr hb

theorem proved : Rows.SchedRunsUptoSaid :=
  OpenClaim.holds_of_cond 3 Try.f3 rfl rfl rfl rfl rfl rfl rfl ⟨rfl, rfl, rfl, rfl, rfl⟩ rfl rfl rfl rfl rfl (by kernel_rfl) Try.func3 (by kernel_rfl)
    (of_decide_eq_true (by kernel_rfl)) (by unfold Func.isWrapper; first | (rw [if_pos (by decide +kernel)]; kernel_rfl) | (rw [if_neg (by decide +kernel)]; exact ⟨rfl, rfl⟩))
    (fun os started H enc _ F => lifted os started H enc F)
#print axioms proved
end Go.Proofs.Ytehccakjdbapiaa.Runs
