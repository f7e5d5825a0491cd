/- 'musterlaw17.SchedPicks' returns true for every input whose bulk is at most 1048576 (the second form), and each argument reads behind the call as it read before. -/
import Derived.Test.YtehccakjdbapiaaAmRCommon
import Derived.Test.YtehccakjdbapiaaAmSPicks
namespace Go.Proofs.Ytehccakjdbapiaa.Picks
open Go.ChangeShapes Go.WideShapes Go.ChangeAt Go.RowKit Go.Am

theorem walk {H : Type} {h : Heap} {ds : List (DataW H)} {as' : List AV} (hk : Rows.uptoBulkAll ds ≤ 1048576) (hr : RepsArgs Try.prog h ds [22, 3] as') (hb : ∀ i, h.next ≤ i → h.get i = none) : ∃ h', CallOk Try.prog 6 as' h (.ret (.bool true) h') := by
  obtain ⟨d1, ds, a1, as', rfl, rfl, r1, hr⟩ := repsArgs_cons hr
  obtain ⟨d2, ds, a2, as', rfl, rfl, r2, hr⟩ := repsArgs_cons hr
  obtain ⟨rfl, rfl⟩ := repsArgs_nil hr
  obtain ⟨ns, hs, hl, _⟩ := arg_ints r1
  obtain ⟨n2, rfl, _⟩ := arg_int u3 r2
  simp only [Rows.uptoBulkAll] at hk
  obtain ⟨h', hc⟩ := picks_ok ovTrue_sched (ovTrue_ne rfl) (ovTrue_ne rfl) (ovTrue_ne rfl) (wf_of hb) hs (by omega) n2
  exact ⟨h', calls_ok _ _ _ _ hc⟩

set_option maxRecDepth 100000 in
theorem lifted (os : Os) (started : os.Started) (H : Type) (enc : TypeId × Value → H) (F : Stop.Interp) :
    ReturnsInHanded {} Try.checked os 6 .any ((Rows.OpenSpec.upto Rows.schedPicksSpec).pre6 enc Try.prog Try.f6 Rows.schedPicksUptoRow.domain false) (((Rows.OpenSpec.upto Rows.schedPicksSpec).at F).post enc Try.prog Try.f6 false true false false) := by
  refine returnsInHanded_of_cond (C := Try.checked) (s := Rows.OpenSpec.upto Rows.schedPicksSpec) (k := Rows.uptoSmall) rfl own started (by kernel_rfl) Try.func6
    (OpenSpec.witness (enc := enc) (C := Try.checked) (s := Rows.OpenSpec.upto Rows.schedPicksSpec) (k := Rows.uptoSmall) rfl false ⟨#[], #[.slice none 0 0, .int .i64 0], []⟩ 8 (by kernel_rfl) (by kernel_rfl) (by kernel_rfl)
      (x := ([.nil, .lit (.int .i64 0)], [], [])) (by kernel_rfl) rfl (by kernel_rfl)) ?_
  intro W base args ds gs before hval hW _ hk _
  refine law_contract (spec := Rows.schedPicksSpec) (dep := 8) (tb := 4) sched_laid rfl rfl u4 ?_ (by kernel_rfl) (by kernel_rfl) hval hW ?_
  · intro ds hl
    match ds, hl with
    | [d1, d2], _ => rfl
  · intro h as' hr _ _ hb
    exact walk (bulk_of hk) hr hb

theorem proved : Rows.SchedPicksUptoSaid :=
  OpenClaim.holds_of_cond 6 Try.f6 rfl rfl rfl rfl rfl rfl rfl ⟨rfl, rfl, rfl, rfl, rfl⟩ rfl rfl rfl rfl rfl (by kernel_rfl) Try.func6 (by kernel_rfl)
    (of_decide_eq_true (by kernel_rfl)) (by unfold Func.isWrapper; first | (rw [if_pos (by decide +kernel)]; kernel_rfl) | (rw [if_neg (by decide +kernel)]; exact ⟨rfl, rfl⟩))
    (fun os started H enc _ F => lifted os started H enc F)
#print axioms proved
end Go.Proofs.Ytehccakjdbapiaa.Picks
