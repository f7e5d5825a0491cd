/- 'musterlaw17.SchedDone' returns true for every input whose bulk is at most 1048576 (the second form), and each argument reads behind the call as it read before. -/
import Derived.Test.YtehccakjdbapiaaAmRCommon
import Derived.Test.YtehccakjdbapiaaAmSDone
namespace Go.Proofs.Ytehccakjdbapiaa.WorkDone
open Go.ChangeShapes Go.WideShapes Go.ChangeAt Go.RowKit Go.Am

theorem playOv_sched : PlayOv (ovTrue 10) where
  o12 := ovTrue_ne rfl
  o13 := ovTrue_ne rfl
  o17 := ovTrue_ne rfl
  o18 := ovTrue_ne rfl
  o19 := ovTrue_ne rfl
  o20 := ovTrue_ne rfl
  o21 := ovTrue_ne rfl
  o22 := ovTrue_ne rfl
  o23 := ovTrue_ne rfl
  o24 := ovTrue_ne rfl
  o26 := ovTrue_ne rfl
  o46 := ovTrue_ne rfl
  o47 := ovTrue_ne rfl

theorem walk {H : Type} {h : Heap} {ds : List (DataW H)} {as' : List AV} (hk : Rows.uptoBulkAll ds ≤ 1048576) (hr : RepsArgs Try.prog h ds [22, 22, 3] as') (hb : ∀ i, h.next ≤ i → h.get i = none) : ∃ h', CallOk Try.prog 8 as' h (.ret (.bool true) h') := by
  obtain ⟨d1, ds, a1, as', rfl, rfl, r1, hr⟩ := repsArgs_cons hr
  obtain ⟨d2, ds, a2, as', rfl, rfl, r2, hr⟩ := repsArgs_cons hr
  obtain ⟨d3, ds, a3, as', rfl, rfl, r3, hr⟩ := repsArgs_cons hr
  obtain ⟨rfl, rfl⟩ := repsArgs_nil hr
  obtain ⟨ws, hs, hl, hws⟩ := arg_ints r1
  obtain ⟨ns, hp, hpl, _⟩ := arg_ints r2
  obtain ⟨n3, rfl, _⟩ := arg_int u3 r3
  simp only [Rows.uptoBulkAll] at hk
  have hwi : ∀ w ∈ ws, -9223372036854775808 ≤ w := by
    intro w hw
    have := hws w hw
    have h2 : -9223372036854775808 ≤ w ∧ w ≤ 9223372036854775807 := by simpa [Lit.wf, IntKind.min, IntKind.max, IntKind.signed, IntKind.bits] using this
    exact h2.1
  obtain ⟨h', hc⟩ := done_ok ovTrue_sched playOv_sched (ovTrue_ne rfl) (wf_of hb) hs (by omega) hwi hp (by omega) n3
  exact ⟨h', calls_ok _ _ _ _ hc⟩

set_option maxRecDepth 100000 in
theorem lifted (os : Os) (started : os.Started) (H : Type) (enc : TypeId × Value → H) (F : Stop.Interp) :
    ReturnsInHanded {} Try.checked os 8 .any ((Rows.OpenSpec.upto Rows.schedDoneSpec).pre6 enc Try.prog Try.f8 Rows.schedDoneUptoRow.domain false) (((Rows.OpenSpec.upto Rows.schedDoneSpec).at F).post enc Try.prog Try.f8 false true false false) := by
  refine returnsInHanded_of_cond (C := Try.checked) (s := Rows.OpenSpec.upto Rows.schedDoneSpec) (k := Rows.uptoSmall) rfl own started (by kernel_rfl) Try.func8
    (OpenSpec.witness (enc := enc) (C := Try.checked) (s := Rows.OpenSpec.upto Rows.schedDoneSpec) (k := Rows.uptoSmall) rfl false ⟨#[], #[.slice none 0 0, .slice none 0 0, .int .i64 0], []⟩ 8 (by kernel_rfl) (by kernel_rfl) (by kernel_rfl)
      (x := ([.nil, .nil, .lit (.int .i64 0)], [], [])) (by kernel_rfl) rfl (by kernel_rfl)) ?_
  intro W base args ds gs before hval hW _ hk _
  refine law_contract (spec := Rows.schedDoneSpec) (dep := 8) (tb := 4) sched_laid rfl rfl u4 ?_ (by kernel_rfl) (by kernel_rfl) hval hW ?_
  · intro ds hl
    match ds, hl with
    | [d1, d2, d3], _ => rfl
  · intro h as' hr _ _ hb
    exact walk (bulk_of hk) hr hb

theorem proved : Rows.SchedDoneUptoSaid :=
  OpenClaim.holds_of_cond 8 Try.f8 rfl rfl rfl rfl rfl rfl rfl ⟨rfl, rfl, rfl, rfl, rfl⟩ rfl rfl rfl rfl rfl (by kernel_rfl) Try.func8 (by kernel_rfl)
    (of_decide_eq_true (by kernel_rfl)) (by unfold Func.isWrapper; first | (rw [if_pos (by decide +kernel)]; kernel_rfl) | (rw [if_neg (by decide +kernel)]; exact ⟨rfl, rfl⟩))
    (fun os started H enc _ F => lifted os started H enc F)
#print axioms proved
end Go.Proofs.Ytehccakjdbapiaa.WorkDone
