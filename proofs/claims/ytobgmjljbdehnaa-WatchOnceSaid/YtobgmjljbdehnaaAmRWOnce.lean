/- 'musterlaw02.WatchOnce' returns true for every input, and its argument reads behind the call as it read before. No condition beyond the row's own. -/
import Derived.Test.YtobgmjljbdehnaaAmWCommon
namespace Go.Proofs.Ytobgmjljbdehnaa.Once
open Go.ChangeShapes Go.WideShapes Go.ChangeAt Go.RowKit Go.Am
theorem walk {H : Type} {h : Heap} {ds : List (DataW H)} {as' : List AV} (hr : RepsArgs Try.prog h ds [23] as') (hb : ∀ i, h.next ≤ i → h.get i = none) : ∃ h', CallOk Try.prog 4 as' h (.ret (.bool true) h') := by
  obtain ⟨d1, ds, a1, as', rfl, rfl, r1, hr⟩ := repsArgs_cons hr
  obtain ⟨rfl, rfl⟩ := repsArgs_nil hr
  obtain ⟨bs, hs, hl⟩ := arg_bools r1
  obtain ⟨h', hc⟩ := once_ok (wf_of hb) hs (hl _ rfl)
  exact ⟨h', calls_ok _ _ _ _ hc⟩

set_option maxRecDepth 100000 in
theorem lifted (os : Os) (started : os.Started) (H : Type) (enc : TypeId × Value → H) (F : Stop.Interp) :
    ReturnsInLeavingWide { calm := true } Try.checked os 4 .any (Rows.watchOnceSpec.pre6 enc Try.prog Try.f4 Rows.watchOnceRow.domain false) ((OpenSpec.ofChange Rows.watchOnceSpec).postWith enc Try.prog Try.f4 F (outsideKept [.timePasses]) false true false) := by
  refine leaving_of_handed (handed_time (C := Try.checked) own started (by kernel_rfl) Try.func4
    (ChangeSpec.witness6c (enc := enc) (C := Try.checked) ⟨#[], #[.slice none 0 0], []⟩ 8 (by kernel_rfl) (by kernel_rfl) (by kernel_rfl) (by kernel_rfl)) ?_)
  intro W base args ds gs before hval0 hW hcnd _
  refine law_contract (dep := 8) (tb := 4) watch_laid fns_ok (by kernel_rfl) rfl rfl rfl u4 ?_ (by kernel_rfl) (by kernel_rfl) hval0 hW ?_
  · intro ds hl
    match ds, hl with
    | [d1], _ => rfl
  · intro h as' hr _ _ hb
    exact walk hr hb

theorem proved : Rows.WatchOnceSaid :=
  OpenClaim.holds_of_wide_leaving_time 4 Try.f4 rfl rfl rfl rfl rfl rfl rfl ⟨rfl, rfl, rfl, rfl, rfl⟩ rfl rfl rfl rfl rfl (by kernel_rfl) Try.func4 (by kernel_rfl)
    (of_decide_eq_true (by kernel_rfl)) (by unfold Func.isWrapper; first | (rw [if_pos (by decide +kernel)]; kernel_rfl) | (rw [if_neg (by decide +kernel)]; exact ⟨rfl, rfl⟩))
    (fun os started H enc _ F => lifted os started H enc F)
#print axioms proved
end Go.Proofs.Ytobgmjljbdehnaa.Once
