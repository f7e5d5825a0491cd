/- 'musterlaw02.WatchNames' returns true. No condition beyond the row's own. -/
import Derived.Test.YtobgmjljbdehnaaAmWCommon
namespace Go.Proofs.Ytobgmjljbdehnaa.Names
open Go.ChangeShapes Go.WideShapes Go.ChangeAt Go.RowKit Go.Am
theorem walk {H : Type} {h : Heap} {ds : List (DataW H)} {as' : List AV} (hr : RepsArgs Try.prog h ds [] as') (hb : ∀ i, h.next ≤ i → h.get i = none) : ∃ h', CallOk Try.prog 3 as' h (.ret (.bool true) h') := by
  obtain ⟨rfl, rfl⟩ := repsArgs_nil hr
  obtain ⟨h', hc⟩ := names_ok (wf_of hb)
  exact ⟨h', calls_ok _ _ _ _ hc⟩

set_option maxRecDepth 100000 in
theorem lifted (os : Os) (started : os.Started) (H : Type) (enc : TypeId × Value → H) (F : Stop.Interp) :
    ReturnsInLeavingWide { calm := true } Try.checked os 3 .any (Rows.watchNamesSpec.pre6 enc Try.prog Try.f3 Rows.watchNamesRow.domain false) ((OpenSpec.ofChange Rows.watchNamesSpec).postWith enc Try.prog Try.f3 F (outsideKept [.timePasses]) false true false) := by
  refine leaving_of_handed (handed_time (C := Try.checked) own started (by kernel_rfl) Try.func3
    (ChangeSpec.witness6c (enc := enc) (C := Try.checked) ⟨#[], #[], []⟩ 8 (by kernel_rfl) (by kernel_rfl) (by kernel_rfl) (by kernel_rfl)) ?_)
  intro W base args ds gs before hval0 hW hcnd _
  refine law_contract (dep := 8) (tb := 4) watch_laid fns_ok (by kernel_rfl) rfl rfl rfl u4 ?_ (by kernel_rfl) (by kernel_rfl) hval0 hW ?_
  · intro ds hl
    match ds, hl with
    | [], _ => rfl
  · intro h as' hr _ _ hb
    exact walk hr hb

theorem proved : Rows.WatchNamesSaid :=
  OpenClaim.holds_of_wide_leaving_time 3 Try.f3 rfl rfl rfl rfl rfl rfl rfl ⟨rfl, rfl, rfl, rfl, rfl⟩ rfl rfl rfl rfl rfl (by kernel_rfl) Try.func3 (by kernel_rfl)
    (of_decide_eq_true (by kernel_rfl)) (by unfold Func.isWrapper; first | (rw [if_pos (by decide +kernel)]; kernel_rfl) | (rw [if_neg (by decide +kernel)]; exact ⟨rfl, rfl⟩))
    (fun os started H enc _ F => lifted os started H enc F)
#print axioms proved
end Go.Proofs.Ytobgmjljbdehnaa.Names
