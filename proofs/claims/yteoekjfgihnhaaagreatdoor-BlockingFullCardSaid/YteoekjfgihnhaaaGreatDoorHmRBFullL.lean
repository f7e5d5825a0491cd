/- The lifted walk of BlockingFull. -/
import Derived.Test.YteoekjfgihnhaaaGreatDoorHmBC0
import Derived.Test.YteoekjfgihnhaaaGreatDoorHmGRF32
import Derived.Test.YteoekjfgihnhaaaGreatDoorHmFDone
import Derived.Test.YteoekjfgihnhaaaGreatDoorHmGRF21
import Derived.Lay
import Derived.ProofKit
import Derived.SevenTiedAt
import Derived.SizedLaws
set_option linter.all false
noncomputable section
namespace Go.Am
open Go.RowKit Go.Proofs

theorem laidOut_ok : laidOutB Tryz.prog = true := Go.Proofs.YteoekjfgihnhaaaGreatDoor.Facts.laidOut
theorem own_ok : ownKnob Tryz.prog.godebug = none := by kernel_rfl
theorem u3' : Tryz.prog.underlying 3 = some (.int .i64) := by kernel_rfl
end Go.Am
namespace Go.Proofs.YteoekjfgihnhaaaGreatDoor.BFull
open Go.ChangeShapes Go.WideShapes Go.ChangeAt Go.RowKit Go.Am

theorem u4 : Tryz.prog.underlying 4 = some .bool := by kernel_rfl
theorem get0_ok : fHeap.get 0 = some errO := by
  show (T16.put (T16.put .leaf 0 (some errO)) 1 (some kindsO)).get 0 = _
  rw [T16.get_put_ne _ (by omega), T16.get_put]
theorem get1_ok : fHeap.get 1 = some kindsO := by
  show (T16.put (T16.put .leaf 0 (some errO)) 1 (some kindsO)).get 1 = _
  exact T16.get_put _ _ _
set_option maxRecDepth 100000 in
theorem walk {H : Type} {h : Heap} {ds : List (DataW H)} {as' : List AV} (hr : RepsArgs Tryz.prog h ds [3, 3] as') (hx : Ext fHeap h) : ∃ h', CallOk Tryz.prog 5 as' h (.ret (.bool true) h') := by
  obtain ⟨d1, ds, a1, as', rfl, rfl, r1, hr⟩ := repsArgs_cons hr
  obtain ⟨d2, ds, a2, as', rfl, rfl, r2, hr⟩ := repsArgs_cons hr
  obtain ⟨rfl, rfl⟩ := repsArgs_nil hr
  obtain ⟨n1, rfl, _⟩ := arg_int u3' r1
  obtain ⟨n2, rfl, _⟩ := arg_int u3' r2
  exact ⟨h, full_call fDone (hx.2 1 kindsO get1_ok) (hx.2 0 errO get0_ok)⟩

set_option maxRecDepth 100000 in
theorem lifted (os : Os) (started : os.Started) (H : Type) (enc : TypeId × Value → H) :
    ReturnsInHanded {} Tryz.checked os 5 .any (fun w args => (Rows.blockingFullSpec.pre enc Tryz.prog Tryz.f5 [] false w args ∧ laidMetH Tryz.prog Rows.blockingFullRow.laid w) ∧ sizedMet enc Tryz.prog Tryz.f5 (OpenSpec.ofChange Rows.blockingFullSpec) false w args)
      (Rows.blockingFullSpec.post enc Tryz.prog Tryz.f5 false true false false) := by
  refine returnsInHanded_of_change_and (C := Tryz.checked) (X := fun w _ => laidMetH Tryz.prog Rows.blockingFullRow.laid w) (fun _ _ _ hh h => h.of_heap hh) own_ok started (by kernel_rfl) Tryz.func5
    (ChangeSpec.witness_shaped (enc := enc) (C := Tryz.checked) (os := os) (X := fun w _ => laidMetH Tryz.prog Rows.blockingFullRow.laid w) false (World.laidAll Tryz.prog os Rows.blockingFullRow.laid) #[.int .i64 0, .int .i64 0] 8 (World.laidAll_os _ _ _)
      (World.shaped_of_ZipB (by kernel_rfl) (by kernel_rfl)) (by kernel_rfl) (by kernel_rfl) (by kernel_rfl)
      (by rw [MakeChecks.laidMetH_plain _ _ _ (by kernel_rfl)]; exact laidMet_laidAll _ (by kernel_rfl) (by kernel_rfl))) ?_
  intro W base args ds gs before hval hW _ hsz hL _
  rw [MakeChecks.laidMetH_plain _ _ _ (by kernel_rfl)] at hL
  obtain ⟨φ, hR0⟩ := laid_full (l := Rows.blockingFullRow.laid) (d := .agg [.lit (.string [102, 117, 108, 108])]) (by simp [Rows.blockingFullRow]) (by simp [Rows.blockingFullRow, Rows.laid_muster_api_ErrFull]) hL
  refine law_contract_at (spec := Rows.blockingFullSpec) (dep := 8) (tb := 4) laidOut_ok fns_ok (by kernel_rfl) rfl rfl rfl u4 ?_ (by kernel_rfl) (by kernel_rfl) hR0 fHeap_noOwn hval hW ?_
  · intro ds hl
    match ds, hl with
    | [d1, d2], _ => rfl
  · intro h as' hr hx hb
    exact walk hr hx

end Go.Proofs.YteoekjfgihnhaaaGreatDoor.BFull
