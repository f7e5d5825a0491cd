/- The lifted walk of HealthNames. -/
import Derived.Test.YtcfifjicjpncpaaGreatDoorHmHC0
import Derived.Test.YtcfifjicjpncpaaGreatDoorHmGRHWorst37
import Derived.Test.YtcfifjicjpncpaaGreatDoorHmHNames
import Derived.Lay
import Derived.ProofKit
import Derived.SevenTiedAt
import Derived.SizedLaws
set_option linter.all false
noncomputable section
namespace Go.Am
open Go.RowKit Go.Proofs

theorem laidOut_ok : laidOutB Tryz.prog = true := Go.Proofs.YtcfifjicjpncpaaGreatDoor.Facts.laidOut
theorem own_ok : ownKnob Tryz.prog.godebug = none := by kernel_rfl
end Go.Am
namespace Go.Proofs.YtcfifjicjpncpaaGreatDoor.Names
open Go.ChangeShapes Go.WideShapes Go.ChangeAt Go.RowKit Go.Am

theorem get0_ok : hHeap.get 0 = some kindsO := by
  show (T16.put .leaf 0 (some kindsO)).get 0 = _
  exact T16.get_put _ _ _
set_option maxRecDepth 100000 in
theorem walk {H : Type} {h : Heap} {ds : List (DataW H)} {as' : List AV} (hr : RepsArgs Tryz.prog h ds [3] as') (hx : Ext hHeap h) (hb : ∀ i, h.next ≤ i → h.get i = none) : ∃ h', CallOk Tryz.prog 4 as' h (.ret (.bool true) h') := by
  obtain ⟨d1, ds, a1, as', rfl, rfl, ⟨xs, r0, r1⟩, hr⟩ := repsArgs_cons hr
  obtain ⟨rfl, rfl⟩ := repsArgs_nil hr
  unfold ArgIs at r0
  rw [u3] at r0
  simp only at r0
  subst r0
  obtain ⟨k, _, hv, _⟩ := reps_int u3 r1
  cases hv
  have h0 : h.get 0 = some kindsO := hx.2 0 kindsO get0_ok
  obtain ⟨h', hcall⟩ := names_law (ov := ovAlive) (fun h hk => ovAlive_self hk) (ovAlive_ne rfl) (ovAlive_ne rfl) (ovAlive_ne rfl) (wf_of hb) h0 k
  exact ⟨h', callT_ok ovAlive Tryz.prog fns_ok mixed_ok ovAlive_ok _ _ _ _ hcall⟩

set_option maxRecDepth 100000 in
theorem lifted (os : Os) (started : os.Started) (H : Type) (enc : TypeId × Value → H) :
    ReturnsInHanded {} Tryz.checked os 4 .any (fun w args => (Rows.healthNamesSpec.pre enc Tryz.prog Tryz.f4 [] false w args ∧ laidMetH Tryz.prog Rows.healthNamesRow.laid w) ∧ sizedMet enc Tryz.prog Tryz.f4 (OpenSpec.ofChange Rows.healthNamesSpec) false w args)
      (Rows.healthNamesSpec.post enc Tryz.prog Tryz.f4 false true false false) := by
  refine returnsInHanded_of_change_and (C := Tryz.checked) (X := fun w _ => laidMetH Tryz.prog Rows.healthNamesRow.laid w) (fun _ _ _ hh h => h.of_heap hh) own_ok started (by kernel_rfl) Tryz.func4
    (ChangeSpec.witness_shaped (enc := enc) (C := Tryz.checked) (os := os) (X := fun w _ => laidMetH Tryz.prog Rows.healthNamesRow.laid w) false (World.laidAll Tryz.prog os Rows.healthNamesRow.laid) #[.int .i64 0] 8 (World.laidAll_os _ _ _)
      (World.shaped_of_ZipB (by kernel_rfl) (by kernel_rfl)) (by kernel_rfl) (by kernel_rfl) (by kernel_rfl)
      (by rw [MakeChecks.laidMetH_plain _ _ _ (by kernel_rfl)]; exact laidMet_laidAll _ (by kernel_rfl) (by kernel_rfl))) ?_
  intro W base args ds gs before hval hW _ hsz hL _
  rw [MakeChecks.laidMetH_plain _ _ _ (by kernel_rfl)] at hL
  obtain ⟨φ, hR0⟩ := laid_kinds (l := Rows.healthNamesRow.laid) (by simp [Rows.healthNamesRow]) hL
  refine law_contract_at (spec := Rows.healthNamesSpec) (dep := 8) (tb := 4) laidOut_ok fns_ok (by kernel_rfl) rfl rfl rfl u4 ?_ (by kernel_rfl) (by kernel_rfl) hR0 hHeap_noOwn hval hW ?_
  · intro ds hl
    match ds, hl with
    | [d1], _ => rfl
  · intro h as' hr hx hb
    exact walk hr hx hb

end Go.Proofs.YtcfifjicjpncpaaGreatDoor.Names
