/- The lifted walk of BlockingNames. -/
import Derived.Test.YteoekjfgihnhaaaGreatDoorHmBC0
import Derived.Test.YteoekjfgihnhaaaGreatDoorHmGRB34
import Derived.Test.YteoekjfgihnhaaaGreatDoorHmBAlive
import Derived.Test.YteoekjfgihnhaaaGreatDoorHmGRB28
import Derived.Test.YteoekjfgihnhaaaGreatDoorHmGRB20
import Derived.Lay
import Derived.ProofKit
import Derived.SevenTiedAt
import Derived.SizedLaws
set_option linter.all false
noncomputable section
namespace Go.Am
open Go.RowKit Go.Proofs

theorem laidOut_ok : laidOutB Tryz.prog = true := Go.Proofs.YteoekjfgihnhaaaGreatDoor.Facts.laidOut
theorem own_ok : ownKnob Tryz.prog.godebug = none := by kernel_rfl
end Go.Am
namespace Go.Proofs.YteoekjfgihnhaaaGreatDoor.BNames
open Go.ChangeShapes Go.WideShapes Go.ChangeAt Go.RowKit Go.Am

theorem u4 : Tryz.prog.underlying 4 = some .bool := by kernel_rfl
theorem get0_ok : hHeap.get 1 = some kindsO := by
  show (T16.put .leaf 1 (some kindsO)).get 1 = _
  exact T16.get_put _ _ _
theorem blt9 : Nat.blt 9 Tryz.prog.funcs.size = true := by kernel_rfl
set_option maxRecDepth 100000 in
theorem names_law {h : Heap} (h0 : h.get 1 = some kindsO) : ∃ h', callT ovAlive Tryz.prog 4 [] h = some (.ret (.bool true) h') := by
  have main : ∃ u g, callT ovAlive Tryz.prog 4 [] h = some (.ret u g) ∧ u = .bool true := by
    refine callT_wp (fn := Tryz.f4) (ovAlive_ne rfl _ _) (by kernel_rfl) rfl ?_
    have hl : (frameA Tryz.f4 []).length = 22 := frameA_length (Nat.le_of_ble_eq_true rfl)
    generalize frameA Tryz.f4 [] = e at hl
    have c9 : callT ovAlive Tryz.prog 9 [] h = some (.ret (.bool true) h) := callT_ov _ _ (ovAlive_self h0)
    apply WP.seq; apply WP.region; simp [hl]
    repeat apply WP.seq
    apply WP.region; simp [hl, callA_eq, blt9, c9]
    apply WP.ret
    simp [hl, resultsA, resultA, single]
  obtain ⟨_, g, h1, rfl⟩ := main
  exact ⟨g, h1⟩
set_option maxRecDepth 100000 in
theorem walk {H : Type} {h : Heap} {ds : List (DataW H)} {as' : List AV} (hr : RepsArgs Tryz.prog h ds [] as') (hx : Ext hHeap h) : ∃ h', CallOk Tryz.prog 4 as' h (.ret (.bool true) h') := by
  obtain ⟨rfl, rfl⟩ := repsArgs_nil hr
  obtain ⟨h', hcall⟩ := names_law (hx.2 1 kindsO get0_ok)
  exact ⟨h', callT_ok ovAlive Tryz.prog fns_ok mixed_ok ovAlive_ok _ _ _ _ hcall⟩

set_option maxRecDepth 100000 in
theorem lifted (os : Os) (started : os.Started) (H : Type) (enc : TypeId × Value → H) :
    ReturnsInHanded {} Tryz.checked os 4 .any (fun w args => (Rows.blockingNamesSpec.pre enc Tryz.prog Tryz.f4 [] false w args ∧ laidMetH Tryz.prog Rows.blockingNamesRow.laid w) ∧ sizedMet enc Tryz.prog Tryz.f4 (OpenSpec.ofChange Rows.blockingNamesSpec) false w args)
      (Rows.blockingNamesSpec.post enc Tryz.prog Tryz.f4 false true false false) := by
  refine returnsInHanded_of_change_and (C := Tryz.checked) (X := fun w _ => laidMetH Tryz.prog Rows.blockingNamesRow.laid w) (fun _ _ _ hh h => h.of_heap hh) own_ok started (by kernel_rfl) Tryz.func4
    (ChangeSpec.witness_shaped (enc := enc) (C := Tryz.checked) (os := os) (X := fun w _ => laidMetH Tryz.prog Rows.blockingNamesRow.laid w) false (World.laidAll Tryz.prog os Rows.blockingNamesRow.laid) #[] 8 (World.laidAll_os _ _ _)
      (World.shaped_of_ZipB (by kernel_rfl) (by kernel_rfl)) (by kernel_rfl) (by kernel_rfl) (by kernel_rfl)
      (by rw [MakeChecks.laidMetH_plain _ _ _ (by kernel_rfl)]; exact laidMet_laidAll _ (by kernel_rfl) (by kernel_rfl))) ?_
  intro W base args ds gs before hval hW _ hsz hL _
  rw [MakeChecks.laidMetH_plain _ _ _ (by kernel_rfl)] at hL
  obtain ⟨φ, hR0⟩ := laid_kinds (l := Rows.blockingNamesRow.laid) (by simp [Rows.blockingNamesRow]) hL
  refine law_contract_at (spec := Rows.blockingNamesSpec) (dep := 8) (tb := 4) laidOut_ok fns_ok (by kernel_rfl) rfl rfl rfl u4 ?_ (by kernel_rfl) (by kernel_rfl) hR0 hHeap_noOwn hval hW ?_
  · intro ds hl
    match ds, hl with
    | [], _ => rfl
  · intro h as' hr hx hb
    exact walk hr hx

end Go.Proofs.YteoekjfgihnhaaaGreatDoor.BNames
