/- The lifted walk of NamesLooks. -/
import Derived.Test.YteoekjfgihnhaaaGreatDoorHmBC0
import Derived.Test.YteoekjfgihnhaaaGreatDoorHmGRB34
import Derived.Test.YteoekjfgihnhaaaGreatDoorHmNAlive
import Derived.Test.YteoekjfgihnhaaaGreatDoorHmNLook
import Derived.Test.YteoekjfgihnhaaaGreatDoorHmGRB28
import Derived.Lay
import Derived.ProofKit
import Derived.SevenTiedAt
import Derived.SizedLaws
set_option linter.all false
noncomputable section
namespace Go.Am
open Go.RowKit Go.Proofs

theorem laidOut_ok : laidOutB Tryz.prog = true := Go.Proofs.YteoekjfgihnhaaaGreatDoor.Facts.laidOut
theorem own_ok : ownKnob Tryz.prog.godebug = none := by kernel_rfl
theorem u4 : Tryz.prog.underlying 4 = some .bool := by kernel_rfl
theorem row_strs {H : Type} {h : Heap} : ∀ {es : List (DataW H)} {cs : List AV}, RepsRow Tryz.prog h es 9 cs → ∃ ls : List Str, cs = strsA ls ∧ es = ls.map fun s => .lit (.string s)
  | [], cs, hr => by simp only [RepsRow] at hr; exact ⟨[], by simp [hr, strsA], rfl⟩
  | d :: es, cs, hr => by
    simp only [RepsRow] at hr
    obtain ⟨x, y, rfl, _, h1, h2⟩ := hr
    obtain ⟨s, rfl, rfl⟩ := reps_str u9 h1
    obtain ⟨ls, rfl, rfl⟩ := row_strs h2
    exact ⟨s :: ls, rfl, rfl⟩
theorem sl_strs {H : Type} {h : Heap} {d : DataW H} {xs : List AV} (h2 : Reps Tryz.prog h d 22 xs) : ∃ v ls, xs = [v] ∧ Sl h v (strsA ls) ∧ ((d = .nil ∧ ls = []) ∨ ∃ sp, d = .slice (ls.map fun s => .lit (.string s)) sp) := by
  rcases reps_slice u22 h2 with ⟨rfl, rfl⟩ | ⟨es, sp, i, cs, rfl, rfl, hg, hr⟩
  · exact ⟨_, [], rfl, ⟨rfl, rfl⟩, .inl ⟨rfl, rfl⟩⟩
  · obtain ⟨ls, rfl, rfl⟩ := row_strs hr
    refine ⟨_, ls, rfl, ⟨⟨by simp [strsA], trivial⟩, ?_⟩, .inr ⟨sp, rfl⟩⟩
    by_cases he : ls = []
    · exact .inl (by simp [he])
    · exact .inr ⟨strsA ls, .ro, hg (by simpa using he), by simp [strsA], by
        simp [strsA]
        exact List.take_of_length_le (by simp)⟩
theorem weights_mem {H : Type} {P : Program} : ∀ {ls : List Str} {s : Str}, s ∈ ls → s.length ∈ DataW.weightsAll P 9 (ls.map fun s => (.lit (.string s) : DataW H))
  | a :: ls, s, hs => by
    simp only [List.map_cons, DataW.weightsAll, DataW.weights, List.mem_append, List.mem_singleton]
    rcases List.mem_cons.1 hs with rfl | hs
    · exact .inl rfl
    · exact .inr (weights_mem hs)
end Go.Am
namespace Go.Proofs.YteoekjfgihnhaaaGreatDoor.NLooks
open Go.ChangeShapes Go.WideShapes Go.ChangeAt Go.RowKit Go.Am

theorem get0_ok : hHeap.get 1 = some kindsO := by
  show (T16.put .leaf 1 (some kindsO)).get 1 = _
  exact T16.get_put _ _ _
set_option maxRecDepth 100000 in
theorem walk {H : Type} {h : Heap} {ds : List (DataW H)} {as' : List AV} (hk : (DataW.weightsEach Tryz.prog [22] ds).all (· ≤ reachBytes) = true) (hr : RepsArgs Tryz.prog h ds [22] as') (hx : Ext hHeap h) (hb : ∀ i, h.next ≤ i → h.get i = none) : ∃ h', CallOk Tryz.prog 3 as' h (.ret (.bool true) h') := by
  obtain ⟨d1, ds, a1, as', rfl, rfl, ⟨xs, r0, r1⟩, hr⟩ := repsArgs_cons hr
  obtain ⟨rfl, rfl⟩ := repsArgs_nil hr
  unfold ArgIs at r0
  rw [u22] at r0
  simp only at r0
  subst r0
  obtain ⟨v, ls, hv, hs, hd⟩ := sl_strs r1
  cases hv
  have hreach : reachBytes ≤ 140737488355328 := by decide
  have hn : ls.length * 16 ≤ 140737488355328 ∧ ∀ s ∈ ls, s.length ≤ 140737488355328 := by
    rcases hd with ⟨_, rfl⟩ | ⟨sp, rfl⟩
    · simp
    · constructor
      · have h1 := sized_slice hk (j := 0) (t := 22) (e := 9) rfl rfl u22
        have h2 : Tryz.prog.bytesOf 9 = 16 := by kernel_rfl
        rw [h2, List.length_map] at h1
        have : ls.length * 16 ≤ (ls.length + sp.length) * 16 := Nat.mul_le_mul_right _ (by omega)
        omega
      · intro s hs
        have hm : s.length ∈ DataW.weightsEach Tryz.prog [22] [(.slice (ls.map fun s => .lit (.string s)) sp : DataW H)] := by
          simp only [DataW.weightsEach, DataW.weights, u22, List.mem_append, List.mem_cons]
          exact .inl (.inr (.inl (weights_mem hs)))
        have := List.all_eq_true.1 hk _ hm
        have := of_decide_eq_true this
        omega
  have h0 : h.get 1 = some kindsO := hx.2 1 kindsO get0_ok
  have hno : ∀ f, f ≠ 6 → ∀ a h, ovAlive f a h = none := fun f hf a h => ovAlive_ne (by cases hb : Nat.beq f 6 with | false => rfl | true => exact absurd (Nat.eq_of_beq_eq_true hb) hf) a h
  obtain ⟨h', hcall⟩ := looks_law (ov := ovAlive) (fun h hk => ovAlive_self hk) hno (wf_of hb) h0 hs hn.1 hn.2
  exact ⟨h', callT_ok ovAlive Tryz.prog fns_ok mixed_ok ovAlive_ok _ _ _ _ hcall⟩

set_option maxRecDepth 100000 in
theorem lifted (os : Os) (started : os.Started) (H : Type) (enc : TypeId × Value → H) :
    ReturnsInHanded {} Tryz.checked os 3 .any (fun w args => (Rows.namesLooksSpec.pre enc Tryz.prog Tryz.f3 [] false w args ∧ laidMetH Tryz.prog Rows.namesLooksRow.laid w) ∧ sizedMet enc Tryz.prog Tryz.f3 (OpenSpec.ofChange Rows.namesLooksSpec) false w args)
      (Rows.namesLooksSpec.post enc Tryz.prog Tryz.f3 false true false false) := by
  refine returnsInHanded_of_change_and (C := Tryz.checked) (X := fun w _ => laidMetH Tryz.prog Rows.namesLooksRow.laid w) (fun _ _ _ hh h => h.of_heap hh) own_ok started (by kernel_rfl) Tryz.func3
    (ChangeSpec.witness_shaped (enc := enc) (C := Tryz.checked) (os := os) (X := fun w _ => laidMetH Tryz.prog Rows.namesLooksRow.laid w) false (World.laidAll Tryz.prog os Rows.namesLooksRow.laid) #[.slice none 0 0] 8 (World.laidAll_os _ _ _)
      (World.shaped_of_ZipB (by kernel_rfl) (by kernel_rfl)) (by kernel_rfl) (by kernel_rfl) (by kernel_rfl)
      (by rw [MakeChecks.laidMetH_plain _ _ _ (by kernel_rfl)]; exact laidMet_laidAll _ (by kernel_rfl) (by kernel_rfl))) ?_
  intro W base args ds gs before hval hW _ hsz hL _
  rw [MakeChecks.laidMetH_plain _ _ _ (by kernel_rfl)] at hL
  obtain ⟨φ, hR0⟩ := laid_kinds (l := Rows.namesLooksRow.laid) (by simp [Rows.namesLooksRow]) hL
  refine law_contract_at (spec := Rows.namesLooksSpec) (dep := 8) (tb := 4) laidOut_ok fns_ok (by kernel_rfl) rfl rfl rfl u4 ?_ (by kernel_rfl) (by kernel_rfl) hR0 hHeap_noOwn hval hW ?_
  · intro ds hl
    match ds, hl with
    | [d1], _ => rfl
  · intro h as' hr hx hb
    refine walk ?_ hr hx hb
    have hgs : gs = [] := by
      obtain ⟨p, q, hA, hV, _⟩ := hW
      exact (trodVars_none hV).1
    subst hgs
    have h2 := hsz
    rw [List.append_nil] at h2
    exact h2

end Go.Proofs.YteoekjfgihnhaaaGreatDoor.NLooks
