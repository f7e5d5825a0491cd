/- The lifted walk of HealthWorst. -/
import Derived.Test.YtcfifjicjpncpaaGreatDoorHmHC0
import Derived.Test.YtcfifjicjpncpaaGreatDoorHmGRHWorst37
import Derived.Test.YtcfifjicjpncpaaGreatDoorHmGRHWorst36
import Derived.Lay
import Derived.ProofKit
import Derived.SevenTiedAt
import Derived.SizedLaws
set_option linter.all false
noncomputable section
namespace Go.Am
open Go.RowKit Go.Proofs

theorem laidOut_ok : laidOutB Tryz.prog = true := Go.Proofs.YtcfifjicjpncpaaGreatDoor.Facts.laidOut
theorem own_ok : ownKnob Tryz.prog.godebug = none := by kernel_rfl
theorem u56 : ∃ fs : Array Field, Tryz.prog.underlying 56 = some (.struct fs) ∧ fs.toList.map (·.type) = [9, 9, 9, 3, 9, 34, 34] := structIs_of (by kernel_rfl)
theorem u9 : Tryz.prog.underlying 9 = some .string := by kernel_rfl
theorem u34 : Tryz.prog.underlying 34 = some (.int .u64) := by kernel_rfl
theorem row_checks {H : Type} {h : Heap} : ∀ {es : List (DataW H)} {cs : List AV}, RepsRow Tryz.prog h es 56 cs → ∃ rows : List (List AV), cs = rows.flatten ∧ rows.length = es.length ∧ ∀ r ∈ rows, IsCheck r
  | [], cs, hr => by simp only [RepsRow] at hr; exact ⟨[], by simp [hr], rfl, by simp⟩
  | d :: es, cs, hr => by
    simp only [RepsRow] at hr
    obtain ⟨x, y, rfl, _, h1, h2⟩ := hr
    obtain ⟨fs, hu, hf⟩ := u56
    obtain ⟨ps, rfl, h3⟩ := reps_struct hu h1
    rw [hf] at h3
    obtain ⟨d1, ds, x1, y1, rfl, rfl, q1, h3⟩ := fields_cons h3
    obtain ⟨d2, ds, x2, y2, rfl, rfl, q2, h3⟩ := fields_cons h3
    obtain ⟨d3, ds, x3, y3, rfl, rfl, q3, h3⟩ := fields_cons h3
    obtain ⟨d4, ds, x4, y4, rfl, rfl, q4, h3⟩ := fields_cons h3
    obtain ⟨d5, ds, x5, y5, rfl, rfl, q5, h3⟩ := fields_cons h3
    obtain ⟨d6, ds, x6, y6, rfl, rfl, q6, h3⟩ := fields_cons h3
    obtain ⟨d7, ds, x7, y7, rfl, rfl, q7, h3⟩ := fields_cons h3
    obtain ⟨rfl, rfl⟩ := fields_nil h3
    obtain ⟨s1, _, rfl⟩ := reps_str u9 q1
    obtain ⟨s2, _, rfl⟩ := reps_str u9 q2
    obtain ⟨s3, _, rfl⟩ := reps_str u9 q3
    obtain ⟨n4, _, rfl, _⟩ := reps_int u3 q4
    obtain ⟨s5, _, rfl⟩ := reps_str u9 q5
    obtain ⟨n6, _, rfl, _⟩ := reps_int u34 q6
    obtain ⟨n7, _, rfl, _⟩ := reps_int u34 q7
    obtain ⟨rows, rfl, hl, hc⟩ := row_checks h2
    refine ⟨[.str s1, .str s2, .str s3, .int .i64 n4, .str s5, .int .u64 n6, .int .u64 n7] :: rows, by simp, by simp [hl], ?_⟩
    intro r hr
    rcases List.mem_cons.1 hr with rfl | hr
    · exact ⟨rfl, rfl, n4, rfl⟩
    · exact hc r hr
theorem slr_checks {H : Type} {h : Heap} {d : DataW H} {xs : List AV} (h2 : Reps Tryz.prog h d 22 xs) : ∃ v rows, xs = [v] ∧ Slr h 7 v rows ∧ (∀ r ∈ rows, IsCheck r) ∧ ((d = .nil ∧ rows = []) ∨ ∃ es sp, d = .slice es sp ∧ rows.length = es.length) := by
  rcases reps_slice u22 h2 with ⟨rfl, rfl⟩ | ⟨es, sp, i, cs, rfl, rfl, hg, hr⟩
  · exact ⟨_, [], rfl, ⟨by simp, rfl, rfl⟩, by simp, .inl ⟨rfl, rfl⟩⟩
  · obtain ⟨rows, rfl, hl, hc⟩ := row_checks hr
    have hall : ∀ r ∈ rows, r.length = 7 := fun r hr => (hc r hr).1
    have hfl := flatten_length hall
    refine ⟨_, rows, rfl, ⟨hall, hl, ?_⟩, hc, .inr ⟨es, sp, rfl, hl⟩⟩
    by_cases he : es = []
    · exact .inl (by simp [he])
    · refine .inr ⟨_, .ro, hg he, by simp only []; omega, ?_⟩
      rw [List.drop_zero, ← hl, ← hfl, List.take_length]
end Go.Am
namespace Go.Proofs.YtcfifjicjpncpaaGreatDoor.Worst
open Go.ChangeShapes Go.WideShapes Go.ChangeAt Go.RowKit Go.Am

theorem get0_ok : hHeap.get 0 = some kindsO := by
  show (T16.put .leaf 0 (some kindsO)).get 0 = _
  exact T16.get_put _ _ _
set_option maxRecDepth 100000 in
theorem walk {H : Type} {h : Heap} {ds : List (DataW H)} {as' : List AV} (hk : (DataW.weightsEach Tryz.prog [22] ds).all (· ≤ reachBytes) = true) (hr : RepsArgs Tryz.prog h ds [22] as') (hx : Ext hHeap h) (hb : ∀ i, h.next ≤ i → h.get i = none) : ∃ h', CallOk Tryz.prog 3 as' h (.ret (.bool true) h') := by
  obtain ⟨d1, ds, a1, as', rfl, rfl, ⟨xs, r0, r1⟩, hr⟩ := repsArgs_cons hr
  obtain ⟨rfl, rfl⟩ := repsArgs_nil hr
  unfold ArgIs at r0
  rw [u22] at r0
  simp only at r0
  subst r0
  obtain ⟨v, rows, hv, hs, hc, hd⟩ := slr_checks r1
  cases hv
  have hn : rows.length * 88 ≤ 140737488355328 := by
    rcases hd with ⟨_, rfl⟩ | ⟨es, sp, rfl, hl⟩
    · simp
    · have h1 := sized_slice hk (j := 0) (t := 22) (e := 56) rfl rfl u22
      have h2 : Tryz.prog.bytesOf 56 = 88 := by kernel_rfl
      have h3 : reachBytes ≤ 140737488355328 := by decide
      rw [h2] at h1
      rw [hl]
      have : es.length * 88 ≤ (es.length + sp.length) * 88 := Nat.mul_le_mul_right _ (by omega)
      omega
  have h0 : h.get 0 = some kindsO := hx.2 0 kindsO get0_ok
  obtain ⟨h', hcall⟩ := worst_law (ov := ovAlive) (fun h hk => ovAlive_self hk) (ovAlive_ne rfl) (ovAlive_ne rfl) (ovAlive_ne rfl) (wf_of hb) h0 hs hc hn
  exact ⟨h', callT_ok ovAlive Tryz.prog fns_ok mixed_ok ovAlive_ok _ _ _ _ hcall⟩

set_option maxRecDepth 100000 in
theorem lifted (os : Os) (started : os.Started) (H : Type) (enc : TypeId × Value → H) :
    ReturnsInHanded {} Tryz.checked os 3 .any (fun w args => (Rows.healthWorstSpec.pre enc Tryz.prog Tryz.f3 [] false w args ∧ laidMetH Tryz.prog Rows.healthWorstRow.laid w) ∧ sizedMet enc Tryz.prog Tryz.f3 (OpenSpec.ofChange Rows.healthWorstSpec) false w args)
      (Rows.healthWorstSpec.post enc Tryz.prog Tryz.f3 false true false false) := by
  refine returnsInHanded_of_change_and (C := Tryz.checked) (X := fun w _ => laidMetH Tryz.prog Rows.healthWorstRow.laid w) (fun _ _ _ hh h => h.of_heap hh) own_ok started (by kernel_rfl) Tryz.func3
    (ChangeSpec.witness_shaped (enc := enc) (C := Tryz.checked) (os := os) (X := fun w _ => laidMetH Tryz.prog Rows.healthWorstRow.laid w) false (World.laidAll Tryz.prog os Rows.healthWorstRow.laid) #[.slice none 0 0] 8 (World.laidAll_os _ _ _)
      (World.shaped_of_ZipB (by kernel_rfl) (by kernel_rfl)) (by kernel_rfl) (by kernel_rfl) (by kernel_rfl)
      (by rw [MakeChecks.laidMetH_plain _ _ _ (by kernel_rfl)]; exact laidMet_laidAll _ (by kernel_rfl) (by kernel_rfl))) ?_
  intro W base args ds gs before hval hW _ hsz hL _
  rw [MakeChecks.laidMetH_plain _ _ _ (by kernel_rfl)] at hL
  obtain ⟨φ, hR0⟩ := laid_kinds (l := Rows.healthWorstRow.laid) (by simp [Rows.healthWorstRow]) hL
  refine law_contract_at (spec := Rows.healthWorstSpec) (dep := 8) (tb := 4) laidOut_ok fns_ok (by kernel_rfl) rfl rfl rfl u4 ?_ (by kernel_rfl) (by kernel_rfl) hR0 hHeap_noOwn hval hW ?_
  · intro ds hl
    match ds, hl with
    | [d1], _ => rfl
  · intro h as' hr hx hb
    refine walk ?_ hr hx hb
    have hgs : gs = [] := by
      obtain ⟨p, q, hA, hV, _⟩ := hW
      exact (trodVars_none hV).1
    subst hgs
    have h2 := hsz
    rw [List.append_nil] at h2
    exact h2

end Go.Proofs.YtcfifjicjpncpaaGreatDoor.Worst
