/- 'musterlaw17.SchedTurns' returns true for every input, and each argument reads behind the call as it read before. No condition beyond the row's own. -/
import Derived.Test.YtehccakjdbapiaaAmSTurns
import Derived.Test.YtehccakjdbapiaaRows
import Derived.ProofKit
import Derived.OpenShut
namespace Go.Am
open Go.RowKit Go.Proofs

theorem sched_laid : laidOutB Try.prog = true := by kernel_rfl
theorem ovTrue_sched : OvOk (ovTrue 10) where
  o11 := ovTrue_ne rfl
  o14 := ovTrue_ne rfl
  o25 := ovTrue_ne rfl
  o27 := ovTrue_ne rfl
  o28 := ovTrue_ne rfl
  o29 := ovTrue_ne rfl
  o30 := ovTrue_ne rfl
  o10 := fun _ => ovTrue_self

theorem repsArgs_cons {H : Type} {P : Program} {h : Heap} {ds : List (DataW H)} {t : TypeId} {ts : List TypeId} {as' : List AV} (hr : RepsArgs P h ds (t :: ts) as') :
    ∃ d ds' a as'', ds = d :: ds' ∧ as' = a :: as'' ∧ (∃ xs, ArgIs P t a xs ∧ Reps P h d t xs) ∧ RepsArgs P h ds' ts as'' := by
  match ds, as', hr with
  | [], [], hr => simp [RepsArgs] at hr
  | [], _ :: _, hr => simp [RepsArgs] at hr
  | _ :: _, [], hr => simp [RepsArgs] at hr
  | d :: ds, a :: as', hr =>
    simp only [RepsArgs] at hr
    exact ⟨d, ds, a, as', rfl, rfl, hr.1, hr.2⟩
theorem repsArgs_nil {H : Type} {P : Program} {h : Heap} {ds : List (DataW H)} {as' : List AV} (hr : RepsArgs P h ds [] as') : ds = [] ∧ as' = [] := by
  match ds, as', hr with
  | [], [], hr => exact ⟨rfl, rfl⟩
  | [], _ :: _, hr => simp [RepsArgs] at hr
  | _ :: _, [], hr => simp [RepsArgs] at hr
  | _ :: _, _ :: _, hr => simp [RepsArgs] at hr
/-- An integer argument. -/
theorem arg_int {H : Type} {P : Program} {h : Heap} {d : DataW H} {t : TypeId} {a : AV} {k : IntKind} (hu : P.underlying t = some (.int k)) (hr : ∃ xs, ArgIs P t a xs ∧ Reps P h d t xs) : ∃ n, a = .int k n ∧ (Lit.int k n).wf = true := by
  obtain ⟨xs, h1, h2⟩ := hr
  unfold ArgIs at h1
  rw [hu] at h1
  simp only at h1
  subst h1
  match d, h2 with
  | .lit (.bool b), h2 => simp [Reps, hu] at h2
  | .lit (.int k' n), h2 =>
    simp only [Reps, hu, Option.some.injEq, TypeDesc.int.injEq, List.cons.injEq, and_true] at h2
    obtain ⟨rfl, hw, rfl⟩ := h2
    exact ⟨n, rfl, hw⟩
  | .lit (.string s), h2 => simp [Reps, hu] at h2
  | .nil, h2 => simp [Reps, hu] at h2
  | .slice es n, h2 => simp [Reps, hu] at h2
  | .agg ps, h2 => simp [Reps, hu] at h2
  | .ptr _, h2 => simp [Reps] at h2
  | .iface _ _, h2 => simp [Reps] at h2
  | .map _, h2 => simp [Reps] at h2
  | .held _, h2 => simp [Reps] at h2
end Go.Am

namespace Go.Proofs.Ytehccakjdbapiaa.Turns
open Go.ChangeShapes Go.WideShapes Go.ChangeAt Go.RowKit Go.Am
theorem own : ownKnob Try.prog.godebug = none := by kernel_rfl

theorem wf_of {h : Heap} (hb : ∀ i, h.next ≤ i → h.get i = none) : Wf h := by
  intro i o hi
  by_cases hlt : i < h.next
  · exact hlt
  · rw [hb i (by omega)] at hi; cases hi

theorem walk {H : Type} {h : Heap} {ds : List (DataW H)} {as' : List AV} (hr : RepsArgs Try.prog h ds [3, 3, 3] as') (hb : ∀ i, h.next ≤ i → h.get i = none) : ∃ h', CallOk Try.prog 5 as' h (.ret (.bool true) h') := by
  obtain ⟨d1, ds, a1, as', rfl, rfl, r1, hr⟩ := repsArgs_cons hr
  obtain ⟨d2, ds, a2, as', rfl, rfl, r2, hr⟩ := repsArgs_cons hr
  obtain ⟨d3, ds, a3, as', rfl, rfl, r3, hr⟩ := repsArgs_cons hr
  obtain ⟨rfl, rfl⟩ := repsArgs_nil hr
  obtain ⟨n1, rfl, _⟩ := arg_int u3 r1
  obtain ⟨n2, rfl, _⟩ := arg_int u3 r2
  obtain ⟨n3, rfl, _⟩ := arg_int u3 r3
  obtain ⟨h', hc⟩ := turns_ok ovTrue_sched (ovTrue_ne rfl) (wf_of hb) n1 n2 n3
  exact ⟨h', calls_ok _ _ _ _ hc⟩

set_option maxRecDepth 100000 in
theorem lifted (os : Os) (started : os.Started) (H : Type) (enc : TypeId × Value → H) :
    ReturnsInHanded {} Try.checked os 5 .any (Rows.schedTurnsSpec.pre6 enc Try.prog Try.f5 Rows.schedTurnsRow.domain false) (Rows.schedTurnsSpec.post enc Try.prog Try.f5 false true false false) := by
  refine returnsInHanded_of_change (C := Try.checked) own started (by kernel_rfl) Try.func5
    (ChangeSpec.witness6 (enc := enc) (C := Try.checked) false ⟨#[], #[.int .i64 0, .int .i64 0, .int .i64 0], []⟩ 8 (by kernel_rfl) (by kernel_rfl) (by kernel_rfl) (by kernel_rfl)) ?_
  intro W base args ds gs before hval0 hW hcnd _
  refine law_contract (dep := 8) (tb := 4) sched_laid rfl rfl u4 ?_ (by kernel_rfl) (by kernel_rfl) hval0 hW ?_
  · intro ds hl
    match ds, hl with
    | [d1, d2, d3], _ => rfl
  · intro h as' hr _ _ hb
    exact walk hr hb

theorem proved : Rows.SchedTurnsSaid :=
  OpenClaim.holds_of_wide 5 Try.f5 rfl rfl rfl rfl rfl rfl rfl ⟨rfl, rfl, rfl, rfl, rfl⟩ rfl rfl rfl rfl rfl (by kernel_rfl) Try.func5 (by kernel_rfl)
    (of_decide_eq_true (by kernel_rfl)) (by unfold Func.isWrapper; first | (rw [if_pos (by decide +kernel)]; kernel_rfl) | (rw [if_neg (by decide +kernel)]; exact ⟨rfl, rfl⟩))
    (fun os started H enc _ => lifted os started H enc)
#print axioms proved
end Go.Proofs.Ytehccakjdbapiaa.Turns
