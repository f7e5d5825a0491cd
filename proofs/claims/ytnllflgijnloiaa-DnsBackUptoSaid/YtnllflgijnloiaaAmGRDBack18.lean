/- What the rows of the dns seat share. -/
import Derived.Test.YtnllflgijnloiaaAmGRDBack15
import Derived.Test.YtnllflgijnloiaaAmGRDBack12
import Derived.Test.YtnllflgijnloiaaRows
import Derived.ProofKit
import Derived.OpenShut
import Derived.JoinedCond
namespace Go.Am
open Go.RowKit Go.Proofs

theorem dns_laid : laidOutB Try.prog = true := by kernel_rfl
theorem repsArgs_cons {H : Type} {P : Program} {h : Heap} {ds : List (DataW H)} {t : TypeId} {ts : List TypeId} {as' : List AV} (hr : RepsArgs P h ds (t :: ts) as') :
    ∃ d ds' a as'', ds = d :: ds' ∧ as' = a :: as'' ∧ (∃ xs, ArgIs P t a xs ∧ Reps P h d t xs) ∧ RepsArgs P h ds' ts as'' := by
  match ds, as', hr with
  | [], [], hr => simp [RepsArgs] at hr
  | [], _ :: _, hr => simp [RepsArgs] at hr
  | _ :: _, [], hr => simp [RepsArgs] at hr
  | d :: ds, a :: as', hr =>
    simp only [RepsArgs] at hr
    exact ⟨d, ds, a, as', rfl, rfl, hr.1, hr.2⟩
theorem repsArgs_nil {H : Type} {P : Program} {h : Heap} {ds : List (DataW H)} {as' : List AV} (hr : RepsArgs P h ds [] as') : ds = [] ∧ as' = [] := by
  match ds, as', hr with
  | [], [], hr => exact ⟨rfl, rfl⟩
  | [], _ :: _, hr => simp [RepsArgs] at hr
  | _ :: _, [], hr => simp [RepsArgs] at hr
  | _ :: _, _ :: _, hr => simp [RepsArgs] at hr
/-- An integer argument. -/
theorem arg_int {H : Type} {P : Program} {h : Heap} {d : DataW H} {t : TypeId} {a : AV} {k : IntKind} (hu : P.underlying t = some (.int k)) (hr : ∃ xs, ArgIs P t a xs ∧ Reps P h d t xs) : ∃ n, a = .int k n ∧ (Lit.int k n).wf = true := by
  obtain ⟨xs, h1, h2⟩ := hr
  unfold ArgIs at h1
  rw [hu] at h1
  simp only at h1
  subst h1
  match d, h2 with
  | .lit (.bool b), h2 => simp [Reps, hu] at h2
  | .lit (.int k' n), h2 =>
    simp only [Reps, hu, Option.some.injEq, TypeDesc.int.injEq, List.cons.injEq, and_true] at h2
    obtain ⟨rfl, hw, rfl⟩ := h2
    exact ⟨n, rfl, hw⟩
  | .lit (.string s), h2 => simp [Reps, hu] at h2
  | .nil, h2 => simp [Reps, hu] at h2
  | .slice es n, h2 => simp [Reps, hu] at h2
  | .agg ps, h2 => simp [Reps, hu] at h2
  | .ptr _, h2 => simp [Reps] at h2
  | .iface _ _, h2 => simp [Reps] at h2
  | .map _, h2 => simp [Reps] at h2
  | .held _, h2 => simp [Reps] at h2
theorem wf_of {h : Heap} (hb : ∀ i, h.next ≤ i → h.get i = none) : Wf h := by
  intro i o hi
  by_cases hlt : i < h.next
  · exact hlt
  · rw [hb i (by omega)] at hi; cases hi


theorem own : ownKnob Try.prog.godebug = none := by kernel_rfl

/-! ### How large -/
open Go.Proofs.Ytnllflgijnloiaa.Rows in
theorem bulk_pos {H : Type} : ∀ d : DataW H, 1 ≤ uptoBulk d
  | .lit (.string bytes) => by simp only [uptoBulk]; omega
  | .lit (.bool _) => by simp only [uptoBulk]; omega
  | .lit (.int _ _) => by simp only [uptoBulk]; omega
  | .lit (.float _ _) => by simp only [uptoBulk]; omega
  | .lit .nil => by simp only [uptoBulk]; omega
  | .nil => by simp only [uptoBulk]; omega
  | .ptr d => by simp only [uptoBulk]; omega
  | .slice _ _ => by simp only [uptoBulk]; omega
  | .agg _ => by simp only [uptoBulk]; omega
  | .iface _ _ => by simp only [uptoBulk]; omega
  | .map _ => by simp only [uptoBulk]; omega
  | .held _ => by simp only [uptoBulk]; omega
open Go.Proofs.Ytnllflgijnloiaa.Rows in
theorem bulk_all {H : Type} : ∀ ds : List (DataW H), ds.length ≤ uptoBulkAll ds
  | [] => by simp [uptoBulkAll]
  | d :: ds => by
    have := bulk_pos d
    have := bulk_all ds
    simp only [uptoBulkAll, List.length_cons]; omega
open Go.Proofs.Ytnllflgijnloiaa.Rows in
theorem bulk_append {H : Type} : ∀ ds es : List (DataW H), uptoBulkAll ds ≤ uptoBulkAll (ds ++ es)
  | [], es => by simp [uptoBulkAll]
  | d :: ds, es => by
    have := bulk_append ds es
    simp only [uptoBulkAll, List.cons_append]; omega
open Go.Proofs.Ytnllflgijnloiaa.Rows in
theorem bulk_of {H : Type} {ds gs : List (DataW H)} (hk : uptoSmall H (ds ++ gs) = true) : uptoBulkAll ds ≤ 1048576 := by
  have h1 := bulk_append ds gs
  have h2 : uptoBulkAll (ds ++ gs) ≤ 1048576 := by simpa [uptoSmall] using hk
  omega

/-- A datum of an integer type. -/
theorem reps_int {H : Type} {P : Program} {h : Heap} {d : DataW H} {t : TypeId} {xs : List AV} {k : IntKind} (hu : P.underlying t = some (.int k)) (h2 : Reps P h d t xs) : ∃ n, d = .lit (.int k n) ∧ xs = [.int k n] ∧ (Lit.int k n).wf = true := by
  match d, h2 with
  | .lit (.bool b), h2 => simp [Reps, hu] at h2
  | .lit (.int k' n), h2 =>
    simp only [Reps, hu, Option.some.injEq, TypeDesc.int.injEq] at h2
    obtain ⟨rfl, hw, rfl⟩ := h2
    exact ⟨n, rfl, rfl, hw⟩
  | .lit (.string s), h2 => simp [Reps, hu] at h2
  | .nil, h2 => simp [Reps, hu] at h2
  | .slice es n, h2 => simp [Reps, hu] at h2
  | .agg ps, h2 => simp [Reps, hu] at h2
  | .ptr _, h2 => simp [Reps] at h2
  | .iface _ _, h2 => simp [Reps] at h2
  | .map _, h2 => simp [Reps] at h2
  | .held _, h2 => simp [Reps] at h2
theorem reps_bool {H : Type} {P : Program} {h : Heap} {d : DataW H} {t : TypeId} {xs : List AV} (hu : P.underlying t = some .bool) (h2 : Reps P h d t xs) : ∃ b, d = .lit (.bool b) ∧ xs = [.bool b] := by
  match d, h2 with
  | .lit (.bool b), h2 => simp only [Reps] at h2; exact ⟨b, rfl, h2.2⟩
  | .lit (.int k' n), h2 => simp [Reps, hu] at h2
  | .lit (.string s), h2 => simp [Reps, hu] at h2
  | .nil, h2 => simp [Reps, hu] at h2
  | .slice es n, h2 => simp [Reps, hu] at h2
  | .agg ps, h2 => simp [Reps, hu] at h2
  | .ptr _, h2 => simp [Reps] at h2
  | .iface _ _, h2 => simp [Reps] at h2
  | .map _, h2 => simp [Reps] at h2
  | .held _, h2 => simp [Reps] at h2
/-- A datum of a slice type. -/
theorem reps_slice {H : Type} {P : Program} {h : Heap} {d : DataW H} {t el : TypeId} {xs : List AV} (hu : P.underlying t = some (.slice el)) (h2 : Reps P h d t xs) :
    (d = .nil ∧ xs = [.slice none 0 (.exact 0)]) ∨ ∃ es sp i cs, d = .slice es sp ∧ xs = [.slice (some ⟨i, 0⟩) es.length .dim] ∧ (es ≠ [] → h.get i = some (.cells cs .ro)) ∧ RepsRow P h es el cs := by
  match d, h2 with
  | .lit (.bool b), h2 => simp [Reps, hu] at h2
  | .lit (.int k' n), h2 => simp [Reps, hu] at h2
  | .lit (.string s), h2 => simp [Reps, hu] at h2
  | .nil, h2 => simp only [Reps] at h2; exact .inl ⟨rfl, h2.2⟩
  | .slice es n, h2 =>
    simp only [Reps, hu, Option.some.injEq, TypeDesc.slice.injEq] at h2
    obtain ⟨e, i, cs, rfl, h3, _, h4, h5⟩ := h2
    exact .inr ⟨es, n, i, cs, rfl, h3, h4, h5⟩
  | .agg ps, h2 => simp [Reps, hu] at h2
  | .ptr _, h2 => simp [Reps] at h2
  | .iface _ _, h2 => simp [Reps] at h2
  | .map _, h2 => simp [Reps] at h2
  | .held _, h2 => simp [Reps] at h2
theorem sl_of_row {h : Heap} {i n : Nat} {cs xs : List AV} (hx : cs = xs) (hn : xs.length = n) (hg : n ≠ 0 → h.get i = some (.cells cs .ro)) : Sl h (.slice (some ⟨i, 0⟩) n .dim) xs := by
  subst hx
  refine ⟨⟨hn, trivial⟩, ?_⟩
  by_cases h0 : n = 0
  · exact .inl h0
  · exact .inr ⟨cs, .ro, hg h0, by simp [hn], by simp [← hn]⟩
end Go.Am
