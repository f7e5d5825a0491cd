/- What the rows of the sched seat share. -/
import Derived.Test.YtehccakjdbapiaaAmGRLogs13
import Derived.Test.YtehccakjdbapiaaRows
import Derived.ProofKit
import Derived.OpenShut
import Derived.JoinedCond
namespace Go.Am
open Go.RowKit Go.Proofs

theorem sched_laid : laidOutB Try.prog = true := by kernel_rfl
theorem ovTrue_sched : OvOk (ovTrue 10) where
  o11 := ovTrue_ne rfl
  o14 := ovTrue_ne rfl
  o25 := ovTrue_ne rfl
  o27 := ovTrue_ne rfl
  o28 := ovTrue_ne rfl
  o29 := ovTrue_ne rfl
  o30 := ovTrue_ne rfl
  o10 := fun _ => ovTrue_self

theorem repsArgs_cons {H : Type} {P : Program} {h : Heap} {ds : List (DataW H)} {t : TypeId} {ts : List TypeId} {as' : List AV} (hr : RepsArgs P h ds (t :: ts) as') :
    ∃ d ds' a as'', ds = d :: ds' ∧ as' = a :: as'' ∧ (∃ xs, ArgIs P t a xs ∧ Reps P h d t xs) ∧ RepsArgs P h ds' ts as'' := by
  match ds, as', hr with
  | [], [], hr => simp [RepsArgs] at hr
  | [], _ :: _, hr => simp [RepsArgs] at hr
  | _ :: _, [], hr => simp [RepsArgs] at hr
  | d :: ds, a :: as', hr =>
    simp only [RepsArgs] at hr
    exact ⟨d, ds, a, as', rfl, rfl, hr.1, hr.2⟩
theorem repsArgs_nil {H : Type} {P : Program} {h : Heap} {ds : List (DataW H)} {as' : List AV} (hr : RepsArgs P h ds [] as') : ds = [] ∧ as' = [] := by
  match ds, as', hr with
  | [], [], hr => exact ⟨rfl, rfl⟩
  | [], _ :: _, hr => simp [RepsArgs] at hr
  | _ :: _, [], hr => simp [RepsArgs] at hr
  | _ :: _, _ :: _, hr => simp [RepsArgs] at hr
/-- An integer argument. -/
theorem arg_int {H : Type} {P : Program} {h : Heap} {d : DataW H} {t : TypeId} {a : AV} {k : IntKind} (hu : P.underlying t = some (.int k)) (hr : ∃ xs, ArgIs P t a xs ∧ Reps P h d t xs) : ∃ n, a = .int k n ∧ (Lit.int k n).wf = true := by
  obtain ⟨xs, h1, h2⟩ := hr
  unfold ArgIs at h1
  rw [hu] at h1
  simp only at h1
  subst h1
  match d, h2 with
  | .lit (.bool b), h2 => simp [Reps, hu] at h2
  | .lit (.int k' n), h2 =>
    simp only [Reps, hu, Option.some.injEq, TypeDesc.int.injEq, List.cons.injEq, and_true] at h2
    obtain ⟨rfl, hw, rfl⟩ := h2
    exact ⟨n, rfl, hw⟩
  | .lit (.string s), h2 => simp [Reps, hu] at h2
  | .nil, h2 => simp [Reps, hu] at h2
  | .slice es n, h2 => simp [Reps, hu] at h2
  | .agg ps, h2 => simp [Reps, hu] at h2
  | .ptr _, h2 => simp [Reps] at h2
  | .iface _ _, h2 => simp [Reps] at h2
  | .map _, h2 => simp [Reps] at h2
  | .held _, h2 => simp [Reps] at h2
theorem wf_of {h : Heap} (hb : ∀ i, h.next ≤ i → h.get i = none) : Wf h := by
  intro i o hi
  by_cases hlt : i < h.next
  · exact hlt
  · rw [hb i (by omega)] at hi; cases hi


theorem own : ownKnob Try.prog.godebug = none := by kernel_rfl

/-! ### How large -/
open Go.Proofs.Ytehccakjdbapiaa.Rows in
theorem bulk_pos {H : Type} : ∀ d : DataW H, 1 ≤ uptoBulk d
  | .lit (.string bytes) => by simp only [uptoBulk]; omega
  | .lit (.bool _) => by simp only [uptoBulk]; omega
  | .lit (.int _ _) => by simp only [uptoBulk]; omega
  | .lit (.float _ _) => by simp only [uptoBulk]; omega
  | .lit .nil => by simp only [uptoBulk]; omega
  | .nil => by simp only [uptoBulk]; omega
  | .ptr d => by simp only [uptoBulk]; omega
  | .slice _ _ => by simp only [uptoBulk]; omega
  | .agg _ => by simp only [uptoBulk]; omega
  | .iface _ _ => by simp only [uptoBulk]; omega
  | .map _ => by simp only [uptoBulk]; omega
  | .held _ => by simp only [uptoBulk]; omega
open Go.Proofs.Ytehccakjdbapiaa.Rows in
theorem bulk_all {H : Type} : ∀ ds : List (DataW H), ds.length ≤ uptoBulkAll ds
  | [] => by simp [uptoBulkAll]
  | d :: ds => by
    have := bulk_pos d
    have := bulk_all ds
    simp only [uptoBulkAll, List.length_cons]; omega
open Go.Proofs.Ytehccakjdbapiaa.Rows in
theorem bulk_append {H : Type} : ∀ ds es : List (DataW H), uptoBulkAll ds ≤ uptoBulkAll (ds ++ es)
  | [], es => by simp [uptoBulkAll]
  | d :: ds, es => by
    have := bulk_append ds es
    simp only [uptoBulkAll, List.cons_append]; omega
open Go.Proofs.Ytehccakjdbapiaa.Rows in
theorem bulk_of {H : Type} {ds gs : List (DataW H)} (hk : uptoSmall H (ds ++ gs) = true) : uptoBulkAll ds ≤ 1048576 := by
  have h1 := bulk_append ds gs
  have h2 : uptoBulkAll (ds ++ gs) ≤ 1048576 := by simpa [uptoSmall] using hk
  omega

/-- A datum of an integer type. -/
theorem reps_int {H : Type} {P : Program} {h : Heap} {d : DataW H} {t : TypeId} {xs : List AV} {k : IntKind} (hu : P.underlying t = some (.int k)) (h2 : Reps P h d t xs) : ∃ n, d = .lit (.int k n) ∧ xs = [.int k n] ∧ (Lit.int k n).wf = true := by
  match d, h2 with
  | .lit (.bool b), h2 => simp [Reps, hu] at h2
  | .lit (.int k' n), h2 =>
    simp only [Reps, hu, Option.some.injEq, TypeDesc.int.injEq] at h2
    obtain ⟨rfl, hw, rfl⟩ := h2
    exact ⟨n, rfl, rfl, hw⟩
  | .lit (.string s), h2 => simp [Reps, hu] at h2
  | .nil, h2 => simp [Reps, hu] at h2
  | .slice es n, h2 => simp [Reps, hu] at h2
  | .agg ps, h2 => simp [Reps, hu] at h2
  | .ptr _, h2 => simp [Reps] at h2
  | .iface _ _, h2 => simp [Reps] at h2
  | .map _, h2 => simp [Reps] at h2
  | .held _, h2 => simp [Reps] at h2
theorem reps_bool {H : Type} {P : Program} {h : Heap} {d : DataW H} {t : TypeId} {xs : List AV} (hu : P.underlying t = some .bool) (h2 : Reps P h d t xs) : ∃ b, d = .lit (.bool b) ∧ xs = [.bool b] := by
  match d, h2 with
  | .lit (.bool b), h2 => simp only [Reps] at h2; exact ⟨b, rfl, h2.2⟩
  | .lit (.int k' n), h2 => simp [Reps, hu] at h2
  | .lit (.string s), h2 => simp [Reps, hu] at h2
  | .nil, h2 => simp [Reps, hu] at h2
  | .slice es n, h2 => simp [Reps, hu] at h2
  | .agg ps, h2 => simp [Reps, hu] at h2
  | .ptr _, h2 => simp [Reps] at h2
  | .iface _ _, h2 => simp [Reps] at h2
  | .map _, h2 => simp [Reps] at h2
  | .held _, h2 => simp [Reps] at h2
/-- A datum of a slice type. -/
theorem reps_slice {H : Type} {P : Program} {h : Heap} {d : DataW H} {t el : TypeId} {xs : List AV} (hu : P.underlying t = some (.slice el)) (h2 : Reps P h d t xs) :
    (d = .nil ∧ xs = [.slice none 0 (.exact 0)]) ∨ ∃ es sp i cs, d = .slice es sp ∧ xs = [.slice (some ⟨i, 0⟩) es.length .dim] ∧ (es ≠ [] → h.get i = some (.cells cs .ro)) ∧ RepsRow P h es el cs := by
  match d, h2 with
  | .lit (.bool b), h2 => simp [Reps, hu] at h2
  | .lit (.int k' n), h2 => simp [Reps, hu] at h2
  | .lit (.string s), h2 => simp [Reps, hu] at h2
  | .nil, h2 => simp only [Reps] at h2; exact .inl ⟨rfl, h2.2⟩
  | .slice es n, h2 =>
    simp only [Reps, hu, Option.some.injEq, TypeDesc.slice.injEq] at h2
    obtain ⟨e, i, cs, rfl, h3, _, h4, h5⟩ := h2
    exact .inr ⟨es, n, i, cs, rfl, h3, h4, h5⟩
  | .agg ps, h2 => simp [Reps, hu] at h2
  | .ptr _, h2 => simp [Reps] at h2
  | .iface _ _, h2 => simp [Reps] at h2
  | .map _, h2 => simp [Reps] at h2
  | .held _, h2 => simp [Reps] at h2
theorem row_ints {H : Type} {h : Heap} : ∀ {es : List (DataW H)} {cs : List AV}, RepsRow Try.prog h es 3 cs → ∃ ns, cs = ints ns ∧ ns.length = es.length ∧ ∀ n ∈ ns, (Lit.int .i64 n).wf = true
  | [], cs, hr => by simp only [RepsRow] at hr; exact ⟨[], by simp [hr, ints], rfl, by simp⟩
  | d :: es, cs, hr => by
    simp only [RepsRow] at hr
    obtain ⟨x, y, rfl, _, h1, h2⟩ := hr
    obtain ⟨n, _, rfl, hw⟩ := reps_int u3 h1
    obtain ⟨ns, rfl, hl, hws⟩ := row_ints h2
    refine ⟨n :: ns, by simp [ints], by simp [hl], ?_⟩
    intro m hm
    rcases List.mem_cons.1 hm with rfl | hm
    · exact hw
    · exact hws m hm
theorem row_bools {H : Type} {h : Heap} : ∀ {es : List (DataW H)} {cs : List AV}, RepsRow Try.prog h es 4 cs → ∃ ns, cs = bools ns ∧ ns.length = es.length
  | [], cs, hr => by simp only [RepsRow] at hr; exact ⟨[], by simp [hr, bools], rfl⟩
  | d :: es, cs, hr => by
    simp only [RepsRow] at hr
    obtain ⟨x, y, rfl, _, h1, h2⟩ := hr
    obtain ⟨n, _, rfl⟩ := reps_bool u4 h1
    obtain ⟨ns, rfl, hl⟩ := row_bools h2
    exact ⟨n :: ns, by simp [bools], by simp [hl]⟩
theorem sl_of_row {h : Heap} {i n : Nat} {cs xs : List AV} (hx : cs = xs) (hn : xs.length = n) (hg : n ≠ 0 → h.get i = some (.cells cs .ro)) : Sl h (.slice (some ⟨i, 0⟩) n .dim) xs := by
  subst hx
  refine ⟨⟨hn, trivial⟩, ?_⟩
  by_cases h0 : n = 0
  · exact .inl h0
  · exact .inr ⟨cs, .ro, hg h0, by simp [hn], by simp [← hn]⟩
open Go.Proofs.Ytehccakjdbapiaa.Rows in
theorem sl_ints {H : Type} {h : Heap} {d : DataW H} {xs : List AV} (h2 : Reps Try.prog h d 22 xs) : ∃ v ns, xs = [v] ∧ Sl h v (ints ns) ∧ ns.length ≤ uptoBulk d ∧ ∀ n ∈ ns, (Lit.int .i64 n).wf = true := by
  rcases reps_slice u22 h2 with ⟨rfl, rfl⟩ | ⟨es, sp, i, cs, rfl, rfl, hg, hr⟩
  · exact ⟨_, [], rfl, ⟨rfl, rfl⟩, by simp, by simp⟩
  · obtain ⟨ns, rfl, hl, hw⟩ := row_ints hr
    refine ⟨_, ns, rfl, sl_of_row rfl (by simp [hl]) (fun h0 => hg (by intro hh; simp [hh] at h0)), ?_, hw⟩
    have := bulk_all es
    simp only [uptoBulk]; omega
open Go.Proofs.Ytehccakjdbapiaa.Rows in
theorem sl_bools {H : Type} {h : Heap} {d : DataW H} {xs : List AV} (h2 : Reps Try.prog h d 31 xs) : ∃ v ns, xs = [v] ∧ Sl h v (bools ns) ∧ ns.length ≤ uptoBulk d := by
  rcases reps_slice u31 h2 with ⟨rfl, rfl⟩ | ⟨es, sp, i, cs, rfl, rfl, hg, hr⟩
  · exact ⟨_, [], rfl, ⟨rfl, rfl⟩, by simp⟩
  · obtain ⟨ns, rfl, hl⟩ := row_bools hr
    refine ⟨_, ns, rfl, sl_of_row rfl (by simp [hl]) (fun h0 => hg (by intro hh; simp [hh] at h0)), ?_⟩
    have := bulk_all es
    simp only [uptoBulk]; omega
/-- An argument that is a slice of integers. -/
theorem arg_ints {H : Type} {h : Heap} {d : DataW H} {a : AV} (hr : ∃ xs, ArgIs Try.prog 22 a xs ∧ Reps Try.prog h d 22 xs) : ∃ ns, Sl h a (ints ns) ∧ ns.length ≤ Go.Proofs.Ytehccakjdbapiaa.Rows.uptoBulk d ∧ ∀ n ∈ ns, (Lit.int .i64 n).wf = true := by
  obtain ⟨xs, h1, h2⟩ := hr
  unfold ArgIs at h1
  rw [u22] at h1
  simp only at h1
  subst h1
  obtain ⟨v, ns, hv, h3⟩ := sl_ints h2
  cases hv
  exact ⟨ns, h3⟩
end Go.Am
