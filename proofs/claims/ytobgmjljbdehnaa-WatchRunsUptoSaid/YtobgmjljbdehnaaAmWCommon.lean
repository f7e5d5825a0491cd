/- What the rows of the watch seat share. -/
import Derived.Test.YtobgmjljbdehnaaAmWOnce
import Derived.Test.YtobgmjljbdehnaaAmLeavA
import Derived.Test.YtobgmjljbdehnaaRows
import Derived.ProofKit
import Derived.OpenShut
import Derived.JoinedCond
namespace Go.Am
open Go.RowKit Go.Proofs

theorem watch_laid : laidOutB Try.prog = true := by kernel_rfl
theorem own : ownKnob Try.prog.godebug = none := by kernel_rfl
theorem repsArgs_cons {H : Type} {P : Program} {h : Heap} {ds : List (DataW H)} {t : TypeId} {ts : List TypeId} {as' : List AV} (hr : RepsArgs P h ds (t :: ts) as') :
    ∃ d ds' a as'', ds = d :: ds' ∧ as' = a :: as'' ∧ (∃ xs, ArgIs P t a xs ∧ Reps P h d t xs) ∧ RepsArgs P h ds' ts as'' := by
  match ds, as', hr with
  | [], [], hr => simp [RepsArgs] at hr
  | [], _ :: _, hr => simp [RepsArgs] at hr
  | _ :: _, [], hr => simp [RepsArgs] at hr
  | d :: ds, a :: as', hr =>
    simp only [RepsArgs] at hr
    exact ⟨d, ds, a, as', rfl, rfl, hr.1, hr.2⟩
theorem repsArgs_nil {H : Type} {P : Program} {h : Heap} {ds : List (DataW H)} {as' : List AV} (hr : RepsArgs P h ds [] as') : ds = [] ∧ as' = [] := by
  match ds, as', hr with
  | [], [], hr => exact ⟨rfl, rfl⟩
  | [], _ :: _, hr => simp [RepsArgs] at hr
  | _ :: _, [], hr => simp [RepsArgs] at hr
  | _ :: _, _ :: _, hr => simp [RepsArgs] at hr
/-- An integer argument. -/
theorem arg_int {H : Type} {P : Program} {h : Heap} {d : DataW H} {t : TypeId} {a : AV} {k : IntKind} (hu : P.underlying t = some (.int k)) (hr : ∃ xs, ArgIs P t a xs ∧ Reps P h d t xs) : ∃ n, a = .int k n ∧ (Lit.int k n).wf = true := by
  obtain ⟨xs, h1, h2⟩ := hr
  unfold ArgIs at h1
  rw [hu] at h1
  simp only at h1
  subst h1
  match d, h2 with
  | .lit (.bool b), h2 => simp [Reps, hu] at h2
  | .lit (.int k' n), h2 =>
    simp only [Reps, hu, Option.some.injEq, TypeDesc.int.injEq, List.cons.injEq, and_true] at h2
    obtain ⟨rfl, hw, rfl⟩ := h2
    exact ⟨n, rfl, hw⟩
  | .lit (.string s), h2 => simp [Reps, hu] at h2
  | .nil, h2 => simp [Reps, hu] at h2
  | .slice es n, h2 => simp [Reps, hu] at h2
  | .agg ps, h2 => simp [Reps, hu] at h2
  | .ptr _, h2 => simp [Reps] at h2
  | .iface _ _, h2 => simp [Reps] at h2
  | .map _, h2 => simp [Reps] at h2
  | .held _, h2 => simp [Reps] at h2
theorem wf_of {h : Heap} (hb : ∀ i, h.next ≤ i → h.get i = none) : Wf h := by
  intro i o hi
  by_cases hlt : i < h.next
  · exact hlt
  · rw [hb i (by omega)] at hi; cases hi


/-- A datum of an integer type. -/
theorem reps_int {H : Type} {P : Program} {h : Heap} {d : DataW H} {t : TypeId} {xs : List AV} {k : IntKind} (hu : P.underlying t = some (.int k)) (h2 : Reps P h d t xs) : ∃ n, d = .lit (.int k n) ∧ xs = [.int k n] ∧ (Lit.int k n).wf = true := by
  match d, h2 with
  | .lit (.bool b), h2 => simp [Reps, hu] at h2
  | .lit (.int k' n), h2 =>
    simp only [Reps, hu, Option.some.injEq, TypeDesc.int.injEq] at h2
    obtain ⟨rfl, hw, rfl⟩ := h2
    exact ⟨n, rfl, rfl, hw⟩
  | .lit (.string s), h2 => simp [Reps, hu] at h2
  | .nil, h2 => simp [Reps, hu] at h2
  | .slice es n, h2 => simp [Reps, hu] at h2
  | .agg ps, h2 => simp [Reps, hu] at h2
  | .ptr _, h2 => simp [Reps] at h2
  | .iface _ _, h2 => simp [Reps] at h2
  | .map _, h2 => simp [Reps] at h2
  | .held _, h2 => simp [Reps] at h2
theorem reps_bool {H : Type} {P : Program} {h : Heap} {d : DataW H} {t : TypeId} {xs : List AV} (hu : P.underlying t = some .bool) (h2 : Reps P h d t xs) : ∃ b, d = .lit (.bool b) ∧ xs = [.bool b] := by
  match d, h2 with
  | .lit (.bool b), h2 => simp only [Reps] at h2; exact ⟨b, rfl, h2.2⟩
  | .lit (.int k' n), h2 => simp [Reps, hu] at h2
  | .lit (.string s), h2 => simp [Reps, hu] at h2
  | .nil, h2 => simp [Reps, hu] at h2
  | .slice es n, h2 => simp [Reps, hu] at h2
  | .agg ps, h2 => simp [Reps, hu] at h2
  | .ptr _, h2 => simp [Reps] at h2
  | .iface _ _, h2 => simp [Reps] at h2
  | .map _, h2 => simp [Reps] at h2
  | .held _, h2 => simp [Reps] at h2
/-- A datum of a slice type. -/
theorem reps_slice {H : Type} {P : Program} {h : Heap} {d : DataW H} {t el : TypeId} {xs : List AV} (hu : P.underlying t = some (.slice el)) (h2 : Reps P h d t xs) :
    (d = .nil ∧ xs = [.slice none 0 (.exact 0)]) ∨ ∃ es sp i cs, d = .slice es sp ∧ xs = [.slice (some ⟨i, 0⟩) es.length .dim] ∧ (es ≠ [] → h.get i = some (.cells cs .ro)) ∧ RepsRow P h es el cs := by
  match d, h2 with
  | .lit (.bool b), h2 => simp [Reps, hu] at h2
  | .lit (.int k' n), h2 => simp [Reps, hu] at h2
  | .lit (.string s), h2 => simp [Reps, hu] at h2
  | .nil, h2 => simp only [Reps] at h2; exact .inl ⟨rfl, h2.2⟩
  | .slice es n, h2 =>
    simp only [Reps, hu, Option.some.injEq, TypeDesc.slice.injEq] at h2
    obtain ⟨e, i, cs, rfl, h3, _, h4, h5⟩ := h2
    exact .inr ⟨es, n, i, cs, rfl, h3, h4, h5⟩
  | .agg ps, h2 => simp [Reps, hu] at h2
  | .ptr _, h2 => simp [Reps] at h2
  | .iface _ _, h2 => simp [Reps] at h2
  | .map _, h2 => simp [Reps] at h2
  | .held _, h2 => simp [Reps] at h2
theorem row_bools {H : Type} {h : Heap} : ∀ {es : List (DataW H)} {cs : List AV}, RepsRow Try.prog h es 4 cs → ∃ ns, cs = bools ns ∧ ns.length = es.length
  | [], cs, hr => by simp only [RepsRow] at hr; exact ⟨[], by simp [hr, bools], rfl⟩
  | d :: es, cs, hr => by
    simp only [RepsRow] at hr
    obtain ⟨x, y, rfl, _, h1, h2⟩ := hr
    obtain ⟨n, _, rfl⟩ := reps_bool u4 h1
    obtain ⟨ns, rfl, hl⟩ := row_bools h2
    exact ⟨n :: ns, by simp [bools], by simp [hl]⟩
theorem sl_of_row {h : Heap} {i n : Nat} {cs xs : List AV} (hx : cs = xs) (hn : xs.length = n) (hg : n ≠ 0 → h.get i = some (.cells cs .ro)) : Sl h (.slice (some ⟨i, 0⟩) n .dim) xs := by
  subst hx
  refine ⟨⟨hn, trivial⟩, ?_⟩
  by_cases h0 : n = 0
  · exact .inl h0
  · exact .inr ⟨cs, .ro, hg h0, by simp [hn], by simp [← hn]⟩

theorem reps_len {H : Type} {P : Program} {h : Heap} {es : List (DataW H)} {sp : _} {t : TypeId} {xs : List AV} (h2 : Reps P h (.slice es sp) t xs) : es.length ≤ maxLen := by
  simp only [Reps] at h2
  obtain ⟨_, _, _, _, _, h3, _⟩ := h2
  exact h3
set_option maxRecDepth 100000 in
theorem sl_bools {H : Type} {h : Heap} {d : DataW H} {xs : List AV} (h2 : Reps Try.prog h d 23 xs) : ∃ v ns, xs = [v] ∧ Sl h v (bools ns) ∧ ∀ N, N = maxLen → ns.length ≤ N := by
  rcases reps_slice u23 h2 with ⟨rfl, rfl⟩ | ⟨es, sp, i, cs, rfl, rfl, hg, hr⟩
  · exact ⟨_, [], rfl, ⟨rfl, rfl⟩, fun N _ => Nat.zero_le N⟩
  · obtain ⟨ns, rfl, hl⟩ := row_bools hr
    refine ⟨_, ns, rfl, sl_of_row rfl (by simp [hl]) (fun h0 => hg (by intro hh; simp [hh] at h0)), ?_⟩
    intro N hN
    rw [hl, hN]; exact reps_len h2
set_option maxRecDepth 100000 in
/-- An argument that is a slice of bools. -/
theorem arg_bools {H : Type} {h : Heap} {d : DataW H} {a : AV} (hr : ∃ xs, ArgIs Try.prog 23 a xs ∧ Reps Try.prog h d 23 xs) : ∃ ns, Sl h a (bools ns) ∧ ∀ N, N = maxLen → ns.length ≤ N := by
  obtain ⟨xs, h1, h2⟩ := hr
  unfold ArgIs at h1
  rw [u23] at h1
  simp only at h1
  subst h1
  obtain ⟨v, ns, hv, h3⟩ := sl_bools h2
  cases hv
  exact ⟨ns, h3⟩
end Go.Am
