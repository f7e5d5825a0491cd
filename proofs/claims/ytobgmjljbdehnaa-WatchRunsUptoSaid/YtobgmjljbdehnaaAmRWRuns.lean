/- 'musterlaw02.WatchRuns' returns true for every input whose bulk is at most 1048576 (the second form), and its argument reads behind the call as it read before. -/
import Derived.Test.YtobgmjljbdehnaaAmWCommon
import Derived.Test.YtobgmjljbdehnaaAmWRuns
import Derived.Test.YtobgmjljbdehnaaAmLeavU
namespace Go.Am
open Go.RowKit Go.Proofs
def structIs (P : Program) (t : TypeId) (ts : List TypeId) : Bool := match P.underlying t with
  | some (.struct fs) => fs.toList.map (·.type) == ts
  | _ => false
theorem structIs_of {P : Program} {t : TypeId} {ts : List TypeId} (h : structIs P t ts = true) : ∃ fs : Array Field, P.underlying t = some (.struct fs) ∧ fs.toList.map (·.type) = ts := by
  unfold structIs at h
  split at h
  · rename_i fs hu
    exact ⟨fs, hu, by simpa using h⟩
  · cases h
theorem u32s : ∃ fs : Array Field, Try.prog.underlying 32 = some (.struct fs) ∧ fs.toList.map (·.type) = [3, 3, 3] := structIs_of (by kernel_rfl)
/-- A datum of a struct's type. -/
theorem reps_struct {H : Type} {P : Program} {h : Heap} {d : DataW H} {t : TypeId} {xs : List AV} {fs : Array Field} (hu : P.underlying t = some (.struct fs)) (h2 : Reps P h d t xs) : ∃ ps, d = .agg ps ∧ RepsFields P h ps (fs.toList.map (·.type)) xs := by
  match d, h2 with
  | .lit (.bool b), h2 => simp [Reps, hu] at h2
  | .lit (.int k' n), h2 => simp [Reps, hu] at h2
  | .lit (.string s), h2 => simp [Reps, hu] at h2
  | .nil, h2 => simp [Reps, hu] at h2
  | .slice es n, h2 => simp [Reps, hu] at h2
  | .agg ps, h2 =>
    simp only [Reps] at h2
    rcases h2 with ⟨fs', h3, h4⟩ | ⟨n, e, h3, _⟩
    · rw [hu] at h3
      cases h3
      exact ⟨ps, rfl, h4⟩
    · rw [hu] at h3; cases h3
  | .ptr _, h2 => simp [Reps] at h2
  | .iface _ _, h2 => simp [Reps] at h2
  | .map _, h2 => simp [Reps] at h2
  | .held _, h2 => simp [Reps] at h2
theorem fields_cons {H : Type} {P : Program} {h : Heap} {ds : List (DataW H)} {t : TypeId} {ts : List TypeId} {xs : List AV} (hr : RepsFields P h ds (t :: ts) xs) : ∃ d ds' x y, ds = d :: ds' ∧ xs = x ++ y ∧ Reps P h d t x ∧ RepsFields P h ds' ts y := by
  match ds, hr with
  | [], hr => simp [RepsFields] at hr
  | d :: ds, hr =>
    simp only [RepsFields] at hr
    obtain ⟨t', ts', x, y, h1, h2, _, h4, h5⟩ := hr
    cases h1
    exact ⟨d, ds, x, y, rfl, h2, h4, h5⟩
theorem fields_nil {H : Type} {P : Program} {h : Heap} {ds : List (DataW H)} {xs : List AV} (hr : RepsFields P h ds [] xs) : ds = [] ∧ xs = [] := by
  match ds, hr with
  | [], hr => simp only [RepsFields] at hr; exact ⟨rfl, hr.2⟩
  | d :: ds, hr =>
    simp only [RepsFields] at hr
    obtain ⟨t', ts', x, y, h1, _⟩ := hr
    cases h1
section
open Go.Proofs.Ytobgmjljbdehnaa.Rows
theorem bulk_pos {H : Type} : ∀ d : DataW H, 1 ≤ uptoBulk d
  | .lit (.string bytes) => by simp only [uptoBulk]; omega
  | .lit (.bool _) => by simp only [uptoBulk]; omega
  | .lit (.int _ _) => by simp only [uptoBulk]; omega
  | .lit (.float _ _) => by simp only [uptoBulk]; omega
  | .lit .nil => by simp only [uptoBulk]; omega
  | .nil => by simp only [uptoBulk]; omega
  | .ptr d => by simp only [uptoBulk]; omega
  | .slice _ _ => by simp only [uptoBulk]; omega
  | .agg _ => by simp only [uptoBulk]; omega
  | .iface _ _ => by simp only [uptoBulk]; omega
  | .map _ => by simp only [uptoBulk]; omega
  | .held _ => by simp only [uptoBulk]; omega
theorem bulk_all {H : Type} : ∀ ds : List (DataW H), ds.length ≤ uptoBulkAll ds
  | [] => by simp [uptoBulkAll]
  | d :: ds => by
    have := bulk_pos d
    have := bulk_all ds
    simp only [uptoBulkAll, List.length_cons]; omega
theorem bulk_append {H : Type} : ∀ ds es : List (DataW H), uptoBulkAll ds ≤ uptoBulkAll (ds ++ es)
  | [], es => by simp [uptoBulkAll]
  | d :: ds, es => by
    have := bulk_append ds es
    simp only [uptoBulkAll, List.cons_append]; omega
theorem bulk_of {H : Type} {ds gs : List (DataW H)} (hk : uptoSmall H (ds ++ gs) = true) : uptoBulkAll ds ≤ 1048576 := by
  have h1 := bulk_append ds gs
  have h2 : uptoBulkAll (ds ++ gs) ≤ 1048576 := by simpa [uptoSmall] using hk
  omega

theorem row_ops {H : Type} {h : Heap} : ∀ {es : List (DataW H)} {cs : List AV}, RepsRow Try.prog h es 32 cs → ∃ js : List (Int × Int × Int), cs = (rowsO js).flatten ∧ js.length = es.length
  | [], cs, hr => by simp only [RepsRow] at hr; exact ⟨[], by simp [hr, rowsO], rfl⟩
  | d :: es, cs, hr => by
    simp only [RepsRow] at hr
    obtain ⟨x, y, rfl, _, h1, h2⟩ := hr
    obtain ⟨fs, hu, hf⟩ := u32s
    obtain ⟨ps, rfl, h3⟩ := reps_struct hu h1
    rw [hf] at h3
    obtain ⟨d1, ds, x1, y1, rfl, rfl, q1, h3⟩ := fields_cons h3
    obtain ⟨d2, ds, x2, y2, rfl, rfl, q2, h3⟩ := fields_cons h3
    obtain ⟨d3, ds, x3, y3, rfl, rfl, q3, h3⟩ := fields_cons h3
    obtain ⟨rfl, rfl⟩ := fields_nil h3
    obtain ⟨n1, _, rfl, _⟩ := reps_int u3 q1
    obtain ⟨n2, _, rfl, _⟩ := reps_int u3 q2
    obtain ⟨n3, _, rfl, _⟩ := reps_int u3 q3
    obtain ⟨js, rfl, hl⟩ := row_ops h2
    exact ⟨(n1, n2, n3) :: js, by simp [rowsO], by simp [hl]⟩
set_option maxRecDepth 100000 in
theorem slr_ops {H : Type} {h : Heap} {d : DataW H} {xs : List AV} (h2 : Reps Try.prog h d 27 xs) : ∃ v js, xs = [v] ∧ Slr h 3 v (rowsO js) ∧ js.length ≤ uptoBulk d := by
  have hall : ∀ js : List (Int × Int × Int), ∀ r ∈ rowsO js, r.length = 3 := by
    intro js r hr
    simp only [rowsO, List.mem_map] at hr
    obtain ⟨j, _, rfl⟩ := hr
    rfl
  have hlen : ∀ js : List (Int × Int × Int), (rowsO js).length = js.length := by simp [rowsO]
  rcases reps_slice u27 h2 with ⟨rfl, rfl⟩ | ⟨es, sp, i, cs, rfl, rfl, hg, hr⟩
  · exact ⟨_, [], rfl, ⟨hall [], rfl, rfl⟩, by simp⟩
  · obtain ⟨js, rfl, hl⟩ := row_ops hr
    have hfl := flatten_length (hall js)
    rw [hlen] at hfl
    refine ⟨_, js, rfl, ⟨hall js, by rw [hlen]; exact hl, ?_⟩, ?_⟩
    · by_cases he : es = []
      · exact .inl (by simp [he])
      · refine .inr ⟨_, .ro, hg he, by simp only []; omega, ?_⟩
        rw [List.drop_zero, ← hl, ← hfl, List.take_length]
    · have := bulk_all es
      simp only [uptoBulk]; omega
set_option maxRecDepth 100000 in
theorem arg_ops {H : Type} {h : Heap} {d : DataW H} {a : AV} (hr : ∃ xs, ArgIs Try.prog 27 a xs ∧ Reps Try.prog h d 27 xs) : ∃ js, Slr h 3 a (rowsO js) ∧ js.length ≤ uptoBulk d := by
  obtain ⟨xs, h1, h2⟩ := hr
  unfold ArgIs at h1
  rw [u27] at h1
  simp only at h1
  subst h1
  obtain ⟨v, js, hv, h3⟩ := slr_ops h2
  cases hv
  exact ⟨js, h3⟩
end
end Go.Am
namespace Go.Proofs.Ytobgmjljbdehnaa.Runs
open Go.ChangeShapes Go.WideShapes Go.ChangeAt Go.RowKit Go.Am
set_option maxRecDepth 100000 in
theorem walk {H : Type} {h : Heap} {ds : List (DataW H)} {as' : List AV} (hk : Rows.uptoBulkAll ds ≤ 1048576) (hr : RepsArgs Try.prog h ds [27] as') (hb : ∀ i, h.next ≤ i → h.get i = none) : ∃ h', CallOk Try.prog 5 as' h (.ret (.bool true) h') := by
  obtain ⟨d1, ds, a1, as', rfl, rfl, r1, hr⟩ := repsArgs_cons hr
  obtain ⟨rfl, rfl⟩ := repsArgs_nil hr
  obtain ⟨js, hs, hl⟩ := arg_ops r1
  simp only [Rows.uptoBulkAll] at hk
  obtain ⟨h', hc⟩ := runs_ok (wf_of hb) hs (by omega)
  exact ⟨h', calls_ok _ _ _ _ hc⟩

set_option maxRecDepth 100000 in
theorem lifted (os : Os) (started : os.Started) (H : Type) (enc : TypeId × Value → H) (F : Stop.Interp) :
    ReturnsInLeavingWide { calm := true } Try.checked os 5 .any ((Rows.OpenSpec.upto Rows.watchRunsSpec).pre6 enc Try.prog Try.f5 Rows.watchRunsUptoRow.domain false) ((Rows.OpenSpec.upto Rows.watchRunsSpec).postWith enc Try.prog Try.f5 F (outsideKept [.timePasses]) false true false) := by
  refine leaving_of_handed (handed_time_upto (C := Try.checked) (s := Rows.watchRunsSpec) (k := Rows.uptoSmall) own started (by kernel_rfl) Try.func5
    (upto_witness (enc := enc) (C := Try.checked) (s := Rows.OpenSpec.upto Rows.watchRunsSpec) (k := Rows.uptoSmall) rfl ⟨#[], #[.slice none 0 0], []⟩ 8 (by kernel_rfl) (by kernel_rfl) (by kernel_rfl)
      (x := ([.nil], [], [])) (by kernel_rfl) rfl (by kernel_rfl)) ?_)
  intro W base args ds gs before hval hW _ hk
  refine law_contract (spec := Rows.watchRunsSpec) (dep := 8) (tb := 4) watch_laid fns_ok (by kernel_rfl) rfl rfl rfl u4 ?_ (by kernel_rfl) (by kernel_rfl) hval hW ?_
  · intro ds hl
    match ds, hl with
    | [d1], _ => rfl
  · intro h as' hr _ _ hb
    exact walk (bulk_of hk) hr hb

theorem proved : Rows.WatchRunsUptoSaid :=
  OpenClaim.holds_of_cond_leaving_time 5 Try.f5 rfl rfl rfl rfl rfl rfl rfl ⟨rfl, rfl, rfl, rfl, rfl⟩ rfl rfl rfl rfl rfl (by kernel_rfl) Try.func5 (by kernel_rfl)
    (of_decide_eq_true (by kernel_rfl)) (by unfold Func.isWrapper; first | (rw [if_pos (by decide +kernel)]; kernel_rfl) | (rw [if_neg (by decide +kernel)]; exact ⟨rfl, rfl⟩))
    (fun os started H enc _ F => lifted os started H enc F)
#print axioms proved
end Go.Proofs.Ytobgmjljbdehnaa.Runs
