/- 'musterlaw17.SchedLogs' returns true for every input whose bulk is at most 1048576 (the second form), and its arguments read behind the call as they read before. -/
import Derived.Test.YtehccakjdbapiaaAmGRLogs17
import Derived.Test.YtehccakjdbapiaaAmGRLogs16
namespace Go.Am
open Go.RowKit Go.Proofs
def structIs (P : Program) (t : TypeId) (ts : List TypeId) : Bool := match P.underlying t with
  | some (.struct fs) => fs.toList.map (·.type) == ts
  | _ => false
theorem structIs_of {P : Program} {t : TypeId} {ts : List TypeId} (h : structIs P t ts = true) : ∃ fs : Array Field, P.underlying t = some (.struct fs) ∧ fs.toList.map (·.type) = ts := by
  unfold structIs at h
  split at h
  · rename_i fs hu
    exact ⟨fs, hu, by simpa using h⟩
  · cases h
theorem u43 : ∃ fs : Array Field, Try.prog.underlying 43 = some (.struct fs) ∧ fs.toList.map (·.type) = [41, 22, 3, 3] := structIs_of (by kernel_rfl)
theorem u49 : ∃ fs : Array Field, Try.prog.underlying 49 = some (.struct fs) ∧ fs.toList.map (·.type) = [3, 3] := structIs_of (by kernel_rfl)
/-- A datum of a struct's type. -/
theorem reps_struct {H : Type} {P : Program} {h : Heap} {d : DataW H} {t : TypeId} {xs : List AV} {fs : Array Field} (hu : P.underlying t = some (.struct fs)) (h2 : Reps P h d t xs) : ∃ ps, d = .agg ps ∧ RepsFields P h ps (fs.toList.map (·.type)) xs := by
  match d, h2 with
  | .lit (.bool b), h2 => simp [Reps, hu] at h2
  | .lit (.int k' n), h2 => simp [Reps, hu] at h2
  | .lit (.string s), h2 => simp [Reps, hu] at h2
  | .nil, h2 => simp [Reps, hu] at h2
  | .slice es n, h2 => simp [Reps, hu] at h2
  | .agg ps, h2 =>
    simp only [Reps] at h2
    rcases h2 with ⟨fs', h3, h4⟩ | ⟨n, e, h3, _⟩
    · rw [hu] at h3
      cases h3
      exact ⟨ps, rfl, h4⟩
    · rw [hu] at h3; cases h3
  | .ptr _, h2 => simp [Reps] at h2
  | .iface _ _, h2 => simp [Reps] at h2
  | .map _, h2 => simp [Reps] at h2
  | .held _, h2 => simp [Reps] at h2
theorem fields_cons {H : Type} {P : Program} {h : Heap} {ds : List (DataW H)} {t : TypeId} {ts : List TypeId} {xs : List AV} (hr : RepsFields P h ds (t :: ts) xs) : ∃ d ds' x y, ds = d :: ds' ∧ xs = x ++ y ∧ Reps P h d t x ∧ RepsFields P h ds' ts y := by
  match ds, hr with
  | [], hr => simp [RepsFields] at hr
  | d :: ds, hr =>
    simp only [RepsFields] at hr
    obtain ⟨t', ts', x, y, h1, h2, _, h4, h5⟩ := hr
    cases h1
    exact ⟨d, ds, x, y, rfl, h2, h4, h5⟩
theorem fields_nil {H : Type} {P : Program} {h : Heap} {ds : List (DataW H)} {xs : List AV} (hr : RepsFields P h ds [] xs) : ds = [] ∧ xs = [] := by
  match ds, hr with
  | [], hr => simp only [RepsFields] at hr; exact ⟨rfl, hr.2⟩
  | d :: ds, hr =>
    simp only [RepsFields] at hr
    obtain ⟨t', ts', x, y, h1, _⟩ := hr
    cases h1
theorem row_jobs {H : Type} {h : Heap} : ∀ {es : List (DataW H)} {cs : List AV}, RepsRow Try.prog h es 49 cs → ∃ js : List (Int × Int), cs = (rowsJ js).flatten ∧ js.length = es.length
  | [], cs, hr => by simp only [RepsRow] at hr; exact ⟨[], by simp [hr, rowsJ], rfl⟩
  | d :: es, cs, hr => by
    simp only [RepsRow] at hr
    obtain ⟨x, y, rfl, _, h1, h2⟩ := hr
    obtain ⟨fs, hu, hf⟩ := u49
    obtain ⟨ps, rfl, h3⟩ := reps_struct hu h1
    rw [hf] at h3
    obtain ⟨d1, ds, x1, y1, rfl, rfl, q1, h3⟩ := fields_cons h3
    obtain ⟨d2, ds, x2, y2, rfl, rfl, q2, h3⟩ := fields_cons h3
    obtain ⟨rfl, rfl⟩ := fields_nil h3
    obtain ⟨n1, _, rfl, _⟩ := reps_int u3 q1
    obtain ⟨n2, _, rfl, _⟩ := reps_int u3 q2
    obtain ⟨js, rfl, hl⟩ := row_jobs h2
    exact ⟨(n1, n2) :: js, by simp [rowsJ], by simp [hl]⟩
open Go.Proofs.Ytehccakjdbapiaa.Rows in
theorem slr_jobs {H : Type} {h : Heap} {d : DataW H} {xs : List AV} (h2 : Reps Try.prog h d 41 xs) : ∃ v js, xs = [v] ∧ Slr h 2 v (rowsJ js) ∧ js.length ≤ uptoBulk d := by
  have hall : ∀ js : List (Int × Int), ∀ r ∈ rowsJ js, r.length = 2 := by
    intro js r hr
    simp only [rowsJ, List.mem_map] at hr
    obtain ⟨j, _, rfl⟩ := hr
    rfl
  rcases reps_slice u41 h2 with ⟨rfl, rfl⟩ | ⟨es, sp, i, cs, rfl, rfl, hg, hr⟩
  · exact ⟨_, [], rfl, ⟨hall [], rfl, rfl⟩, by simp⟩
  · obtain ⟨js, rfl, hl⟩ := row_jobs hr
    have hfl := flatten_length (hall js)
    rw [rowsJ_length] at hfl
    refine ⟨_, js, rfl, ⟨hall js, by rw [rowsJ_length]; exact hl, ?_⟩, ?_⟩
    · by_cases he : es = []
      · exact .inl (by simp [he])
      · refine .inr ⟨_, .ro, hg he, by simp only []; omega, ?_⟩
        rw [List.drop_zero, ← hl, ← hfl, List.take_length]
    · have := bulk_all es
      simp only [uptoBulk]; omega
end Go.Am
namespace Go.Proofs.Ytehccakjdbapiaa.Logs
open Go.ChangeShapes Go.WideShapes Go.ChangeAt Go.RowKit Go.Am

theorem playOv_sched : PlayOv (ovTrue 10) where
  o12 := ovTrue_ne rfl
  o13 := ovTrue_ne rfl
  o17 := ovTrue_ne rfl
  o18 := ovTrue_ne rfl
  o19 := ovTrue_ne rfl
  o20 := ovTrue_ne rfl
  o21 := ovTrue_ne rfl
  o22 := ovTrue_ne rfl
  o23 := ovTrue_ne rfl
  o24 := ovTrue_ne rfl
  o26 := ovTrue_ne rfl
  o46 := ovTrue_ne rfl
  o47 := ovTrue_ne rfl

theorem walk {H : Type} {h : Heap} {ds : List (DataW H)} {as' : List AV} (hk : Rows.uptoBulkAll ds ≤ 1048576) (hr : RepsArgs Try.prog h ds [43, 3] as') (hb : ∀ i, h.next ≤ i → h.get i = none) : SCall Try.prog 9 as' h (fun r => ∃ h', r = .ret (.bool true) h') := by
  obtain ⟨d1, ds, a1, as', rfl, rfl, ⟨xs, r0, r1⟩, hr⟩ := repsArgs_cons hr
  obtain ⟨d9, ds, a9, as', rfl, rfl, r9, hr⟩ := repsArgs_cons hr
  obtain ⟨rfl, rfl⟩ := repsArgs_nil hr
  obtain ⟨n9, rfl, _⟩ := arg_int u3 r9
  obtain ⟨fs, hu, hf⟩ := u43
  unfold ArgIs at r0
  rw [hu] at r0
  simp only at r0
  subst r0
  obtain ⟨ps, rfl, h3⟩ := reps_struct hu r1
  rw [hf] at h3
  obtain ⟨d1, ds, x1, y1, rfl, rfl, q1, h3⟩ := fields_cons h3
  obtain ⟨d2, ds, x2, y2, rfl, rfl, q2, h3⟩ := fields_cons h3
  obtain ⟨d3, ds, x3, y3, rfl, rfl, q3, h3⟩ := fields_cons h3
  obtain ⟨d4, ds, x4, y4, rfl, rfl, q4, h3⟩ := fields_cons h3
  obtain ⟨rfl, rfl⟩ := fields_nil h3
  obtain ⟨jv, js, rfl, hj, hjl⟩ := slr_jobs q1
  obtain ⟨pv, ns, rfl, hs, hl, _⟩ := sl_ints q2
  obtain ⟨n3, _, rfl, _⟩ := reps_int u3 q3
  obtain ⟨n4, _, rfl, hw4⟩ := reps_int u3 q4
  simp only [Rows.uptoBulkAll, Rows.uptoBulk] at hk
  exact logs_ok (wf_of hb) hj (by omega) hs (by omega) n3 n4 n9 ovTrue_sched playOv_sched

set_option maxRecDepth 100000 in
theorem lifted (os : Os) (started : os.Started) (H : Type) (enc : TypeId × Value → H) (F : Stop.Interp) :
    ReturnsInHanded {} Try.checked os 9 .any ((Rows.OpenSpec.upto Rows.schedLogsSpec).pre6 enc Try.prog Try.f9 Rows.schedLogsUptoRow.domain false) (((Rows.OpenSpec.upto Rows.schedLogsSpec).at F).post enc Try.prog Try.f9 false true false false) := by
  refine returnsInHanded_of_cond (C := Try.checked) (s := Rows.OpenSpec.upto Rows.schedLogsSpec) (k := Rows.uptoSmall) rfl own started (by kernel_rfl) Try.func9
    (OpenSpec.witness (enc := enc) (C := Try.checked) (s := Rows.OpenSpec.upto Rows.schedLogsSpec) (k := Rows.uptoSmall) rfl false ⟨#[], #[.agg #[.slice none 0 0, .slice none 0 0, .int .i64 0, .int .i64 0], .int .i64 0], []⟩ 8 (by kernel_rfl) (by kernel_rfl) (by kernel_rfl)
      (x := ([.agg [.nil, .nil, .lit (.int .i64 0), .lit (.int .i64 0)], .lit (.int .i64 0)], [], [])) (by kernel_rfl) rfl (by kernel_rfl)) ?_
  intro W base args ds gs before hval hW _ hk _
  refine law_contractS (spec := Rows.schedLogsSpec) (dep := 8) (tb := 4) sched_laid fns_ok (by kernel_rfl) rfl rfl rfl u4 ?_ (by kernel_rfl) (by kernel_rfl) hval hW ?_
  · intro ds hl
    match ds, hl with
    | [d1, d2], _ => rfl
  · intro h as' hr _ _ hb
    exact walk (bulk_of hk) hr hb

theorem proved : Rows.SchedLogsUptoSaid :=
  OpenClaim.holds_of_cond 9 Try.f9 rfl rfl rfl rfl rfl rfl rfl ⟨rfl, rfl, rfl, rfl, rfl⟩ rfl rfl rfl rfl rfl (by kernel_rfl) Try.func9 (by kernel_rfl)
    (of_decide_eq_true (by kernel_rfl)) (by unfold Func.isWrapper; first | (rw [if_pos (by decide +kernel)]; kernel_rfl) | (rw [if_neg (by decide +kernel)]; exact ⟨rfl, rfl⟩))
    (fun os started H enc _ F => lifted os started H enc F)
#print axioms proved
end Go.Proofs.Ytehccakjdbapiaa.Logs
