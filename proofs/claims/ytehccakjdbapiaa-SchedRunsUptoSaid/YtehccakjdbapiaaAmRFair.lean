/- 'musterlaw17.SchedFair' returns true for every input whose bulk is at most 1048576 (the second form), and each argument reads behind the call as it read before. -/
import Derived.Test.YtehccakjdbapiaaAmRCommon
import Derived.Test.YtehccakjdbapiaaAmSFair
namespace Go.Am
open Go.RowKit Go.Proofs
open Go.Proofs.Ytehccakjdbapiaa.Rows in
theorem row_lists {H : Type} {h : Heap} : ∀ {es : List (DataW H)} {cs : List AV}, RepsRow Try.prog h es 31 cs → ∃ rs, Sls h cs rs ∧ rs.length = es.length ∧ ∀ r ∈ rs, r.length ≤ uptoBulkAll es
  | [], cs, hr => by
    simp only [RepsRow] at hr
    subst hr
    exact ⟨[], ⟨rfl, fun i v r hv => by simp at hv⟩, rfl, by simp⟩
  | d :: es, cs, hr => by
    simp only [RepsRow] at hr
    obtain ⟨x, y, rfl, _, h1, h2⟩ := hr
    obtain ⟨v, bs, rfl, hs, hl⟩ := sl_bools h1
    obtain ⟨rs, hss, hrl, hb⟩ := row_lists h2
    refine ⟨bs :: rs, ⟨by simp [hss.1], ?_⟩, by simp [hrl], ?_⟩
    · intro i v' r hv hr
      cases i with
      | zero => simp at hv hr; subst hv; subst hr; exact hs
      | succ i => exact hss.2 i v' r (by simpa using hv) (by simpa using hr)
    · intro r hr
      simp only [uptoBulkAll]
      rcases List.mem_cons.1 hr with rfl | hr
      · omega
      · have := hb r hr; omega
open Go.Proofs.Ytehccakjdbapiaa.Rows in
theorem arg_lists {H : Type} {h : Heap} {d : DataW H} {a : AV} (hr : ∃ xs, ArgIs Try.prog 23 a xs ∧ Reps Try.prog h d 23 xs) : ∃ vs rs, Sl h a vs ∧ Sls h vs rs ∧ rs.length ≤ uptoBulk d ∧ ∀ r ∈ rs, r.length ≤ uptoBulk d := by
  obtain ⟨xs, h1, h2⟩ := hr
  unfold ArgIs at h1
  rw [u23] at h1
  simp only at h1
  subst h1
  rcases reps_slice u23 h2 with ⟨rfl, hx⟩ | ⟨es, sp, i, cs, rfl, hx, hg, hr⟩
  · cases hx
    exact ⟨[], [], ⟨rfl, rfl⟩, ⟨rfl, fun i v r hv => by simp at hv⟩, by simp, by simp⟩
  · cases hx
    obtain ⟨rs, hss, hrl, hb⟩ := row_lists hr
    have := bulk_all es
    refine ⟨cs, rs, sl_of_row rfl (by rw [hss.1, hrl]) (fun h0 => hg (by intro hh; simp [hh] at h0)), hss, by simp only [uptoBulk]; omega, fun r hr => by have := hb r hr; simp only [uptoBulk]; omega⟩
end Go.Am
namespace Go.Proofs.Ytehccakjdbapiaa.Fair
open Go.ChangeShapes Go.WideShapes Go.ChangeAt Go.RowKit Go.Am

theorem walk {H : Type} {h : Heap} {ds : List (DataW H)} {as' : List AV} (hk : Rows.uptoBulkAll ds ≤ 1048576) (hr : RepsArgs Try.prog h ds [22, 3, 23] as') (hb : ∀ i, h.next ≤ i → h.get i = none) : ∃ h', CallOk Try.prog 4 as' h (.ret (.bool true) h') := by
  obtain ⟨d1, ds, a1, as', rfl, rfl, r1, hr⟩ := repsArgs_cons hr
  obtain ⟨d2, ds, a2, as', rfl, rfl, r2, hr⟩ := repsArgs_cons hr
  obtain ⟨d3, ds, a3, as', rfl, rfl, r3, hr⟩ := repsArgs_cons hr
  obtain ⟨rfl, rfl⟩ := repsArgs_nil hr
  obtain ⟨ns, hs, hl, _⟩ := arg_ints r1
  obtain ⟨n2, rfl, hw2⟩ := arg_int u3 r2
  obtain ⟨vs, rs, hcs, hss, hrl, hrm⟩ := arg_lists r3
  simp only [Rows.uptoBulkAll] at hk
  have h2 : -9223372036854775808 ≤ n2 ∧ n2 ≤ 9223372036854775807 := by simpa [Lit.wf, IntKind.min, IntKind.max, IntKind.signed, IntKind.bits] using hw2
  obtain ⟨h', hc⟩ := fair_ok ovTrue_sched (ovTrue_ne rfl) (wf_of hb) hs (by omega) n2 h2 hcs hss (by omega) (fun r hr => by have := hrm r hr; omega)
  exact ⟨h', calls_ok _ _ _ _ hc⟩

set_option maxRecDepth 100000 in
theorem lifted (os : Os) (started : os.Started) (H : Type) (enc : TypeId × Value → H) (F : Stop.Interp) :
    ReturnsInHanded {} Try.checked os 4 .any ((Rows.OpenSpec.upto Rows.schedFairSpec).pre6 enc Try.prog Try.f4 Rows.schedFairUptoRow.domain false) (((Rows.OpenSpec.upto Rows.schedFairSpec).at F).post enc Try.prog Try.f4 false true false false) := by
  refine returnsInHanded_of_cond (C := Try.checked) (s := Rows.OpenSpec.upto Rows.schedFairSpec) (k := Rows.uptoSmall) rfl own started (by kernel_rfl) Try.func4
    (OpenSpec.witness (enc := enc) (C := Try.checked) (s := Rows.OpenSpec.upto Rows.schedFairSpec) (k := Rows.uptoSmall) rfl false ⟨#[], #[.slice none 0 0, .int .i64 0, .slice none 0 0], []⟩ 8 (by kernel_rfl) (by kernel_rfl) (by kernel_rfl)
      (x := ([.nil, .lit (.int .i64 0), .nil], [], [])) (by kernel_rfl) rfl (by kernel_rfl)) ?_
  intro W base args ds gs before hval hW _ hk _
  refine law_contract (spec := Rows.schedFairSpec) (dep := 8) (tb := 4) sched_laid rfl rfl u4 ?_ (by kernel_rfl) (by kernel_rfl) hval hW ?_
  · intro ds hl
    match ds, hl with
    | [d1, d2, d3], _ => rfl
  · intro h as' hr _ _ hb
    exact walk (bulk_of hk) hr hb

theorem proved : Rows.SchedFairUptoSaid :=
  OpenClaim.holds_of_cond 4 Try.f4 rfl rfl rfl rfl rfl rfl rfl ⟨rfl, rfl, rfl, rfl, rfl⟩ rfl rfl rfl rfl rfl (by kernel_rfl) Try.func4 (by kernel_rfl)
    (of_decide_eq_true (by kernel_rfl)) (by unfold Func.isWrapper; first | (rw [if_pos (by decide +kernel)]; kernel_rfl) | (rw [if_neg (by decide +kernel)]; exact ⟨rfl, rfl⟩))
    (fun os started H enc _ F => lifted os started H enc F)
#print axioms proved
end Go.Proofs.Ytehccakjdbapiaa.Fair
