/- 'musterlaw02.WatchFirst' returns true for every input, and each argument reads behind the call as it read before. No condition beyond the row's own. -/
import Derived.Test.YtobgmjljbdehnaaAmWCommon
import Derived.Test.YtobgmjljbdehnaaAmWFirst
namespace Go.Am
open Go.RowKit Go.Proofs
theorem row_ints {H : Type} {h : Heap} : ∀ {es : List (DataW H)} {cs : List AV}, RepsRow Try.prog h es 3 cs → ∃ ns, cs = ints ns ∧ ns.length = es.length
  | [], cs, hr => by simp only [RepsRow] at hr; exact ⟨[], by simp [hr, ints], rfl⟩
  | d :: es, cs, hr => by
    simp only [RepsRow] at hr
    obtain ⟨x, y, rfl, _, h1, h2⟩ := hr
    obtain ⟨n, _, rfl, _⟩ := reps_int u3 h1
    obtain ⟨ns, rfl, hl⟩ := row_ints h2
    exact ⟨n :: ns, by simp [ints], by simp [hl]⟩
set_option maxRecDepth 100000 in
theorem sl_ints {H : Type} {h : Heap} {d : DataW H} {xs : List AV} (h2 : Reps Try.prog h d 37 xs) : ∃ v ns, xs = [v] ∧ Sl h v (ints ns) ∧ ∀ N, N = maxLen → ns.length ≤ N := by
  rcases reps_slice u37 h2 with ⟨rfl, rfl⟩ | ⟨es, sp, i, cs, rfl, rfl, hg, hr⟩
  · exact ⟨_, [], rfl, ⟨rfl, rfl⟩, fun N _ => Nat.zero_le N⟩
  · obtain ⟨ns, rfl, hl⟩ := row_ints hr
    refine ⟨_, ns, rfl, sl_of_row rfl (by simp [hl]) (fun h0 => hg (by intro hh; simp [hh] at h0)), ?_⟩
    intro N hN
    rw [hl, hN]; exact reps_len h2
set_option maxRecDepth 100000 in
/-- An argument that is a slice of integers. -/
theorem arg_ints {H : Type} {h : Heap} {d : DataW H} {a : AV} (hr : ∃ xs, ArgIs Try.prog 37 a xs ∧ Reps Try.prog h d 37 xs) : ∃ ns, Sl h a (ints ns) ∧ ∀ N, N = maxLen → ns.length ≤ N := by
  obtain ⟨xs, h1, h2⟩ := hr
  unfold ArgIs at h1
  rw [u37] at h1
  simp only at h1
  subst h1
  obtain ⟨v, ns, hv, h3⟩ := sl_ints h2
  cases hv
  exact ⟨ns, h3⟩
end Go.Am
namespace Go.Proofs.Ytobgmjljbdehnaa.First
open Go.ChangeShapes Go.WideShapes Go.ChangeAt Go.RowKit Go.Am
theorem walk {H : Type} {h : Heap} {ds : List (DataW H)} {as' : List AV} (hr : RepsArgs Try.prog h ds [3, 37] as') (hb : ∀ i, h.next ≤ i → h.get i = none) : ∃ h', CallOk Try.prog 6 as' h (.ret (.bool true) h') := by
  obtain ⟨d1, ds, a1, as', rfl, rfl, r1, hr⟩ := repsArgs_cons hr
  obtain ⟨d2, ds, a2, as', rfl, rfl, r2, hr⟩ := repsArgs_cons hr
  obtain ⟨rfl, rfl⟩ := repsArgs_nil hr
  obtain ⟨n, rfl, _⟩ := arg_int u3 r1
  obtain ⟨ns, hs, hl⟩ := arg_ints r2
  obtain ⟨h', hc⟩ := first_ok (wf_of hb) n hs (hl _ rfl)
  exact ⟨h', calls_ok _ _ _ _ hc⟩

set_option maxRecDepth 100000 in
theorem lifted (os : Os) (started : os.Started) (H : Type) (enc : TypeId × Value → H) (F : Stop.Interp) :
    ReturnsInLeavingWide { calm := true } Try.checked os 6 .any (Rows.watchFirstSpec.pre6 enc Try.prog Try.f6 Rows.watchFirstRow.domain false) ((OpenSpec.ofChange Rows.watchFirstSpec).postWith enc Try.prog Try.f6 F (outsideKept [.timePasses]) false true false) := by
  refine leaving_of_handed (handed_time (C := Try.checked) own started (by kernel_rfl) Try.func6
    (ChangeSpec.witness6c (enc := enc) (C := Try.checked) ⟨#[], #[.int .i64 0, .slice none 0 0], []⟩ 8 (by kernel_rfl) (by kernel_rfl) (by kernel_rfl) (by kernel_rfl)) ?_)
  intro W base args ds gs before hval0 hW hcnd _
  refine law_contract (dep := 8) (tb := 4) watch_laid fns_ok (by kernel_rfl) rfl rfl rfl u4 ?_ (by kernel_rfl) (by kernel_rfl) hval0 hW ?_
  · intro ds hl
    match ds, hl with
    | [d1, d2], _ => rfl
  · intro h as' hr _ _ hb
    exact walk hr hb

theorem proved : Rows.WatchFirstSaid :=
  OpenClaim.holds_of_wide_leaving_time 6 Try.f6 rfl rfl rfl rfl rfl rfl rfl ⟨rfl, rfl, rfl, rfl, rfl⟩ rfl rfl rfl rfl rfl (by kernel_rfl) Try.func6 (by kernel_rfl)
    (of_decide_eq_true (by kernel_rfl)) (by unfold Func.isWrapper; first | (rw [if_pos (by decide +kernel)]; kernel_rfl) | (rw [if_neg (by decide +kernel)]; exact ⟨rfl, rfl⟩))
    (fun os started H enc _ F => lifted os started H enc F)
#print axioms proved
end Go.Proofs.Ytobgmjljbdehnaa.First
