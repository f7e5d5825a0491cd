/- 'musterlaw20.DnsBack' returns true for every input whose bulk is at most 1048576 (the second form), and its arguments read behind the call as they read before. -/
import Derived.Test.YtnllflgijnloiaaAmGRDBack18
import Derived.Test.YtnllflgijnloiaaAmGRDBack17
set_option linter.unusedSimpArgs false
namespace Go.Am
open Go.RowKit Go.Proofs

/-! ### What is known of calls -/
def SD (r : Rep) (c : Nat) : FuncId → List AV → Heap → CRes → Prop := fun f a h res => (f = 15 ∧ BeginS a h res) ∨ (f = 18 ∧ (∃ bv, a = [bv] ∧ Sl h bv (bytesA (r.wire c))) ∧ ReadP r c h res)
noncomputable def ovD (r : Rep) (c : Nat) : CallF := fun f a h => match ovTrue 5 f a h with | some x => some x | none => specCall Try.prog (SD r c) f a h
theorem ovD_ok (r : Rep) (c : Nat) : CallsOk Try.prog (ovD r c) := by
  intro f a h res hr
  unfold ovD at hr
  split at hr
  · rename_i x hx
    cases hr
    exact alive_ok f a h _ hx
  · exact specCall_ok _ f a h _ hr
theorem ovD_d (r : Rep) (c : Nat) : DOv (ovD r c) := by
  intro f h5 h15 h18 a h
  have hb : Nat.beq f 5 = false := by
    cases hb : Nat.beq f 5 with
    | false => rfl
    | true => exact absurd (Nat.eq_of_beq_eq_true hb) h5
  unfold ovD
  rw [ovTrue_ne hb]
  simp only
  refine specCall_none ?_
  rintro res (⟨h1, _⟩ | ⟨h1, _⟩)
  · exact h15 h1
  · exact h18 h1
theorem ovD_e (r : Rep) (c : Nat) : EOv (ovD r c) where
  d := ovD_d r c
  begin := by
    intro h hw q hq lv hlv fl ans hfl
    refine callT_ov _ _ ?_
    unfold ovD
    rw [ovTrue_ne rfl]
    simp only
    obtain ⟨res, h1, h2⟩ := specCall_get (S := SD r c) (begin_ok hw hq hlv hfl (ans := ans)) (.inl ⟨rfl, q, lv, fl, ans, hq, hlv, hfl, rfl, rfl⟩)
    rw [h1]
    rcases h2 with ⟨_, h3⟩ | ⟨h3, _⟩
    · rw [beginS_det hlv h3]
    · cases h3
theorem ovD_read {r : Rep} {c : Nat} (hr : r.Ok) (hc : c ≤ r.recs.length) (hlen : (r.wire c).length ≤ 65535) : ReadOv (ovD r c) r c := by
  intro h hw bv hs
  obtain ⟨res, h1, h2⟩ := read_ok none0_ok none0_d hw hr hc hlen hs
  obtain ⟨res', h3, h4⟩ := specCall_get (S := SD r c) h1 (.inr ⟨rfl, ⟨bv, rfl, hs⟩, h2⟩)
  refine ⟨res', callT_ov _ _ ?_, ?_⟩
  · unfold ovD
    rw [ovTrue_ne rfl]
    exact h3
  · rcases h4 with ⟨h5, _⟩ | ⟨_, _, h5⟩
    · cases h5
    · exact h5
theorem law_ok {h : Heap} (hw : Wf h) {q : Qu} {rcode : Int} {cut : Bool} {ps : List (Rec × AV)} (hin : Rep.In ⟨q, rcode, cut, ps.map Prod.fst⟩) {lv rv : AV} (hlv : Sl h lv (strs q.labels)) (hrv : RecsAt h rv ps) (limit : Int) :
    ∃ h', CallOk Try.prog 4 [.agg (Rep.cells ⟨q, rcode, cut, []⟩ lv rv), .int .i64 limit] h (.ret (.bool true) h') := by
  obtain ⟨r, hr⟩ : ∃ r : Rep, r = ⟨q, rcode, cut, ps.map Prod.fst⟩ := ⟨_, rfl⟩
  rw [← hr] at hin
  have hcells : Rep.cells ⟨q, rcode, cut, []⟩ lv rv = r.cells lv rv := by rw [hr]; rfl
  obtain ⟨c0, hc0⟩ : ∃ c0, ∀ c, r.Fits limit c → c = c0 := by
    by_cases hx : ∃ c, r.Fits limit c
    · obtain ⟨c0, h0⟩ := hx
      exact ⟨c0, fun c hc => Rep.fits_unique hc h0⟩
    · exact ⟨0, fun c hc => absurd ⟨c, hc⟩ hx⟩
  obtain ⟨h', hb⟩ := back_ok (ovD_e r c0) (fun h => callT_ov _ _ (by unfold ovD; rw [ovTrue_self])) hw hr hin hlv hrv limit (fun c hf hok => by
    have := hc0 c hf
    subst this
    have hl : (r.wire c).length ≤ 65535 := by have := hf.fit; have := hf.low; omega
    exact @ovD_read r c hok hf.le hl)
  rw [hcells]
  exact ⟨h', callT_ok _ _ fns_ok mixed_ok (ovD_ok r c0) _ _ _ _ hb⟩

/-! ### The arguments -/
def structIs (P : Program) (t : TypeId) (ts : List TypeId) : Bool := match P.underlying t with
  | some (.struct fs) => fs.toList.map (·.type) == ts
  | _ => false
theorem structIs_of {P : Program} {t : TypeId} {ts : List TypeId} (h : structIs P t ts = true) : ∃ fs : Array Field, P.underlying t = some (.struct fs) ∧ fs.toList.map (·.type) = ts := by
  unfold structIs at h
  split at h
  · rename_i fs hu
    exact ⟨fs, hu, by simpa using h⟩
  · cases h
theorem u26s : ∃ fs : Array Field, Try.prog.underlying 26 = some (.struct fs) ∧ fs.toList.map (·.type) = [23, 3, 4, 24, 23, 23] := structIs_of (by kernel_rfl)
theorem u29s : ∃ fs : Array Field, Try.prog.underlying 29 = some (.struct fs) ∧ fs.toList.map (·.type) = [26, 3, 4, 27] := structIs_of (by kernel_rfl)
theorem u42s : ∃ fs : Array Field, Try.prog.underlying 42 = some (.struct fs) ∧ fs.toList.map (·.type) = [23, 39, 40, 23, 24] := structIs_of (by kernel_rfl)
theorem reps_struct {H : Type} {P : Program} {h : Heap} {d : DataW H} {t : TypeId} {xs : List AV} {fs : Array Field} (hu : P.underlying t = some (.struct fs)) (h2 : Reps P h d t xs) : ∃ ps, d = .agg ps ∧ RepsFields P h ps (fs.toList.map (·.type)) xs := by
  match d, h2 with
  | .lit (.bool b), h2 => simp [Reps, hu] at h2
  | .lit (.int k' n), h2 => simp [Reps, hu] at h2
  | .lit (.string s), h2 => simp [Reps, hu] at h2
  | .nil, h2 => simp [Reps, hu] at h2
  | .slice es n, h2 => simp [Reps, hu] at h2
  | .agg ps, h2 =>
    simp only [Reps] at h2
    rcases h2 with ⟨fs', h3, h4⟩ | ⟨n, e, h3, _⟩
    · rw [hu] at h3
      cases h3
      exact ⟨ps, rfl, h4⟩
    · rw [hu] at h3; cases h3
  | .ptr _, h2 => simp [Reps] at h2
  | .iface _ _, h2 => simp [Reps] at h2
  | .map _, h2 => simp [Reps] at h2
  | .held _, h2 => simp [Reps] at h2
theorem reps_array {H : Type} {P : Program} {h : Heap} {d : DataW H} {t e : TypeId} {n : Nat} {xs : List AV} (hu : P.underlying t = some (.array n e)) (h2 : Reps P h d t xs) : ∃ ps, d = .agg ps ∧ ps.length = n ∧ RepsRow P h ps e xs := by
  match d, h2 with
  | .lit (.bool b), h2 => simp [Reps, hu] at h2
  | .lit (.int k' n), h2 => simp [Reps, hu] at h2
  | .lit (.string s), h2 => simp [Reps, hu] at h2
  | .nil, h2 => simp [Reps, hu] at h2
  | .slice es n, h2 => simp [Reps, hu] at h2
  | .agg ps, h2 =>
    simp only [Reps] at h2
    rcases h2 with ⟨fs', h3, h4⟩ | ⟨n', e', h3, h4, h5⟩
    · rw [hu] at h3; cases h3
    · rw [hu] at h3
      cases h3
      exact ⟨ps, rfl, h4, h5⟩
  | .ptr _, h2 => simp [Reps] at h2
  | .iface _ _, h2 => simp [Reps] at h2
  | .map _, h2 => simp [Reps] at h2
  | .held _, h2 => simp [Reps] at h2
theorem fields_cons {H : Type} {P : Program} {h : Heap} {ds : List (DataW H)} {t : TypeId} {ts : List TypeId} {xs : List AV} (hr : RepsFields P h ds (t :: ts) xs) : ∃ d ds' x y, ds = d :: ds' ∧ xs = x ++ y ∧ Reps P h d t x ∧ RepsFields P h ds' ts y := by
  match ds, hr with
  | [], hr => simp [RepsFields] at hr
  | d :: ds, hr =>
    simp only [RepsFields] at hr
    obtain ⟨t', ts', x, y, h1, h2, _, h4, h5⟩ := hr
    cases h1
    exact ⟨d, ds, x, y, rfl, h2, h4, h5⟩
theorem fields_nil {H : Type} {P : Program} {h : Heap} {ds : List (DataW H)} {xs : List AV} (hr : RepsFields P h ds [] xs) : ds = [] ∧ xs = [] := by
  match ds, hr with
  | [], hr => simp only [RepsFields] at hr; exact ⟨rfl, hr.2⟩
  | d :: ds, hr =>
    simp only [RepsFields] at hr
    obtain ⟨t', ts', x, y, h1, _⟩ := hr
    cases h1
theorem reps_str {H : Type} {P : Program} {h : Heap} {d : DataW H} {t : TypeId} {xs : List AV} (hu : P.underlying t = some .string) (h2 : Reps P h d t xs) : ∃ s, d = .lit (.string s) ∧ xs = [.str s] := by
  match d, h2 with
  | .lit (.bool b), h2 => simp [Reps, hu] at h2
  | .lit (.int k' n), h2 => simp [Reps, hu] at h2
  | .lit (.string s), h2 => simp only [Reps] at h2; exact ⟨s, rfl, h2.2.2⟩
  | .nil, h2 => simp [Reps, hu] at h2
  | .slice es n, h2 => simp [Reps, hu] at h2
  | .agg ps, h2 => simp [Reps, hu] at h2
  | .ptr _, h2 => simp [Reps] at h2
  | .iface _ _, h2 => simp [Reps] at h2
  | .map _, h2 => simp [Reps] at h2
  | .held _, h2 => simp [Reps] at h2
theorem in16_of {n : Int} (h : (Lit.int .u16 n).wf = true) : u16In n := by
  have : 0 ≤ n ∧ n ≤ 65535 := by simpa [Lit.wf, IntKind.min, IntKind.max, IntKind.signed, IntKind.bits] using h
  exact ⟨this.1, by omega⟩
theorem in32_of {n : Int} (h : (Lit.int .u32 n).wf = true) : u32In n := by
  have : 0 ≤ n ∧ n ≤ 4294967295 := by simpa [Lit.wf, IntKind.min, IntKind.max, IntKind.signed, IntKind.bits] using h
  exact ⟨this.1, by omega⟩
theorem byte_of {n : Int} (h : (Lit.int .u8 n).wf = true) : ∃ b, AV.int .u8 n = byteA b := by
  have h2 : 0 ≤ n ∧ n ≤ 255 := by simpa [Lit.wf, IntKind.min, IntKind.max, IntKind.signed, IntKind.bits] using h
  refine ⟨b8 n, ?_⟩
  rw [byteA, b8_nat]
  congr 1
  omega
open Go.Proofs.Ytnllflgijnloiaa.Rows in
theorem row_strs {H : Type} {h : Heap} : ∀ {es : List (DataW H)} {cs : List AV}, RepsRow Try.prog h es 9 cs → ∃ ls, cs = strs ls ∧ ls.length = es.length ∧ ∀ l ∈ ls, l.length ≤ uptoBulkAll es
  | [], cs, hr => by simp only [RepsRow] at hr; exact ⟨[], by simp [hr, strs], rfl, by simp⟩
  | d :: es, cs, hr => by
    simp only [RepsRow] at hr
    obtain ⟨x, y, rfl, _, h1, h2⟩ := hr
    obtain ⟨s, rfl, rfl⟩ := reps_str u9 h1
    obtain ⟨ls, rfl, hl, hb⟩ := row_strs h2
    refine ⟨s :: ls, by simp [strs], by simp [hl], ?_⟩
    intro l hm
    simp only [uptoBulkAll, uptoBulk]
    rcases List.mem_cons.1 hm with rfl | hm
    · omega
    · have := hb l hm; omega
open Go.Proofs.Ytnllflgijnloiaa.Rows in
theorem sl_strs {H : Type} {h : Heap} {d : DataW H} {xs : List AV} (h2 : Reps Try.prog h d 24 xs) : ∃ v ls, xs = [v] ∧ Sl h v (strs ls) ∧ ls.length ≤ uptoBulk d ∧ ∀ l ∈ ls, l.length ≤ uptoBulk d := by
  rcases reps_slice u24 h2 with ⟨rfl, rfl⟩ | ⟨es, sp, i, cs, rfl, rfl, hg, hr⟩
  · exact ⟨_, [], rfl, ⟨rfl, rfl⟩, by simp, by simp⟩
  · obtain ⟨ls, rfl, hl, hb⟩ := row_strs hr
    have := bulk_all es
    refine ⟨_, ls, rfl, sl_of_row rfl (by rw [strs_length]; exact hl) (fun h0 => hg (by intro hh; simp [hh] at h0)), ?_, fun l hm => ?_⟩
    · simp only [uptoBulk]; omega
    · have := hb l hm; simp only [uptoBulk]; omega
theorem reps_addr {H : Type} {h : Heap} {d : DataW H} {xs : List AV} (h2 : Reps Try.prog h d 40 xs) : ∃ a b c e : UInt8, xs = [byteA a, byteA b, byteA c, byteA e] := by
  obtain ⟨ps, rfl, hn, hr⟩ := reps_array u40 h2
  match ps, hn with
  | [d1, d2, d3, d4], _ =>
    simp only [RepsRow] at hr
    obtain ⟨x1, y1, rfl, _, q1, x2, y2, rfl, _, q2, x3, y3, rfl, _, q3, x4, y4, rfl, _, q4, rfl⟩ := hr
    obtain ⟨n1, _, rfl, w1⟩ := reps_int u5 q1
    obtain ⟨n2, _, rfl, w2⟩ := reps_int u5 q2
    obtain ⟨n3, _, rfl, w3⟩ := reps_int u5 q3
    obtain ⟨n4, _, rfl, w4⟩ := reps_int u5 q4
    obtain ⟨b1, e1⟩ := byte_of w1
    obtain ⟨b2, e2⟩ := byte_of w2
    obtain ⟨b3, e3⟩ := byte_of w3
    obtain ⟨b4, e4⟩ := byte_of w4
    rw [e1, e2, e3, e4]
    exact ⟨b1, b2, b3, b4, rfl⟩
open Go.Proofs.Ytnllflgijnloiaa.Rows in
theorem reps_rec {H : Type} {h : Heap} {d : DataW H} {xs : List AV} (h2 : Reps Try.prog h d 42 xs) : ∃ (x : Rec) (tv : AV), xs = x.cells tv ∧ Sl h tv (strs x.target) ∧ u16In x.ty ∧ u32In x.ttl ∧ u16In x.port ∧ x.target.length ≤ uptoBulk d ∧ ∀ l ∈ x.target, l.length ≤ uptoBulk d := by
  obtain ⟨fs, hu, hf⟩ := u42s
  obtain ⟨ps, rfl, h3⟩ := reps_struct hu h2
  rw [hf] at h3
  obtain ⟨d1, ds, x1, y1, rfl, rfl, q1, h3⟩ := fields_cons h3
  obtain ⟨d2, ds, x2, y2, rfl, rfl, q2, h3⟩ := fields_cons h3
  obtain ⟨d3, ds, x3, y3, rfl, rfl, q3, h3⟩ := fields_cons h3
  obtain ⟨d4, ds, x4, y4, rfl, rfl, q4, h3⟩ := fields_cons h3
  obtain ⟨d5, ds, x5, y5, rfl, rfl, q5, h3⟩ := fields_cons h3
  obtain ⟨rfl, rfl⟩ := fields_nil h3
  obtain ⟨n1, _, rfl, w1⟩ := reps_int u23 q1
  obtain ⟨n2, _, rfl, w2⟩ := reps_int u39 q2
  obtain ⟨a, b, c, e, rfl⟩ := reps_addr q3
  obtain ⟨n4, _, rfl, w4⟩ := reps_int u23 q4
  obtain ⟨tv, ls, rfl, hs, hl, hb⟩ := sl_strs q5
  refine ⟨⟨n1, n2, a, b, c, e, n4, ls⟩, tv, rfl, hs, in16_of w1, in32_of w2, in16_of w4, ?_, fun l hm => ?_⟩
  · simp only [uptoBulk, uptoBulkAll]; omega
  · have := hb l hm; simp only [uptoBulk, uptoBulkAll]; omega
open Go.Proofs.Ytnllflgijnloiaa.Rows in
theorem row_recs {H : Type} {h : Heap} : ∀ {es : List (DataW H)} {cs : List AV}, RepsRow Try.prog h es 42 cs → ∃ ps : List (Rec × AV), cs = (ps.map fun p => p.1.cells p.2).flatten ∧ ps.length = es.length ∧ ∀ p ∈ ps, Sl h p.2 (strs p.1.target) ∧ u16In p.1.ty ∧ u32In p.1.ttl ∧ u16In p.1.port ∧ p.1.target.length ≤ uptoBulkAll es ∧ ∀ l ∈ p.1.target, l.length ≤ uptoBulkAll es
  | [], cs, hr => by simp only [RepsRow] at hr; exact ⟨[], by simp [hr], rfl, by simp⟩
  | d :: es, cs, hr => by
    simp only [RepsRow] at hr
    obtain ⟨x, y, rfl, _, h1, h2⟩ := hr
    obtain ⟨r, tv, rfl, a1, a2, a3, a4, a5, a6⟩ := reps_rec h1
    obtain ⟨ps, rfl, hl, hb⟩ := row_recs h2
    refine ⟨(r, tv) :: ps, by simp, by simp [hl], ?_⟩
    intro p hm
    simp only [uptoBulkAll]
    rcases List.mem_cons.1 hm with rfl | hm
    · exact ⟨a1, a2, a3, a4, by simp only []; omega, fun l hl => by have := a6 l hl; omega⟩
    · obtain ⟨b1, b2, b3, b4, b5, b6⟩ := hb p hm
      exact ⟨b1, b2, b3, b4, by omega, fun l hl => by have := b6 l hl; omega⟩
open Go.Proofs.Ytnllflgijnloiaa.Rows in
theorem slr_recs {H : Type} {h : Heap} {d : DataW H} {xs : List AV} (h2 : Reps Try.prog h d 27 xs) : ∃ v ps, xs = [v] ∧ RecsAt h v ps ∧ ps.length ≤ uptoBulk d ∧ ∀ p ∈ ps, u16In p.1.ty ∧ u32In p.1.ttl ∧ u16In p.1.port ∧ p.1.target.length ≤ uptoBulk d ∧ ∀ l ∈ p.1.target, l.length ≤ uptoBulk d := by
  have hall : ∀ ps : List (Rec × AV), ∀ r ∈ ps.map (fun p => p.1.cells p.2), r.length = 8 := by
    intro ps r hr
    obtain ⟨p, _, rfl⟩ := List.mem_map.1 hr
    rfl
  rcases reps_slice u27 h2 with ⟨rfl, rfl⟩ | ⟨es, sp, i, cs, rfl, rfl, hg, hr⟩
  · exact ⟨_, [], rfl, ⟨⟨hall [], rfl, rfl⟩, by simp⟩, by simp, by simp⟩
  · obtain ⟨ps, rfl, hl, hb⟩ := row_recs hr
    have hfl := flatten_length (hall ps)
    rw [List.length_map] at hfl
    have := bulk_all es
    refine ⟨_, ps, rfl, ⟨⟨hall ps, by rw [List.length_map]; exact hl, ?_⟩, fun p hp => (hb p hp).1⟩, ?_, fun p hp => ?_⟩
    · by_cases he : es = []
      · exact .inl (by simp [he])
      · refine .inr ⟨_, .ro, hg he, by simp only []; omega, ?_⟩
        rw [List.drop_zero, ← hl, ← hfl, List.take_length]
    · simp only [uptoBulk]; omega
    · obtain ⟨_, b2, b3, b4, b5, b6⟩ := hb p hp
      exact ⟨b2, b3, b4, by simp only [uptoBulk]; omega, fun l hl => by have := b6 l hl; simp only [uptoBulk]; omega⟩
end Go.Am
namespace Go.Proofs.Ytnllflgijnloiaa.Back
open Go.ChangeShapes Go.WideShapes Go.ChangeAt Go.RowKit Go.Am

theorem walk {H : Type} {h : Heap} {ds : List (DataW H)} {as' : List AV} (hk : Rows.uptoBulkAll ds ≤ 1048576) (hr : RepsArgs Try.prog h ds [29, 3] as') (hb : ∀ i, h.next ≤ i → h.get i = none) : ∃ h', CallOk Try.prog 4 as' h (.ret (.bool true) h') := by
  obtain ⟨d1, ds, a1, as', rfl, rfl, ⟨xs, r0, r1⟩, hr⟩ := repsArgs_cons hr
  obtain ⟨d2, ds, a2, as', rfl, rfl, r2, hr⟩ := repsArgs_cons hr
  obtain ⟨rfl, rfl⟩ := repsArgs_nil hr
  obtain ⟨limit, rfl, _⟩ := arg_int u3 r2
  obtain ⟨fs, hu, hf⟩ := u29s
  unfold ArgIs at r0
  rw [hu] at r0
  simp only at r0
  subst r0
  obtain ⟨ps, rfl, h3⟩ := reps_struct hu r1
  rw [hf] at h3
  obtain ⟨e1, es, x1, y1, rfl, rfl, q1, h3⟩ := fields_cons h3
  obtain ⟨e2, es, x2, y2, rfl, rfl, q2, h3⟩ := fields_cons h3
  obtain ⟨e3, es, x3, y3, rfl, rfl, q3, h3⟩ := fields_cons h3
  obtain ⟨e4, es, x4, y4, rfl, rfl, q4, h3⟩ := fields_cons h3
  obtain ⟨rfl, rfl⟩ := fields_nil h3
  obtain ⟨fs6, hu6, hf6⟩ := u26s
  obtain ⟨ps6, rfl, h6⟩ := reps_struct hu6 q1
  rw [hf6] at h6
  obtain ⟨f1, es, x5, y5, rfl, rfl, p1, h6⟩ := fields_cons h6
  obtain ⟨f2, es, x6, y6, rfl, rfl, p2, h6⟩ := fields_cons h6
  obtain ⟨f3, es, x7, y7, rfl, rfl, p3, h6⟩ := fields_cons h6
  obtain ⟨f4, es, x8, y8, rfl, rfl, p4, h6⟩ := fields_cons h6
  obtain ⟨f5, es, x9, y9, rfl, rfl, p5, h6⟩ := fields_cons h6
  obtain ⟨f6, es, x10, y10, rfl, rfl, p6, h6⟩ := fields_cons h6
  obtain ⟨rfl, rfl⟩ := fields_nil h6
  obtain ⟨id, _, rfl, w1⟩ := reps_int u23 p1
  obtain ⟨op, _, rfl, w2⟩ := reps_int u3 p2
  obtain ⟨wish, _, rfl⟩ := reps_bool u4 p3
  obtain ⟨lv, ls, rfl, hls, hll, hlb⟩ := sl_strs p4
  obtain ⟨ty, _, rfl, w5⟩ := reps_int u23 p5
  obtain ⟨cl, _, rfl, w6⟩ := reps_int u23 p6
  obtain ⟨rcode, _, rfl, _⟩ := reps_int u3 q2
  obtain ⟨cut, _, rfl⟩ := reps_bool u4 q3
  obtain ⟨rv, ps, rfl, hrv, hrl, hrb⟩ := slr_recs q4
  simp only [Rows.uptoBulkAll, Rows.uptoBulk] at hk
  have hin : Rep.In ⟨⟨id, op, wish, ls, ty, cl⟩, rcode, cut, ps.map Prod.fst⟩ := by
    refine ⟨⟨in16_of w1, in16_of w5, in16_of w6, by simp only []; omega, fun l hl => by have := hlb l hl; omega⟩, by simp; omega, fun x hx => ?_⟩
    obtain ⟨p, hp, rfl⟩ := List.mem_map.1 hx
    obtain ⟨b2, b3, b4, b5, b6⟩ := hrb p hp
    exact ⟨b2, b3, b4, by omega, fun l hl => by have := b6 l hl; omega⟩
  exact law_ok (q := ⟨id, op, wish, ls, ty, cl⟩) (wf_of hb) hin hls hrv limit

set_option maxRecDepth 100000 in
theorem lifted (os : Os) (started : os.Started) (H : Type) (enc : TypeId × Value → H) (F : Stop.Interp) :
    ReturnsInHanded {} Try.checked os 4 .any ((Rows.OpenSpec.upto Rows.dnsBackSpec).pre6 enc Try.prog Try.f4 Rows.dnsBackUptoRow.domain false) (((Rows.OpenSpec.upto Rows.dnsBackSpec).at F).post enc Try.prog Try.f4 false true false false) := by
  refine returnsInHanded_of_cond (C := Try.checked) (s := Rows.OpenSpec.upto Rows.dnsBackSpec) (k := Rows.uptoSmall) rfl own started (by kernel_rfl) Try.func4
    (OpenSpec.witness (enc := enc) (C := Try.checked) (s := Rows.OpenSpec.upto Rows.dnsBackSpec) (k := Rows.uptoSmall) rfl false ⟨#[], #[.agg #[.int .u16 0, .int .i64 0, .bool false, .slice none 0 0, .int .u16 0, .int .u16 0, .int .i64 0, .bool false, .slice none 0 0], .int .i64 0], []⟩ 8 (by kernel_rfl) (by kernel_rfl) (by kernel_rfl)
      (x := ([.agg [.agg [.lit (.int .u16 0), .lit (.int .i64 0), .lit (.bool false), .nil, .lit (.int .u16 0), .lit (.int .u16 0)], .lit (.int .i64 0), .lit (.bool false), .nil], .lit (.int .i64 0)], [], [])) (by kernel_rfl) rfl (by kernel_rfl)) ?_
  intro W base args ds gs before hval hW _ hk _
  refine law_contract (spec := Rows.dnsBackSpec) (dep := 8) (tb := 4) dns_laid fns_ok (by kernel_rfl) rfl rfl rfl u4 ?_ (by kernel_rfl) (by kernel_rfl) hval hW ?_
  · intro ds hl
    match ds, hl with
    | [d1, d2], _ => rfl
  · intro h as' hr _ _ hb
    exact walk (bulk_of hk) hr hb

theorem proved : Rows.DnsBackUptoSaid :=
  OpenClaim.holds_of_cond 4 Try.f4 rfl rfl rfl rfl rfl rfl rfl ⟨rfl, rfl, rfl, rfl, rfl⟩ rfl rfl rfl rfl rfl (by kernel_rfl) Try.func4 (by kernel_rfl)
    (of_decide_eq_true (by kernel_rfl)) (by unfold Func.isWrapper; first | (rw [if_pos (by decide +kernel)]; kernel_rfl) | (rw [if_neg (by decide +kernel)]; exact ⟨rfl, rfl⟩))
    (fun os started H enc _ F => lifted os started H enc F)
#print axioms proved
end Go.Proofs.Ytnllflgijnloiaa.Back
