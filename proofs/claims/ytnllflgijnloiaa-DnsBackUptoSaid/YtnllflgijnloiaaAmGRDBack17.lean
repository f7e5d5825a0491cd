/- Parts of the proof by the abstract machine: DOwn, DSame, DSame2, DRefR, DRefS, DBack, DBack2. -/
import Derived.Test.YtnllflgijnloiaaAmGRDBack16
set_option linter.unusedSimpArgs false
namespace Go.Am
open Go.RowKit Go.Proofs

theorem build24 {h : Heap} : buildSliceA Try.prog h 24 0 [] = some (.slice (some ⟨h.next, 0⟩) 0 (.exact 0), h.alloc (.cells [] .own)) := by kernel_rfl
theorem build27 {h : Heap} : buildSliceA Try.prog h 27 0 [] = some (.slice (some ⟨h.next, 0⟩) 0 (.exact 0), h.alloc (.cells [] .own)) := by kernel_rfl

section
variable {ov : CallF}
theorem texts_ok (O : DOv ov) {h : Heap} (hw : Wf h) {v : AV} {ls : List (List UInt8)} (hv : Sl h v (strs ls)) (hn : ls.length ≤ 10000000) :
    ∃ v' h', callT ov Try.prog 17 [v] h = some (.ret v' h') ∧ Sl h' v' (strs ls) ∧ Keep [] h h' ∧ (∀ i, idOf v' = some i → h.next ≤ i ∧ i < h'.next) := by
  refine callT_wp (fn := Try.f17) (O 17 (by decide) (by decide) (by decide) _ _) (by kernel_rfl) rfl ?_
  have hl : (frameA Try.f17 [v]).length = 6 := frameA_length (Nat.le_of_ble_eq_true rfl)
  have h0 : nth (frameA Try.f17 [v]) 0 = v := frameA_nth (Nat.le_of_ble_eq_true rfl)
  generalize frameA Try.f17 [v] = e at hl h0
  obtain ⟨v', g, i, hap, hown, hi, hk⟩ := hv.clone (P := Try.prog) hw u24 s9 (fun _ => room9 (by rw [strs_length]; omega)) strs_ok
  repeat apply WP.seq
  apply WP.region; simp [hl]
  repeat apply WP.seq
  apply WP.region; simp [hl, h0, build24, hap]
  apply WP.ret
  have hid := hown.id
  have hlt : i < g.next := by obtain ⟨c, h1, h2⟩ := hown; exact hk.wf _ _ h2
  obtain ⟨l, c, rfl⟩ := hown.sl.slice
  simp [hl, resultsA, resultA, single]
  exact ⟨hown.sl, hk, fun j hj => by rw [hid] at hj; cases hj; exact ⟨hi, hlt⟩⟩

/-- A reply in memory of its own. -/
structure Owned (h h' : Heap) (lv rv : AV) (ls : List (List UInt8)) (ps : List (Rec × AV)) : Prop where
  keep : Keep [] h h'
  lab : Sl h' lv (strs ls)
  rows : Accr h.next h' 8 rv (ps.map fun p => p.1.cells p.2)
  tgt : ∀ p ∈ ps, Sl h' p.2 (strs p.1.target)
theorem Owned.recs {h h' : Heap} {lv rv : AV} {ls : List (List UInt8)} {ps : List (Rec × AV)} (o : Owned h h' lv rv ls ps) : RecsAt h' rv ps := ⟨o.rows.slr, o.tgt⟩

set_option maxHeartbeats 2000000 in
theorem own_ok (O : DOv ov) {h : Heap} (hw : Wf h) {q : Qu} {rcode : Int} {cut : Bool} {ps : List (Rec × AV)} {lv rv : AV} (hlv : Sl h lv (strs q.labels)) (hll : q.labels.length ≤ 10000000) (hrv : RecsAt h rv ps) (hpn : ps.length ≤ 10000000) (hpt : ∀ p ∈ ps, p.1.target.length ≤ 10000000) :
    ∃ h' lv' rv' ps', callT ov Try.prog 7 [.agg (Rep.cells ⟨q, rcode, cut, []⟩ lv rv)] h = some (.ret (.agg (Rep.cells ⟨q, rcode, cut, []⟩ lv' rv')) h') ∧ Owned h h' lv' rv' q.labels ps' ∧ ps'.map Prod.fst = ps.map Prod.fst := by
  have main : ∃ u h', callT ov Try.prog 7 [.agg (Rep.cells ⟨q, rcode, cut, []⟩ lv rv)] h = some (.ret u h') ∧ ∃ lv' rv' ps', u = .agg (Rep.cells ⟨q, rcode, cut, []⟩ lv' rv') ∧ Owned h h' lv' rv' q.labels ps' ∧ ps'.map Prod.fst = ps.map Prod.fst := by
    refine callT_wp (fn := Try.f7) (O 7 (by decide) (by decide) (by decide) _ _) (by kernel_rfl) rfl ?_
    have hl : (frameA Try.f7 [.agg (Rep.cells ⟨q, rcode, cut, []⟩ lv rv)]).length = 32 := frameA_length (Nat.le_of_ble_eq_true rfl)
    have h0 : nth (frameA Try.f7 [.agg (Rep.cells ⟨q, rcode, cut, []⟩ lv rv)]) 0 = .agg (Rep.cells ⟨q, rcode, cut, []⟩ lv rv) := frameA_nth (Nat.le_of_ble_eq_true rfl)
    generalize frameA Try.f7 [.agg (Rep.cells ⟨q, rcode, cut, []⟩ lv rv)] = e at hl h0
    obtain ⟨ll, lc, hlve⟩ := hlv.slice
    obtain ⟨rl, rc, hrve⟩ := hrv.1.slice
    have hbx := box_agg (h := h) (vs := Rep.cells ⟨q, rcode, cut, []⟩ lv rv) (cs := Rep.cells ⟨q, rcode, cut, []⟩ lv rv) rfl
    have hk1 := (Keep.refl (ex := []) hw).alloc (.cells (Rep.cells ⟨q, rcode, cut, []⟩ lv rv) .own)
    have hg1 := Heap.get_alloc h (.cells (Rep.cells ⟨q, rcode, cut, []⟩ lv rv) .own)
    have hn1 := Heap.next_alloc h (.cells (Rep.cells ⟨q, rcode, cut, []⟩ lv rv) .own)
    generalize h.alloc (.cells (Rep.cells ⟨q, rcode, cut, []⟩ lv rv) .own) = g1 at hbx hk1 hg1 hn1
    have hk2 := (Keep.refl (ex := []) hk1.wf).alloc (.cells [.int .u16 0, .int .i64 0, .bool false, .slice none 0 (.exact 0), .int .u16 0, .int .u16 0, .int .i64 0, .bool false, .slice none 0 (.exact 0)] .own)
    have hg2 := Heap.get_alloc g1 (.cells [.int .u16 0, .int .i64 0, .bool false, .slice none 0 (.exact 0), .int .u16 0, .int .u16 0, .int .i64 0, .bool false, .slice none 0 (.exact 0)] .own)
    have hn2 := Heap.next_alloc g1 (.cells [.int .u16 0, .int .i64 0, .bool false, .slice none 0 (.exact 0), .int .u16 0, .int .u16 0, .int .i64 0, .bool false, .slice none 0 (.exact 0)] .own)
    have hal := al29 (h := g1)
    generalize g1.alloc (.cells [.int .u16 0, .int .i64 0, .bool false, .slice none 0 (.exact 0), .int .u16 0, .int .u16 0, .int .i64 0, .bool false, .slice none 0 (.exact 0)] .own) = g2 at hk2 hg2 hn2 hal
    obtain ⟨B, hB⟩ : ∃ B, B = h.next := ⟨_, rfl⟩
    obtain ⟨R, hR⟩ : ∃ R, R = g1.next := ⟨_, rfl⟩
    rw [← hB] at hbx hg1
    rw [← hR] at hg2 hal
    have hgB := hk2.get _ _ hg1 (by simp)
    have lB3 : loadA Try.prog g2 24 ⟨B, 3⟩ = some lv := load_cell a24 hgB rfl
    obtain ⟨lv', g3, t3, sl3, k3, id3⟩ := texts_ok O hk2.wf ((hlv.keep hk1 (by simp)).keep hk2 (by simp)) hll
    have hca3 : callA (callT ov Try.prog) Try.prog g2 17 [lv] = _ := t3
    obtain ⟨ll', lc', hlve'⟩ := sl3.slice
    obtain ⟨g4, st4, b4, k4⟩ := field_set k3.wf (k3.get _ _ hgB (by simp)) (t := 24) s24 (v := lv') (by rw [hlve']; rfl) (by rw [hlve']; rfl) (o := 3) (by simp [Rep.cells])
    have b4 : g4.get B = some (.cells (Rep.cells ⟨q, rcode, cut, []⟩ lv' rv) .own) := b4
    have hbs := build27 (h := g4)
    have k5 := (Keep.refl (ex := []) k4.wf).alloc (.cells [] .own)
    have hg5 := Heap.get_alloc g4 (.cells [] .own)
    have hn5 := Heap.next_alloc g4 (.cells [] .own)
    generalize g4.alloc (.cells [] .own) = g5 at hbs k5 hg5 hn5
    have hBR : B < R := by omega
    have hK5 : Keep [] h g5 := (((hk1.trans hk2).trans k3).into k4 (fun i hi => .inr (by have := List.mem_singleton.1 hi; omega))).trans k5
    have b5 := k5.get _ _ b4 (by simp)
    have r5 : g5.get R = some _ := k5.get _ _ (k4.get _ _ (k3.get _ _ hg2 (by simp)) (by simp; omega)) (by simp)
    have lB8 : loadA Try.prog g5 27 ⟨B, 8⟩ = some rv := load_cell a27 b5 rfl
    have hle3 := k3.le
    have hle4 := k4.le
    have G5 : Got h R R g5 lv' (.slice (some ⟨g4.next, 0⟩) 0 (.exact 0)) q.labels [] := by
      refine ⟨⟨by simp, .inl ⟨rfl, some ⟨g4.next, 0⟩, rfl, fun x hx => ?_⟩⟩, by simp, ⟨(sl3.keep k4 (fun j hj hm => by have := (id3 j hj).1; have := List.mem_singleton.1 hm; omega)).keep k5 (by simp), fun j hj => ?_⟩, fun k hk' => ?_⟩
      · cases hx
        exact ⟨show h.next ≤ g4.next by have := hk1.le; have := hk2.le; omega, rfl, [], hg5⟩
      · obtain ⟨a1, a2⟩ := id3 j hj
        refine ⟨by have := hk1.le; omega, by omega, by omega, by omega, fun k hk' => ?_⟩
        simp [idOf] at hk'
        omega
      · simp [idOf] at hk'
        omega
    repeat apply WP.seq
    apply WP.region; simp [hl, h0, hbx, hal]
    repeat apply WP.seq
    apply WP.region; simp [hl, fa29, fa26, lB3, hca3, storeR_ptr st4]
    repeat apply WP.seq
    apply WP.region; simp [hl, hbs]
    repeat apply WP.seq
    apply WP.region; simp [hl, fa29, lB8, hrv.len]
    repeat apply WP.seq
    obtain ⟨M, hM⟩ : ∃ M, M = g4.next := ⟨_, rfl⟩
    rw [← hM] at hbs G5 hg5
    have hMB : B < M ∧ R < M := by omega
    refine (?_ : ∀ e : List AV, e.length = 32 → nth e 1 = .ptr (some ⟨B, 0⟩) → nth e 2 = .ptr (some ⟨R, 0⟩) → nth e 3 = .slice (some ⟨M, 0⟩) 0 (.exact 0) → nth e 14 = rv → nth e 15 = .int .i64 ps.length → nth e 16 = .int .i64 0 → WP ov Try.prog _ e g5 _) _ (by simp [hl]) (by simp [hl]) (by simp [hl]) (by simp [hl, hM]) (by simp [hl]) (by simp [hl]) (by simp [hl])
    clear hl h0
    intro e hl h1 h2 h3 h14 h15 h16
    refine WP.mono (K := fun o e g => o = .normal ∧ e.length = 32 ∧ nth e 1 = .ptr (some ⟨B, 0⟩) ∧ nth e 2 = .ptr (some ⟨R, 0⟩) ∧ ∃ rv' ps', nth e 3 = rv' ∧ Got h R R g lv' rv' q.labels ps' ∧ Keep [M] g5 g ∧ ps'.map Prod.fst = ps.map Prod.fst) ?_ ?_
    · apply WP.block
      refine WP.loop (fun m e g => e.length = 32 ∧ nth e 1 = .ptr (some ⟨B, 0⟩) ∧ nth e 2 = .ptr (some ⟨R, 0⟩) ∧ nth e 14 = rv ∧ nth e 15 = .int .i64 ps.length ∧ ∃ i ps', i ≤ ps.length ∧ m = ps.length - i ∧ nth e 16 = .int .i64 (i : Nat) ∧ Got h R R g lv' (nth e 3) q.labels ps' ∧ Keep [M] g5 g ∧ (∀ k, idOf (nth e 3) = some k → k = M ∨ g5.next ≤ k) ∧ ps'.map Prod.fst = (ps.map Prod.fst).take i) ?_ ps.length _ _ ?_
      · rintro m e g ⟨hl, h1, h2, h14, h15, i, ps', hi, rfl, h16, G, hkg, hrid, hps⟩
        repeat apply WP.seq
        apply WP.region; simp [hl, h15, h16]
        repeat apply WP.seq
        apply WP.cond (by simp [hl]; rfl)
        · intro hlt
          have hlt : i < ps.length := by simpa using hlt
          apply WP.skip; simp
          repeat apply WP.seq
          apply WP.block
          obtain ⟨x, hx⟩ : ∃ x, ps[i]? = some x := ⟨ps[i], by simp [hlt]⟩
          have hxm := List.mem_of_getElem? hx
          have hKg : Keep [] h g := hK5.into hkg (fun j hj => .inr (by have := List.mem_singleton.1 hj; omega))
          have hrg := hrv.keep hKg
          obtain ⟨l1, hx1, hld1⟩ := hrg.at hx (k := .i64)
          have htv := hrg.2 x hxm
          have htvo := sl_cellOk htv
          obtain ⟨g6, g7, hv7⟩ := var_of (ds := x.1.cells x.2) hKg.wf al42 s42 rfl rfl (recOk htvo)
          have hva := hv7.al
          have hvs := hv7.st
          have hvg := hv7.get
          have hvn := hv7.next
          obtain ⟨V, hV⟩ : ∃ V, V = g.next := ⟨_, rfl⟩
          rw [← hV] at hva hvs hvg
          have n7 : loadA Try.prog g7 24 ⟨V, 7⟩ = some x.2 := load_cell a24 hvg rfl
          obtain ⟨tv, g8, t8, sl8, k8, id8⟩ := texts_ok O hv7.keep.wf (htv.keep hv7.keep (by simp)) (hpt x hxm)
          have hca8 : callA (callT ov Try.prog) Try.prog g7 17 [x.2] = _ := t8
          obtain ⟨tl, tc, htve⟩ := sl8.slice
          have htvk : cellOk tv = true := by rw [htve]; rfl
          obtain ⟨g9, st9, v9, k9⟩ := field_set k8.wf (k8.get _ _ hvg (by simp)) (t := 24) s24 (v := tv) (by rw [htve]; rfl) htvk (o := 7) (by simp [Rec.cells])
          have v9 : g9.get V = some (.cells (x.1.cells tv) .own) := v9
          have lw9 := load_whole (P := Try.prog) (h := g9) a42 s42 v9 rfl
          have hbl := b27_1 (h := g9) (a := x.1.ty) (b := x.1.ttl) (x0 := x.1.a0) (x1 := x.1.a1) (x2 := x.1.a2) (x3 := x.1.a3) (p := x.1.port) (l := tl) (n := (strs x.1.target).length) (c := tc)
          have hcl9 : x.1.cells tv = [.int .u16 x.1.ty, .int .u32 x.1.ttl, byteA x.1.a0, byteA x.1.a1, byteA x.1.a2, byteA x.1.a3, .int .u16 x.1.port, tv] := rfl
          rw [← htve, ← hcl9] at hbl
          have k10 := (Keep.refl (ex := []) k9.wf).alloc (.cells (x.1.cells tv) .own)
          have hg10 := Heap.get_alloc g9 (.cells (x.1.cells tv) .own)
          generalize g9.alloc (.cells (x.1.cells tv) .own) = g10 at hbl k10 hg10
          have hkk : Keep [] g g10 := ((hv7.keep.trans k8).into k9 (fun j hj => .inr (by have := List.mem_singleton.1 hj; omega))).trans k10
          have G10 := G.keep hkk (by simp)
          have hpsl : ps'.length = i := by have h9 : (ps'.map Prod.fst).length = i := (by rw [hps]; simp; omega); simpa using h9
          have l10 := hkk.le
          have lg := hkg.le
          have hKn := hK5.le
          obtain ⟨rv', g11, hap, hrows, k11, hnew⟩ := G10.rows.app (ex := idsOf (nth e 3)) k10.wf (fun j hj => mem_ids hj) (by omega) (P := Try.prog) u27 s42 (by omega) (news := [x.1.cells tv]) (by simp [Rec.cells]) (room42 (by simp; omega)) ((one_row hg10 rfl).src (P := Try.prog) u27 (by simpa using recOk htvk)) (by simpa using recOk htvk) (by simp)
          have hVn : ∀ j ∈ [V], j ≠ V → False := by simp
          have sl9 : Sl g9 tv (strs x.1.target) := sl8.keep k9 (fun j hj hm => by have := (id8 j hj).1; have := List.mem_singleton.1 hm; omega)
          have G11 := G10.push (x := x.1) (tv := tv) k11 hrows hnew (by omega) (by omega) (sl9.keep k10 (by simp)) (fun j hj => by
            obtain ⟨a1, a2⟩ := id8 j hj
            have := k9.le; have := k10.le
            refine ⟨by omega, by omega, by omega, by omega, fun hm => ?_⟩
            have h11 := G.rv j (ids_mem hm)
            omega)
          obtain ⟨rl', rc', hrve'⟩ := hrows.slr.slice
          have hkg11 : Keep [M] g5 g11 := (hkg.trans (hkk.more (by simp))).into k11 (fun j hj => by
            rcases hrid j (ids_mem hj) with h12 | h12
            · exact .inl (by simp [h12])
            · exact .inr h12)
          repeat apply WP.seq
          apply WP.region; simp [hl, h14, h16, hx1, hld1, hva, storeR_ptr hvs]
          repeat apply WP.seq
          apply WP.region; simp [hl, fa42, n7, hca8, storeR_ptr st9]
          repeat apply WP.seq
          apply WP.region; simp [hl, lw9, hbl, hap]
          repeat apply WP.seq
          apply WP.region; simp [hl, h16, int_wrap (show i < 9223372036854775807 by omega)]
          refine ⟨ps.length - (i + 1), by omega, by simp [h1], by simp [h2], by simp [h14], by simp [h15], i + 1, by omega, rfl, by simp, ps' ++ [(x.1, tv)], by simpa [hl] using G11, hkg11, ?_, ?_⟩
          · intro k hk'
            have := hnew k hk'
            exact .inr (by omega)
          · rw [take_snoc (x := x.1) (by simp [hx])]; simp [hps]
        · intro hge
          have hge : ¬ i < ps.length := by simpa using hge
          have hi' : i = ps.length := by omega
          subst hi'
          apply WP.exit; simp
          rw [List.take_of_length_le (by simp)] at hps
          exact ⟨by simp [hl], by simp [h1], by simp [h2], ps', by simpa [hl] using G, hkg, hps⟩
      · exact ⟨hl, h1, h2, h14, h15, 0, [], by omega, by omega, by simp [h16], by rw [h3]; exact G5, Keep.refl hK5.wf, by rw [h3]; intro k hk'; simp [idOf] at hk'; exact .inl hk'.symm, by simp⟩
    clear hl h1 h2 h3 h14 h15 h16
    rintro o e g ⟨rfl, hl, h1, h2, rv', ps', h3, G, hkg, hps⟩
    simp
    have hKg : Keep [] h g := hK5.into hkg (fun j hj => .inr (by have := List.mem_singleton.1 hj; omega))
    have bg := hkg.get _ _ b5 (by simp; omega)
    have rg := hkg.get _ _ r5 (by simp; omega)
    obtain ⟨rl', rc', hrve'⟩ := G.rows.slr.slice
    obtain ⟨g20, st20, b20, k20⟩ := field_set hKg.wf bg (t := 27) s27 (v := rv') (by rw [hrve']; rfl) (by rw [hrve']; rfl) (o := 8) (by simp [Rep.cells])
    have b20 : g20.get B = some (.cells (Rep.cells ⟨q, rcode, cut, []⟩ lv' rv') .own) := b20
    have lw20 := load_whole (P := Try.prog) (h := g20) a29 s29 b20 rfl
    have r20 := k20.get _ _ rg (by simp; omega)
    obtain ⟨g21, st21, r21, k21⟩ := whole_set k20.wf r20 (t := 29) s29 rfl (ds := Rep.cells ⟨q, rcode, cut, []⟩ lv' rv') rfl (by rw [hlve', hrve']; rfl)
    have lw21 := load_whole (P := Try.prog) (h := g21) a29 s29 r21 rfl
    have hb : ∀ j ∈ [B], h.next ≤ j := fun j hj => by have := List.mem_singleton.1 hj; omega
    have hr : ∀ j ∈ [R], h.next ≤ j := fun j hj => by have := List.mem_singleton.1 hj; omega
    repeat apply WP.seq
    apply WP.region; simp [hl, h1, h3, fa29, storeR_ptr st20]
    repeat apply WP.seq
    apply WP.region; simp [hl, h1, h2, lw20, storeR_ptr st21]
    apply WP.ret
    refine ⟨.inr rfl, [AV.agg (Rep.cells ⟨q, rcode, cut, []⟩ lv' rv')], by simp [resultsA, resultA, hl, h2, lw21], lv', rv', rfl, ps', ?_, hps⟩
    have hnb : ∀ {v : AV}, Aside h R R g rv' v → ∀ j, idOf v = some j → j ∉ [B] ∧ j ∉ [R] := fun ha j hj => by
      have := (ha j hj).2.1
      simp
      omega
    have hrb : ∀ j, idOf rv' = some j → j ∉ [B] ∧ j ∉ [R] := fun j hj => by
      have := (G.rv j hj).2.2.1
      simp
      omega
    refine ⟨(hKg.into k20 (fun j hj => .inr (hb j hj))).into k21 (fun j hj => .inr (hr j hj)), (G.lab.1.keep k20 (fun j hj => (hnb G.lab.2 j hj).1)).keep k21 (fun j hj => (hnb G.lab.2 j hj).2), ?_, fun p hp => ((G.tgt p hp).1.keep k20 (fun j hj => (hnb (G.tgt p hp).2 j hj).1)).keep k21 (fun j hj => (hnb (G.tgt p hp).2 j hj).2)⟩
    refine ⟨G.rows.1, ?_⟩
    rcases G.rows.2 with ⟨h1', l, h2', h3'⟩ | ⟨j, h1', h2', h3', hg'⟩
    · refine .inl ⟨h1', l, h2', fun x hx' => ?_⟩
      obtain ⟨h4, h5, cs, h6⟩ := h3' x hx'
      have := hrb x.id (by rw [h2', hx']; rfl)
      exact ⟨h4, h5, cs, k21.get _ _ (k20.get _ _ h6 this.1) this.2⟩
    · have := hrb j (by rw [h3']; rfl)
      exact .inr ⟨j, h1', h2', h3', k21.get _ _ (k20.get _ _ hg' this.1) this.2⟩
  obtain ⟨u, h', h1, lv', rv', ps', rfl, h2⟩ := main
  exact ⟨h', lv', rv', ps', h1, h2⟩
end
end Go.Am

set_option linter.unusedSimpArgs false
namespace Go.Am
open Go.RowKit Go.Proofs

theorem u40 : Try.prog.underlying 40 = some (.array 4 5) := by kernel_rfl
theorem key5 (b : UInt8) : Try.prog.keyLits 99 5 [.int .u8 (b.toNat : Int)] = some [.int .u8 (b.toNat : Int)] := by
  have hb := b.toNat_lt
  have hw : (Lit.int .u8 (b.toNat : Int)).wf = true := by
    simp only [Lit.wf, IntKind.min, IntKind.max, IntKind.bits, IntKind.signed]
    simp
    omega
  simp [Program.keyLits, u5, hw]
theorem cells40 : Try.prog.cellsOf 40 = 4 := by kernel_rfl
theorem cells5 : Try.prog.cellsOf 5 = 1 := by kernel_rfl
theorem key40 (a b c d : UInt8) : Try.prog.keyLits 100 40 [.int .u8 (a.toNat : Int), .int .u8 (b.toNat : Int), .int .u8 (c.toNat : Int), .int .u8 (d.toNat : Int)] = some [.int .u8 (a.toNat : Int), .int .u8 (b.toNat : Int), .int .u8 (c.toNat : Int), .int .u8 (d.toNat : Int)] := by
  unfold Program.keyLits
  simp only [u40, cells40, cells5]
  have hr : List.range 4 = [0, 1, 2, 3] := rfl
  rw [hr]
  simp [key5]
theorem agg40_ok : (Try.prog.keyTypeAt 100 40 && !(Try.prog.eqGuardType Try.prog.depth 40)) = true := by kernel_rfl
theorem formed40 (a b c d : Value) : (Value.agg #[a, b, c, d]).formed Try.prog 40 = true := by
  simp only [Value.formed, u40, cells40]; rfl
theorem eqAddr (a b c d : UInt8) : eqAggA Try.prog 40 [byteA a, byteA b, byteA c, byteA d] [byteA a, byteA b, byteA c, byteA d] = some true := by
  have h1 : scalarVs [byteA a, byteA b, byteA c, byteA d] = some [.int .u8 (a.toNat : Int), .int .u8 (b.toNat : Int), .int .u8 (c.toNat : Int), .int .u8 (d.toNat : Int)] := rfl
  have h2 := agg40_ok
  have h3 := formed40 (.int .u8 (a.toNat : Int)) (.int .u8 (b.toNat : Int)) (.int .u8 (c.toNat : Int)) (.int .u8 (d.toNat : Int))
  simp only [eqAggA, h1]
  rw [h2, h3]
  simp only [Bool.and_self, cond_true, key40]
  simp [litsEq, litsEq.litOk, litEq]
theorem bin_addr {h : Heap} {xo yo : Operand} (a b c d : UInt8) : binA Try.prog h .eql 40 xo yo (.agg [byteA a, byteA b, byteA c, byteA d]) (.agg [byteA a, byteA b, byteA c, byteA d]) = some (.bool true) := by
  simp only [binA, eqAddr]; rfl
theorem build40 : buildA Try.prog 40 [] = some (.agg [byteA 0, byteA 0, byteA 0, byteA 0]) := by kernel_rfl
theorem bin_addr0 {h : Heap} {xo yo : Operand} : binA Try.prog h .neq 40 xo yo (.agg [byteA 0, byteA 0, byteA 0, byteA 0]) (.agg [byteA 0, byteA 0, byteA 0, byteA 0]) = some (.bool false) := by
  simp only [binA, eqAddr]; rfl

section
variable {ov : CallF}
theorem samequery_ok (O : DOv ov) {h : Heap} (hw : Wf h) {q : Qu} {lv lw : AV} (hv : Sl h lv (strs q.labels)) (hv2 : Sl h lw (strs q.labels)) (hn : q.labels.length ≤ 10000000) :
    ∃ h', callT ov Try.prog 19 [.agg (q.cells lv), .agg (q.cells lw)] h = some (.ret (.bool true) h') ∧ Keep [] h h' := by
  have main : ∃ u h', callT ov Try.prog 19 [.agg (q.cells lv), .agg (q.cells lw)] h = some (.ret u h') ∧ u = .bool true ∧ Keep [] h h' := by
    refine callT_wp (fn := Try.f19) (O 19 (by decide) (by decide) (by decide) _ _) (by kernel_rfl) rfl ?_
    have hl : (frameA Try.f19 [.agg (q.cells lv), .agg (q.cells lw)]).length = 45 := frameA_length (Nat.le_of_ble_eq_true rfl)
    have h0 : nth (frameA Try.f19 [.agg (q.cells lv), .agg (q.cells lw)]) 0 = .agg (q.cells lv) := frameA_nth (Nat.le_of_ble_eq_true rfl)
    have h1 : nth (frameA Try.f19 [.agg (q.cells lv), .agg (q.cells lw)]) 1 = .agg (q.cells lw) := frameA_nth (Nat.le_of_ble_eq_true rfl)
    generalize frameA Try.f19 [.agg (q.cells lv), .agg (q.cells lw)] = e at hl h0 h1
    have b1 := box_agg (h := h) (vs := q.cells lv) (cs := q.cells lv) rfl
    have k1 := (Keep.refl (ex := []) hw).alloc (.cells (q.cells lv) .own)
    have g1 := Heap.get_alloc h (.cells (q.cells lv) .own)
    generalize h.alloc (.cells (q.cells lv) .own) = h1' at b1 k1 g1
    have b2 := box_agg (h := h1') (vs := q.cells lw) (cs := q.cells lw) rfl
    have k2 := (Keep.refl (ex := []) k1.wf).alloc (.cells (q.cells lw) .own)
    have g2 := Heap.get_alloc h1' (.cells (q.cells lw) .own)
    generalize h1'.alloc (.cells (q.cells lw) .own) = h2' at b2 k2 g2
    have g1' := k2.get _ _ g1 (by simp)
    generalize h.next = A at b1 g1'
    generalize h1'.next = B at b2 g2
    have ld : ∀ {D : Nat} {u : AV}, h2'.get D = some (.cells (q.cells u) .own) → loadA Try.prog h2' 23 ⟨D, 0⟩ = some (.int .u16 q.id) ∧ loadA Try.prog h2' 3 ⟨D, 1⟩ = some (.int .i64 q.op) ∧ loadA Try.prog h2' 4 ⟨D, 2⟩ = some (.bool q.wish) ∧ loadA Try.prog h2' 24 ⟨D, 3⟩ = some u ∧ loadA Try.prog h2' 23 ⟨D, 4⟩ = some (.int .u16 q.ty) ∧ loadA Try.prog h2' 23 ⟨D, 5⟩ = some (.int .u16 q.cl) := fun hg =>
      ⟨load_cell a23 hg rfl, load_cell a3 hg rfl, load_cell a4 hg rfl, load_cell a24 hg rfl, load_cell a23 hg rfl, load_cell a23 hg rfl⟩
    obtain ⟨x0, x1, x2, x3, x4, x5⟩ := ld g1'
    obtain ⟨y0, y1, y2, y3, y4, y5⟩ := ld g2
    have hst := sametexts_ok O ((hv.keep k1 (by simp)).keep k2 (by simp)) ((hv2.keep k1 (by simp)).keep k2 (by simp)) (by omega)
    have hca : callA (callT ov Try.prog) Try.prog h2' 33 [lv, lw] = _ := hst
    repeat apply WP.seq
    apply WP.region; simp [hl, h0, h1, b1, b2]
    repeat apply WP.seq
    apply WP.region; simp [hl, fa26, x0, x1, x2, x3, x4, x5, y0, y1, y2, y3, y4, y5, guardA, hca, bin_beq u4]
    apply WP.ret
    simp [hl, resultsA, resultA, single]
    exact k1.trans k2
  obtain ⟨_, h', h1, rfl, h2⟩ := main
  exact ⟨h', h1, h2⟩

theorem samerecord_ok (O : DOv ov) {h : Heap} (hw : Wf h) {x : Rec} {tv tw : AV} (hv : Sl h tv (strs x.norm.target)) (hv2 : Sl h tw (strs x.target)) (hn : x.target.length ≤ 10000000) :
    ∃ h', callT ov Try.prog 20 [.agg (x.norm.cells tv), .agg (x.cells tw)] h = some (.ret (.bool true) h') ∧ Keep [] h h' := by
  have main : ∃ u h', callT ov Try.prog 20 [.agg (x.norm.cells tv), .agg (x.cells tw)] h = some (.ret u h') ∧ u = .bool true ∧ Keep [] h h' := by
    refine callT_wp (fn := Try.f20) (O 20 (by decide) (by decide) (by decide) _ _) (by kernel_rfl) rfl ?_
    have hl : (frameA Try.f20 [.agg (x.norm.cells tv), .agg (x.cells tw)]).length = 37 := frameA_length (Nat.le_of_ble_eq_true rfl)
    have h0 : nth (frameA Try.f20 [.agg (x.norm.cells tv), .agg (x.cells tw)]) 0 = .agg (x.norm.cells tv) := frameA_nth (Nat.le_of_ble_eq_true rfl)
    have h1 : nth (frameA Try.f20 [.agg (x.norm.cells tv), .agg (x.cells tw)]) 1 = .agg (x.cells tw) := frameA_nth (Nat.le_of_ble_eq_true rfl)
    generalize frameA Try.f20 [.agg (x.norm.cells tv), .agg (x.cells tw)] = e at hl h0 h1
    have b1 := box_agg (h := h) (vs := x.norm.cells tv) (cs := x.norm.cells tv) rfl
    have k1 := (Keep.refl (ex := []) hw).alloc (.cells (x.norm.cells tv) .own)
    have g1 := Heap.get_alloc h (.cells (x.norm.cells tv) .own)
    generalize h.alloc (.cells (x.norm.cells tv) .own) = h1' at b1 k1 g1
    have b2 := box_agg (h := h1') (vs := x.cells tw) (cs := x.cells tw) rfl
    have k2 := (Keep.refl (ex := []) k1.wf).alloc (.cells (x.cells tw) .own)
    have g2 := Heap.get_alloc h1' (.cells (x.cells tw) .own)
    generalize h1'.alloc (.cells (x.cells tw) .own) = h2' at b2 k2 g2
    have g1' := k2.get _ _ g1 (by simp)
    generalize h.next = A at b1 g1'
    generalize h1'.next = B at b2 g2
    have ld : ∀ {D : Nat} {z : Rec} {u : AV}, h2'.get D = some (.cells (z.cells u) .own) → loadA Try.prog h2' 23 ⟨D, 0⟩ = some (.int .u16 z.ty) ∧ loadA Try.prog h2' 39 ⟨D, 1⟩ = some (.int .u32 z.ttl) ∧ loadA Try.prog h2' 40 ⟨D, 2⟩ = some (.agg [byteA z.a0, byteA z.a1, byteA z.a2, byteA z.a3]) ∧ loadA Try.prog h2' 23 ⟨D, 6⟩ = some (.int .u16 z.port) ∧ loadA Try.prog h2' 24 ⟨D, 7⟩ = some u := fun hg =>
      ⟨load_cell a23 hg rfl, load_cell a39 hg rfl, by rw [load_agg a40 s40 hg (by simp [Rec.cells])]; rfl, load_cell a23 hg rfl, load_cell a24 hg rfl⟩
    obtain ⟨x0, x1, x2, x6, x7⟩ := ld g1'
    obtain ⟨y0, y1, y2, y6, y7⟩ := ld g2
    have nty : x.norm.ty = x.ty := by unfold Rec.norm; split <;> rfl
    have nttl : x.norm.ttl = x.ttl := by unfold Rec.norm; split <;> rfl
    rw [nty] at x0
    rw [nttl] at x1
    repeat apply WP.seq
    apply WP.region; simp [hl, h0, h1, b1, b2]
    repeat apply WP.seq
    apply WP.region; simp [hl, fa42, x0, x1, y0, y1, guardA]
    repeat apply WP.seq
    apply WP.cond (t := false) (by simp [hl]) (by simp)
    intro _
    apply WP.skip; simp
    repeat apply WP.seq
    apply WP.region; simp [hl, fa42, x0]
    repeat apply WP.seq
    apply WP.cond (by simp [hl]; rfl)
    · intro hc
      have ht : x.ty = 1 := by simpa using hc
      have hna : [byteA x.norm.a0, byteA x.norm.a1, byteA x.norm.a2, byteA x.norm.a3] = [byteA x.a0, byteA x.a1, byteA x.a2, byteA x.a3] := by simp [Rec.norm, ht]
      rw [hna] at x2
      repeat apply WP.seq
      apply WP.region; simp [hl, fa42, x2, y2, bin_addr]
      apply WP.ret
      simp [hl, resultsA, resultA, single]
      exact k1.trans k2
    · intro hc
      have ht : x.ty ≠ 1 := by simpa using hc
      have hnt : x.norm.target = x.target := by simp [Rec.norm, ht]
      have hnp : x.norm.port = x.port := by simp [Rec.norm, ht]
      rw [hnp] at x6
      rw [hnt] at hv
      have hst := sametexts_ok O ((hv.keep k1 (by simp)).keep k2 (by simp)) ((hv2.keep k1 (by simp)).keep k2 (by simp)) (by omega)
      have hca : callA (callT ov Try.prog) Try.prog h2' 33 [tv, tw] = _ := hst
      apply WP.skip; simp
      repeat apply WP.seq
      apply WP.region; simp [hl, fa42, x6, y6, x7, y7, guardA, hca]
      apply WP.ret
      simp [hl, resultsA, resultA, single]
      exact k1.trans k2
  obtain ⟨_, h', h1, rfl, h2⟩ := main
  exact ⟨h', h1, h2⟩
end
end Go.Am

set_option linter.unusedSimpArgs false
namespace Go.Am
open Go.RowKit Go.Proofs

section
variable {ov : CallF}
set_option maxHeartbeats 2000000 in
theorem samereply_ok (O : DOv ov) {h : Heap} (hw : Wf h) {q : Qu} {rcode : Int} {cut : Bool} {lv lw rv rw' : AV} {xs : List Rec} {ps pw : List (Rec × AV)} (hv : Sl h lv (strs q.labels)) (hv2 : Sl h lw (strs q.labels)) (hn : q.labels.length ≤ 10000000)
    (hrv : RecsAt h rv ps) (hps : ps.map Prod.fst = xs.map Rec.norm) (hrw : RecsAt h rw' pw) (hpw : pw.map Prod.fst = xs) (hxs : ∀ x ∈ xs, (x.ty = 1 ∨ x.ty = 33) ∧ x.target.length ≤ 10000000) (hxn : xs.length ≤ 10000000) :
    ∃ h', callT ov Try.prog 9 [.agg (Rep.cells ⟨q, rcode, cut, []⟩ lv rv), .agg (Rep.cells ⟨q, rcode, cut, []⟩ lw rw')] h = some (.ret (.bool true) h') ∧ Keep [] h h' := by
  have main : ∃ u h', callT ov Try.prog 9 [.agg (Rep.cells ⟨q, rcode, cut, []⟩ lv rv), .agg (Rep.cells ⟨q, rcode, cut, []⟩ lw rw')] h = some (.ret u h') ∧ u = .bool true ∧ Keep [] h h' := by
    refine callT_wp (fn := Try.f9) (O 9 (by decide) (by decide) (by decide) _ _) (by kernel_rfl) rfl ?_
    have hl : (frameA Try.f9 [.agg (Rep.cells ⟨q, rcode, cut, []⟩ lv rv), .agg (Rep.cells ⟨q, rcode, cut, []⟩ lw rw')]).length = 80 := frameA_length (Nat.le_of_ble_eq_true rfl)
    have h0 : nth (frameA Try.f9 [.agg (Rep.cells ⟨q, rcode, cut, []⟩ lv rv), .agg (Rep.cells ⟨q, rcode, cut, []⟩ lw rw')]) 0 = .agg (Rep.cells ⟨q, rcode, cut, []⟩ lv rv) := frameA_nth (Nat.le_of_ble_eq_true rfl)
    have h1 : nth (frameA Try.f9 [.agg (Rep.cells ⟨q, rcode, cut, []⟩ lv rv), .agg (Rep.cells ⟨q, rcode, cut, []⟩ lw rw')]) 1 = .agg (Rep.cells ⟨q, rcode, cut, []⟩ lw rw') := frameA_nth (Nat.le_of_ble_eq_true rfl)
    generalize frameA Try.f9 [.agg (Rep.cells ⟨q, rcode, cut, []⟩ lv rv), .agg (Rep.cells ⟨q, rcode, cut, []⟩ lw rw')] = e at hl h0 h1
    have hpl : ps.length = xs.length := by have h9 : (ps.map Prod.fst).length = xs.length := (by rw [hps]; simp); simpa using h9
    have hwl : pw.length = xs.length := by have h9 : (pw.map Prod.fst).length = xs.length := (by rw [hpw]); simpa using h9
    have b1 := box_agg (h := h) (vs := Rep.cells ⟨q, rcode, cut, []⟩ lv rv) (cs := Rep.cells ⟨q, rcode, cut, []⟩ lv rv) rfl
    have k1 := (Keep.refl (ex := []) hw).alloc (.cells (Rep.cells ⟨q, rcode, cut, []⟩ lv rv) .own)
    have g1 := Heap.get_alloc h (.cells (Rep.cells ⟨q, rcode, cut, []⟩ lv rv) .own)
    generalize h.alloc (.cells (Rep.cells ⟨q, rcode, cut, []⟩ lv rv) .own) = h1' at b1 k1 g1
    have b2 := box_agg (h := h1') (vs := Rep.cells ⟨q, rcode, cut, []⟩ lw rw') (cs := Rep.cells ⟨q, rcode, cut, []⟩ lw rw') rfl
    have k2 := (Keep.refl (ex := []) k1.wf).alloc (.cells (Rep.cells ⟨q, rcode, cut, []⟩ lw rw') .own)
    have g2 := Heap.get_alloc h1' (.cells (Rep.cells ⟨q, rcode, cut, []⟩ lw rw') .own)
    generalize h1'.alloc (.cells (Rep.cells ⟨q, rcode, cut, []⟩ lw rw') .own) = h2' at b2 k2 g2
    have g1' := k2.get _ _ g1 (by simp)
    have hK2 := k1.trans k2
    generalize h.next = A at b1 g1'
    generalize h1'.next = B at b2 g2
    have ld : ∀ {g : Heap} {D : Nat} {u z : AV}, g.get D = some (.cells (Rep.cells ⟨q, rcode, cut, []⟩ u z) .own) → loadA Try.prog g 26 ⟨D, 0⟩ = some (.agg (q.cells u)) ∧ loadA Try.prog g 3 ⟨D, 6⟩ = some (.int .i64 rcode) ∧ loadA Try.prog g 4 ⟨D, 7⟩ = some (.bool cut) ∧ loadA Try.prog g 27 ⟨D, 8⟩ = some z := fun hg =>
      ⟨by rw [load_agg a26 s26 hg (by simp [Rep.cells])]; rfl, load_cell a3 hg rfl, load_cell a4 hg rfl, load_cell a27 hg rfl⟩
    obtain ⟨x0, _, _, _⟩ := ld g1'
    obtain ⟨y0, _, _, _⟩ := ld g2
    obtain ⟨h3', hsq, k3⟩ := samequery_ok O hK2.wf (hv.keep hK2 (by simp)) (hv2.keep hK2 (by simp)) hn
    have hca : callA (callT ov Try.prog) Try.prog h2' 19 [.agg (q.cells lv), .agg (q.cells lw)] = _ := hsq
    have hK3 := hK2.trans k3
    obtain ⟨_, x6, x7, x8⟩ := ld (k3.get _ _ g1' (by simp))
    obtain ⟨_, y6, y7, y8⟩ := ld (k3.get _ _ g2 (by simp))
    have lnv := hrv.len
    have lnw := hrw.len
    rw [hpl] at lnv
    rw [hwl] at lnw
    repeat apply WP.seq
    apply WP.region; simp [hl, h0, h1, b1, b2]
    repeat apply WP.seq
    apply WP.region; simp [hl, fa29, x0, y0, x6, y6, x7, y7, x8, y8, guardA, hca, bin_bne u4, lnv, lnw]
    repeat apply WP.seq
    apply WP.cond (t := false) (by simp [hl]) (by simp)
    intro _
    apply WP.skip; simp
    repeat apply WP.seq
    apply WP.region; simp [hl, fa29, x8, lnv]
    repeat apply WP.seq
    apply WP.block
    refine WP.loop (fun m e g => e.length = 80 ∧ nth e 3 = .ptr (some ⟨B, 0⟩) ∧ nth e 37 = rv ∧ nth e 38 = .int .i64 xs.length ∧ Keep [] h3' g ∧ ∃ i, i ≤ xs.length ∧ m = xs.length - i ∧ nth e 39 = .int .i64 (i : Nat)) ?_ xs.length _ _ ?_
    · rintro m e g ⟨hl, h3, h37, h38, hkg, i, hi, rfl, h39⟩
      repeat apply WP.seq
      apply WP.region; simp [hl, h38, h39]
      repeat apply WP.seq
      apply WP.cond (by simp [hl]; rfl)
      · intro hlt
        have hlt : i < xs.length := by simpa using hlt
        apply WP.skip; simp
        repeat apply WP.seq
        apply WP.block
        obtain ⟨x, hx⟩ : ∃ x, xs[i]? = some x := ⟨xs[i], by simp [hlt]⟩
        have hxk := hxs x (List.mem_of_getElem? hx)
        have hKg := hK3.trans hkg
        obtain ⟨p, hp⟩ : ∃ p, ps[i]? = some p := ⟨ps[i]'(by omega), by simp [hpl, hlt]⟩
        obtain ⟨w, hwp⟩ : ∃ w, pw[i]? = some w := ⟨pw[i]'(by omega), by simp [hwl, hlt]⟩
        have hp1 : p.1 = x.norm := by
          have h9 : (ps.map Prod.fst)[i]? = some p.1 := by simp [hp]
          rw [hps] at h9
          simp [hx] at h9
          exact h9.symm
        have hw1 : w.1 = x := by
          have h9 : (pw.map Prod.fst)[i]? = some w.1 := by simp [hwp]
          rw [hpw, hx] at h9
          exact (Option.some.inj h9).symm
        have hrg := hrv.keep hKg
        have hwg := hrw.keep hKg
        obtain ⟨l1, i1, ld1⟩ := hrg.at hp (k := .i64)
        have htv := hrg.2 p (List.mem_of_getElem? hp)
        have htw := hwg.2 w (List.mem_of_getElem? hwp)
        rw [hp1] at ld1 htv
        rw [hw1] at htw
        have htvo := sl_cellOk htv
        obtain ⟨g6, g7, hv7⟩ := var_of (ds := x.norm.cells p.2) hKg.wf al42 s42 rfl rfl (recOk htvo)
        have hva := hv7.al
        have hvs := hv7.st
        have hvg := hv7.get
        generalize g.next = V at hva hvs hvg
        have hK7 := hKg.trans hv7.keep
        have lwV := load_whole (P := Try.prog) (h := g7) a42 s42 hvg rfl
        obtain ⟨l2, i2, ld2⟩ := (hrw.keep hK7).at hwp (k := .i64)
        rw [hw1] at ld2
        obtain ⟨_, _, _, yB⟩ := ld ((hkg.trans hv7.keep).get _ _ (k3.get _ _ g2 (by simp)) (by simp))
        obtain ⟨g8, hsr, k8⟩ := samerecord_ok O hv7.keep.wf (htv.keep hv7.keep (by simp)) (htw.keep hv7.keep (by simp)) hxk.2
        have hca8 : callA (callT ov Try.prog) Try.prog g7 20 [.agg (x.norm.cells p.2), .agg (x.cells w.2)] = _ := hsr
        have hvg8 := k8.get _ _ hvg (by simp)
        have nty : x.norm.ty = x.ty := by unfold Rec.norm; split <;> rfl
        have f0 : loadA Try.prog g8 23 ⟨V, 0⟩ = some (.int .u16 x.ty) := by rw [← nty]; exact load_cell a23 hvg8 rfl
        have f2 : loadA Try.prog g8 40 ⟨V, 2⟩ = some (.agg [byteA x.norm.a0, byteA x.norm.a1, byteA x.norm.a2, byteA x.norm.a3]) := by rw [load_agg a40 s40 hvg8 (by simp [Rec.cells])]; rfl
        have f6 : loadA Try.prog g8 23 ⟨V, 6⟩ = some (.int .u16 x.norm.port) := load_cell a23 hvg8 rfl
        have f7 : loadA Try.prog g8 24 ⟨V, 7⟩ = some p.2 := load_cell a24 hvg8 rfl
        have hlt7 := htv.len (P := Try.prog) (h := g) u24
        have hlt7 : ∀ h, lenA Try.prog h 24 p.2 = some (.int .i64 ((strs x.norm.target).length : Nat)) := fun h => by
          obtain ⟨l, c, hv⟩ := htv.slice
          rw [hv]; simp [lenA, u24]
        repeat apply WP.seq
        apply WP.region; simp [hl, h37, h39, i1, ld1, hva, storeR_ptr hvs]
        repeat apply WP.seq
        refine WP.mono (K := fun o e g => o = .normal ∧ g = g8 ∧ e.length = 80 ∧ nth e 3 = .ptr (some ⟨B, 0⟩) ∧ nth e 37 = rv ∧ nth e 38 = .int .i64 xs.length ∧ nth e 39 = .int .i64 (i : Nat) ∧ nth e 78 = .bool false) ?_ ?_
        · apply WP.draw (by kernel_rfl) (by kernel_rfl)
          rcases hxk.1 with ht | ht
          · have e1 : x.norm.port = 0 := by simp [Rec.norm, ht]
            have e2 : x.norm.target = [] := by simp [Rec.norm, ht]
            rw [ht] at f0
            rw [e1] at f6
            rw [e2] at hlt7
            simp [hl, h3, h37, h38, h39, lwV, fa29, yB, i2, ld2, hca8, fa42, f0, f6, f7, hlt7, strs, guardA]
          · have e2 : [byteA x.norm.a0, byteA x.norm.a1, byteA x.norm.a2, byteA x.norm.a3] = [byteA 0, byteA 0, byteA 0, byteA 0] := by simp [Rec.norm, ht]
            rw [ht] at f0
            rw [e2] at f2
            simp [hl, h3, h37, h38, h39, lwV, fa29, yB, i2, ld2, hca8, fa42, f0, f2, build40, bin_addr0, guardA]
        clear hl h3 h37 h38 h39
        rintro o e g' ⟨rfl, rfl, hl, h3, h37, h38, h39, h78⟩
        simp
        repeat apply WP.seq
        apply WP.cond (t := false) (by simp [h78]) (by simp)
        intro _
        apply WP.skip; simp
        apply WP.region; simp [hl, h39, int_wrap (show i < 9223372036854775807 by omega)]
        exact ⟨xs.length - (i + 1), by omega, by simp [h3], by simp [h37], by simp [h38], (hkg.trans hv7.keep).trans k8, i + 1, by omega, rfl, by simp⟩
      · intro hge
        apply WP.exit; simp
        repeat apply WP.seq
        apply WP.region; simp [hl]
        apply WP.ret
        simp [hl, resultsA, resultA, single]
        exact hK3.trans hkg
    · exact ⟨by simp [hl], by simp [hl], by simp [hl], by simp [hl], Keep.refl k3.wf, 0, by omega, by omega, by simp [hl]⟩
  obtain ⟨_, h', h1, rfl, h2⟩ := main
  exact ⟨h', h1, h2⟩
end
end Go.Am

set_option linter.unusedSimpArgs false
namespace Go.Am
open Go.RowKit Go.Proofs

theorem b30_0 {h : Heap} : buildSliceA Try.prog h 30 0 [] = some (.slice (some ⟨h.next, 0⟩) 0 (.exact 0), h.alloc (.cells [] .own)) := by kernel_rfl
theorem b30_4 {h : Heap} {a b c d : UInt8} : buildSliceA Try.prog h 30 4 [(0, byteA a), (1, byteA b), (2, byteA c), (3, byteA d)] = some (.slice (some ⟨h.next, 0⟩) 4 (.exact 4), h.alloc (.cells (bytesA [a, b, c, d]) .own)) := by kernel_rfl
theorem Wrote.empty {h : Heap} (hw : Wf h) : Wrote h.next [] h (h.alloc (.cells [] .own)) (.slice (some ⟨h.next, 0⟩) 0 (.exact 0)) [] :=
  ⟨Acc.empty (Nat.le_refl _) (Heap.get_alloc _ _), (Keep.refl hw).alloc _, fun i hi => by simp [idOf] at hi; exact .inr (by omega)⟩

section
variable {ov : CallF}
theorem big_ok (O : DOv ov) {h : Heap} (hw : Wf h) {nv : AV} {ns : List Int} (hs : Sl h nv (ints ns)) (hn : ns.length ≤ 1000) :
    ∃ v h' bs, callT ov Try.prog 21 [nv] h = some (.ret v h') ∧ Acc h.next h' v (bytesA bs) ∧ bs.length = 2 * ns.length ∧ Keep [] h h' := by
  have main : ∃ v h', callT ov Try.prog 21 [nv] h = some (.ret v h') ∧ ∃ bs, Acc h.next h' v (bytesA bs) ∧ bs.length = 2 * ns.length ∧ Keep [] h h' := by
    refine callT_wp (fn := Try.f21) (O 21 (by decide) (by decide) (by decide) _ _) (by kernel_rfl) rfl ?_
    have hl : (frameA Try.f21 [nv]).length = 24 := frameA_length (Nat.le_of_ble_eq_true rfl)
    have h0 : nth (frameA Try.f21 [nv]) 0 = nv := frameA_nth (Nat.le_of_ble_eq_true rfl)
    generalize frameA Try.f21 [nv] = e at hl h0
    have hlen := hs.len (P := Try.prog) u54
    have hlen : ∀ h, lenA Try.prog h 54 nv = some (.int .i64 (ns.length : Nat)) := fun h => by
      obtain ⟨l, c, hv⟩ := hs.slice
      rw [hv]; simp [lenA, u54]
    have W0 := Wrote.empty hw
    have hbs := b30_0 (h := h)
    generalize h.alloc (.cells [] .own) = g0 at W0 hbs
    repeat apply WP.seq
    apply WP.region; simp [hl]
    repeat apply WP.seq
    apply WP.region; simp [hl, hbs]
    repeat apply WP.seq
    apply WP.region; simp [hl, h0, hlen]
    repeat apply WP.seq
    apply WP.block
    refine WP.loop (fun m e g => e.length = 24 ∧ nth e 7 = nv ∧ nth e 8 = .int .i64 ns.length ∧ ∃ i bs, i ≤ ns.length ∧ m = ns.length - i ∧ nth e 9 = .int .i64 (i : Nat) ∧ Wrote h.next [] h g (nth e 3) bs ∧ bs.length = 2 * i) ?_ ns.length _ _ ?_
    · rintro m e g ⟨hl, h7, h8, i, bs, hi, rfl, h9, hwr, hbl⟩
      repeat apply WP.seq
      apply WP.region; simp [hl, h8, h9]
      repeat apply WP.seq
      apply WP.cond (by simp [hl]; rfl)
      · intro hlt
        have hlt : i < ns.length := by simpa using hlt
        apply WP.skip; simp
        repeat apply WP.seq
        apply WP.block
        obtain ⟨x, hx⟩ : ∃ x, ns[i]? = some x := ⟨ns[i], by simp [hlt]⟩
        obtain ⟨l1, hl1, hl1', _⟩ := (hs.keep hwr.keep (by simp)).at u54 s3 a3 (ints_get hx) (k := .i64)
        have q1 : ∀ (xo yo : Operand) (h : Heap), binA Try.prog h .quo 3 xo yo (.int .i64 x) (.int .i64 256) = _ := fun _ _ _ => bin_quo (by omega)
        have q2 : ∀ (xo yo : Operand) (h : Heap), binA Try.prog h .rem 3 xo yo (.int .i64 x) (.int .i64 256) = _ := fun _ _ _ => bin_rem (by omega)
        generalize IntKind.wrap .i64 (x.tdiv 256) = a at q1
        generalize x.tmod 256 = b at q2
        have hwr2 := hwr.alloc (.cells [byteA (b8 a), byteA (b8 b)] .own)
        have hg2 := Heap.get_alloc g (.cells [byteA (b8 a), byteA (b8 b)] .own)
        have hb2 := b30_2b (h := g) (a := b8 a) (b := b8 b)
        generalize g.alloc (.cells [byteA (b8 a), byteA (b8 b)] .own) = g2 at hwr2 hg2 hb2
        have hsrc := (Sl.exact (n := 2) rfl hg2).src (P := Try.prog) u30 (bytesA_ok (bs := [b8 a, b8 b]))
        obtain ⟨v', g', h3, h4⟩ := hwr2.app (Nat.le_refl _) (tu := 30) (ys := [b8 a, b8 b]) (by simp) hsrc (by simp; omega)
        repeat apply WP.seq
        apply WP.region; simp [hl, h7, h9, hl1, hl1']
        repeat apply WP.seq
        apply WP.region; simp [hl, q1, q2, conv3_5, hb2, h3]
        repeat apply WP.seq
        apply WP.region; simp [hl, h9, int_wrap (show i < 9223372036854775807 by omega)]
        exact ⟨ns.length - (i + 1), by omega, by simp [h7], by simp [h8], i + 1, by omega, rfl, by simp, _, by simpa [hl] using h4, by simp; omega⟩
      · intro hge
        have hge : ¬ i < ns.length := by simpa using hge
        have hi' : i = ns.length := by omega
        subst hi'
        apply WP.exit; simp
        repeat apply WP.seq
        apply WP.region; simp [hl]
        apply WP.ret
        obtain ⟨l, c, hv⟩ := hwr.acc.sl.slice
        rw [hv]
        rw [hv] at hwr
        simp [hl, resultsA, resultA, single]
        exact ⟨bs, hwr.acc, hbl, hwr.keep⟩
    · exact ⟨by simp [hl], by simp [hl], by simp [hl], 0, [], by omega, by omega, by simp [hl], by simpa [hl] using W0, rfl⟩
  obtain ⟨v, h', h1, bs, h2⟩ := main
  exact ⟨v, h', bs, h1, h2⟩

theorem wire_ok (O : DOv ov) {h : Heap} (hw : Wf h) {lv : AV} {ls : List (List UInt8)} (hs : Sl h lv (strs ls)) (hn : Named ls) :
    ∃ v h' bs, callT ov Try.prog 22 [lv] h = some (.ret v h') ∧ Acc h.next h' v (bytesA bs) ∧ bs.length = nameLen ls ∧ Keep [] h h' := by
  have main : ∃ v h', callT ov Try.prog 22 [lv] h = some (.ret v h') ∧ ∃ bs, Acc h.next h' v (bytesA bs) ∧ bs.length = nameLen ls ∧ Keep [] h h' := by
    refine callT_wp (fn := Try.f22) (O 22 (by decide) (by decide) (by decide) _ _) (by kernel_rfl) rfl ?_
    have hl : (frameA Try.f22 [lv]).length = 26 := frameA_length (Nat.le_of_ble_eq_true rfl)
    have h0 : nth (frameA Try.f22 [lv]) 0 = lv := frameA_nth (Nat.le_of_ble_eq_true rfl)
    generalize frameA Try.f22 [lv] = e at hl h0
    have hlen : ∀ h, lenA Try.prog h 24 lv = some (.int .i64 (ls.length : Nat)) := fun h => by
      obtain ⟨l, c, hv⟩ := hs.slice
      rw [hv]; simp [lenA, u24, strs_length]
    have hel : (encLabels ls).length + 1 ≤ 255 := by have := hn.2; have h2 := encName_length ls; simp [encName] at h2; omega
    have hll := labels_le ls
    have W0 := Wrote.empty hw
    have hbs := b30_0 (h := h)
    generalize h.alloc (.cells [] .own) = g0 at W0 hbs
    repeat apply WP.seq
    apply WP.region; simp [hl]
    repeat apply WP.seq
    apply WP.region; simp [hl, hbs]
    repeat apply WP.seq
    apply WP.region; simp [hl, h0, hlen]
    repeat apply WP.seq
    apply WP.block
    refine WP.loop (fun m e g => e.length = 26 ∧ nth e 7 = lv ∧ nth e 8 = .int .i64 ls.length ∧ ∃ i, i ≤ ls.length ∧ m = ls.length - i ∧ nth e 9 = .int .i64 (i : Nat) ∧ Wrote h.next [] h g (nth e 3) (encLabels (ls.take i))) ?_ ls.length _ _ ?_
    · rintro m e g ⟨hl, h7, h8, i, hi, rfl, h9, hwr⟩
      repeat apply WP.seq
      apply WP.region; simp [hl, h8, h9]
      repeat apply WP.seq
      apply WP.cond (by simp [hl]; rfl)
      · intro hlt
        have hlt : i < ls.length := by simpa using hlt
        apply WP.skip; simp
        repeat apply WP.seq
        apply WP.block
        obtain ⟨x, hx⟩ : ∃ x, ls[i]? = some x := ⟨ls[i], by simp [hlt]⟩
        obtain ⟨l1, hl1, hl1', _⟩ := (hs.keep hwr.keep (by simp)).at u24 s9 a9 (strs_get hx) (k := .i64)
        have hxl := hn.1 x (List.mem_of_getElem? hx)
        have htl := encLabels_take ls i
        have hwr2 := hwr.alloc (.cells [byteA (b8 x.length)] .own)
        have hg2 := Heap.get_alloc g (.cells [byteA (b8 x.length)] .own)
        have hb2 := b30_1b (h := g) (a := b8 x.length)
        generalize g.alloc (.cells [byteA (b8 x.length)] .own) = g2 at hwr2 hg2 hb2
        have hsrc := (Sl.exact (n := 1) rfl hg2).src (P := Try.prog) u30 (bytesA_ok (bs := [b8 x.length]))
        obtain ⟨v', g', h3, h4⟩ := hwr2.app (Nat.le_refl _) (tu := 30) (ys := [b8 x.length]) (by simp) hsrc (by simp; omega)
        obtain ⟨v'', g'', h5, h6⟩ := h4.app (Nat.le_refl _) (tu := 9) (y := .str x) (ys := x) (by rintro rfl; simp at hxl) (by simp [srcA, u9, bytesA]) (by simp; omega)
        have hlx : ∀ h, lenA Try.prog h 9 (.str x) = some (.int .i64 x.length) := fun h => by simp [lenA, u9]
        have hsn : encLabels (ls.take i) ++ [b8 x.length] ++ x = encLabels (ls.take (i + 1)) := by rw [take_snoc hx, encLabels_snoc]; simp
        rw [hsn] at h6
        repeat apply WP.seq
        apply WP.region; simp [hl, h7, h9, hl1, hl1']
        repeat apply WP.seq
        apply WP.region; simp [hl, hlx, conv3_5, hb2, h3]
        repeat apply WP.seq
        apply WP.region; simp [hl, h5]
        repeat apply WP.seq
        apply WP.region; simp [hl, h9, int_wrap (show i < 9223372036854775807 by omega)]
        exact ⟨ls.length - (i + 1), by omega, by simp [h7], by simp [h8], i + 1, by omega, rfl, by simp, by simpa [hl] using h6⟩
      · intro hge
        have hge : ¬ i < ls.length := by simpa using hge
        have hi' : i = ls.length := by omega
        subst hi'
        rw [List.take_length] at hwr
        have hwr2 := hwr.alloc (.cells [byteA 0] .own)
        have hg2 := Heap.get_alloc g (.cells [byteA 0] .own)
        have hb2 := b30_1b (h := g) (a := 0)
        generalize g.alloc (.cells [byteA 0] .own) = g2 at hwr2 hg2 hb2
        have hsrc := (Sl.exact (n := 1) rfl hg2).src (P := Try.prog) u30 (bytesA_ok (bs := [0]))
        obtain ⟨v', g', h3, h4⟩ := hwr2.app (Nat.le_refl _) (tu := 30) (ys := [0]) (by simp) hsrc (by simp; omega)
        have hz : byteA 0 = .int .u8 0 := rfl
        rw [hz] at hb2
        apply WP.exit; simp
        repeat apply WP.seq
        apply WP.region; simp [hl, hb2, h3]
        apply WP.ret
        obtain ⟨l, c, hv⟩ := h4.acc.sl.slice
        rw [hv]
        rw [hv] at h4
        simp [hl, resultsA, resultA, single]
        exact ⟨_, h4.acc, by rw [← encName_length]; rfl, h4.keep⟩
    · exact ⟨by simp [hl], by simp [hl], by simp [hl], 0, by omega, by omega, by simp [hl], by simpa [hl, encLabels] using W0⟩
  obtain ⟨v, h', h1, bs, h2⟩ := main
  exact ⟨v, h', bs, h1, h2⟩
end
end Go.Am

set_option linter.unusedSimpArgs false
namespace Go.Am
open Go.RowKit Go.Proofs

theorem quo39 {h : Heap} {a : Int} {xo yo : Operand} : binA Try.prog h .quo 39 xo yo (.int .u32 a) (.int .u32 65536) = some (.int .u32 (IntKind.wrap .u32 (a.tdiv 65536))) := bin_quo (by omega)
theorem rem39 {h : Heap} {a : Int} {xo yo : Operand} : binA Try.prog h .rem 39 xo yo (.int .u32 a) (.int .u32 65536) = some (.int .u32 (a.tmod 65536)) := bin_rem (by omega)
theorem conv39 {h : Heap} {x : Int} {k : IntKind} : convertA Try.prog h 39 3 (.int k x) = some (.int .i64 (IntKind.wrap .i64 x), h) := by simp [convertA, u39, u3]

section
variable {ov : CallF}
set_option maxHeartbeats 2000000 in
theorem refrecord_ok (O : DOv ov) {h : Heap} (hw : Wf h) {x : Rec} (hx : x.Ok) {tv : AV} (htv : Sl h tv (strs x.target)) :
    ∃ l c h', callT ov Try.prog 10 [.agg (x.cells tv)] h = some (.ret (.slice l x.bytes.length c) h') ∧ Keep [] h h' := by
  have main : ∃ u h', callT ov Try.prog 10 [.agg (x.cells tv)] h = some (.ret u h') ∧ ∃ l c, u = .slice l x.bytes.length c ∧ Keep [] h h' := by
    refine callT_wp (fn := Try.f10) (O 10 (by decide) (by decide) (by decide) _ _) (by kernel_rfl) rfl ?_
    have hl : (frameA Try.f10 [.agg (x.cells tv)]).length = 52 := frameA_length (Nat.le_of_ble_eq_true rfl)
    have h0 : nth (frameA Try.f10 [.agg (x.cells tv)]) 0 = .agg (x.cells tv) := frameA_nth (Nat.le_of_ble_eq_true rfl)
    generalize frameA Try.f10 [.agg (x.cells tv)] = e at hl h0
    obtain ⟨sl, sc, htve⟩ := htv.slice
    have hty : u16In x.ty := by rcases hx.ty with h | h <;> simp [u16In, h]
    have hdl := Rec.data_length hx
    have hxl := Rec.bytes_length x
    have hbx := box_agg (h := h) (vs := x.cells tv) (cs := x.cells tv) rfl
    have hk1 := (Keep.refl (ex := []) hw).alloc (.cells (x.cells tv) .own)
    have hg1 := Heap.get_alloc h (.cells (x.cells tv) .own)
    generalize h.alloc (.cells (x.cells tv) .own) = g1 at hbx hk1 hg1
    generalize h.next = B at hbx hg1
    have ld : ∀ {g : Heap}, Keep [] g1 g → loadA Try.prog g 23 ⟨B, 0⟩ = some (.int .u16 x.ty) ∧ loadA Try.prog g 39 ⟨B, 1⟩ = some (.int .u32 x.ttl) ∧ loadA Try.prog g 5 ⟨B, 2⟩ = some (byteA x.a0) ∧ loadA Try.prog g 5 ⟨B, 3⟩ = some (byteA x.a1) ∧ loadA Try.prog g 5 ⟨B, 4⟩ = some (byteA x.a2) ∧ loadA Try.prog g 5 ⟨B, 5⟩ = some (byteA x.a3) ∧ loadA Try.prog g 23 ⟨B, 6⟩ = some (.int .u16 x.port) ∧ loadA Try.prog g 24 ⟨B, 7⟩ = some tv := fun hk => by
      have hg := hk.get _ _ hg1 (by simp)
      exact ⟨load_cell a23 hg rfl, load_cell a39 hg rfl, load_cell a5 hg rfl, load_cell a5 hg rfl, load_cell a5 hg rfl, load_cell a5 hg rfl, load_cell a23 hg rfl, load_cell a24 hg rfl⟩
    obtain ⟨d0, d1, _, _, _, _, _, _⟩ := ld (Keep.refl hk1.wf)
    have ia : indexAddrA Try.prog 40 (.ptr (some ⟨B, 2⟩)) (.int .i64 0) = some (.ptr (some ⟨B, 2⟩)) ∧ indexAddrA Try.prog 40 (.ptr (some ⟨B, 2⟩)) (.int .i64 1) = some (.ptr (some ⟨B, 3⟩)) ∧ indexAddrA Try.prog 40 (.ptr (some ⟨B, 2⟩)) (.int .i64 2) = some (.ptr (some ⟨B, 4⟩)) ∧ indexAddrA Try.prog 40 (.ptr (some ⟨B, 2⟩)) (.int .i64 3) = some (.ptr (some ⟨B, 5⟩)) := by
      refine ⟨?_, ?_, ?_, ?_⟩ <;> kernel_rfl
    generalize hA : IntKind.wrap .i64 (IntKind.wrap .u32 (x.ttl.tdiv 65536)) = ta
    generalize hC : IntKind.wrap .i64 (x.ttl.tmod 65536) = tb
    have hbl := b54_5 (h := g1) (a := 49164) (b := x.ty) (c := 1) (d := ta) (e := tb)
    have hk2 := (Keep.refl (ex := []) hk1.wf).alloc (.cells (ints [49164, x.ty, 1, ta, tb]) .own)
    have hg2 := Heap.get_alloc g1 (.cells (ints [49164, x.ty, 1, ta, tb]) .own)
    generalize g1.alloc (.cells (ints [49164, x.ty, 1, ta, tb]) .own) = g2 at hbl hk2 hg2
    obtain ⟨v3, g3, bs3, t3, acc3, len3, k3⟩ := big_ok O hk2.wf (Sl.exact rfl hg2) (by simp)
    have hca3 : callA (callT ov Try.prog) Try.prog g2 21 [.slice (some ⟨g1.next, 0⟩) 5 (.exact 5)] = _ := t3
    have len3 : bs3.length = 10 := len3
    have hK3 := hk2.trans k3
    obtain ⟨_, _, f2, f3, f4, f5, _, _⟩ := ld hK3
    have hb4 := b30_4 (h := g3) (a := x.a0) (b := x.a1) (c := x.a2) (d := x.a3)
    have hk4 := (Keep.refl (ex := []) hK3.wf).alloc (.cells (bytesA [x.a0, x.a1, x.a2, x.a3]) .own)
    have hg4 := Heap.get_alloc g3 (.cells (bytesA [x.a0, x.a1, x.a2, x.a3]) .own)
    generalize g3.alloc (.cells (bytesA [x.a0, x.a1, x.a2, x.a3]) .own) = g4 at hb4 hk4 hg4
    have hK4 := hK3.trans hk4
    obtain ⟨e0, _, _, _, _, _, e6, e7⟩ := ld hK4
    have htv4 : Sl g4 tv (strs x.target) := (htv.keep hk1 (by simp)).keep hK4 (by simp)
    repeat apply WP.seq
    apply WP.region; simp [hl, h0, hbx]
    repeat apply WP.seq
    apply WP.region; simp [hl, fa42, d0, d1, conv23_3 hty.1 hty.2, quo39, rem39, conv39, hA, hC, hbl, hca3]
    repeat apply WP.seq
    apply WP.region; simp [hl, fa42, ia, f2, f3, f4, f5, hb4]
    repeat apply WP.seq
    apply WP.region; simp [hl, fa42, e0]
    repeat apply WP.seq
    refine WP.mono (K := fun o e g => o = .normal ∧ e.length = 52 ∧ nth e 3 = v3 ∧ Keep [] g4 g ∧ (∀ i, idOf (nth e 4) = some i → g3.next ≤ i) ∧ ∃ bs, Sl g (nth e 4) (bytesA bs) ∧ bs.length = x.data.length) ?_ ?_
    · apply WP.cond (by simp [hl]; rfl)
      · intro hc
        have ht : x.ty = 33 := by simpa using hc
        have ht1 : x.ty ≠ 1 := by omega
        have hnm := hx.target ht
        have hdata : x.data.length = 6 + nameLen x.target := by simp only [Rec.data, ht1, if_false, List.length_append, be2s_length, encName_length]; rfl
        have hnl := hnm.2
        have hbl5 := b54_3 (h := g4) (a := 1) (b := 1) (c := x.port)
        have hk5 := (Keep.refl (ex := []) hk4.wf).alloc (.cells (ints [1, 1, x.port]) .own)
        have hg5 := Heap.get_alloc g4 (.cells (ints [1, 1, x.port]) .own)
        generalize g4.alloc (.cells (ints [1, 1, x.port]) .own) = g5 at hbl5 hk5 hg5
        obtain ⟨v6, g6, bs6, t6, acc6, len6, k6⟩ := big_ok O hk5.wf (Sl.exact rfl hg5) (by simp)
        have hca6 : callA (callT ov Try.prog) Try.prog g5 21 [.slice (some ⟨g4.next, 0⟩) 3 (.exact 3)] = _ := t6
        have len6 : bs6.length = 6 := len6
        have hK6 := hk5.trans k6
        obtain ⟨v7, g7, bs7, t7, acc7, len7, k7⟩ := wire_ok O hK6.wf (htv4.keep hK6 (by simp)) hnm
        have hca7 : callA (callT ov Try.prog) Try.prog g6 22 [tv] = _ := t7
        have hsrc := acc7.sl.src (P := Try.prog) u30 bytesA_ok
        rw [bytesA_length] at hsrc
        obtain ⟨v8, g8, h8, hw8⟩ := (Wrote.start (ex := idsOf v6) k7.wf (acc6.keep2 k7 (by simp)) (fun i hi => mem_ids hi)).app (by have := k6.le; have := k7.le; omega) (tu := 30) (ys := bs7) (by intro hh; rw [hh] at len7; simp [nameLen] at len7; omega) hsrc (by omega)
        obtain ⟨k50, k51, _, _, _, _, k56, k57⟩ := ld (hK4.trans hk5)
        obtain ⟨k60, k61, _, _, _, _, k66, k67⟩ := ld (hK4.trans hK6)
        obtain ⟨k70, k71, _, _, _, _, k76, k77⟩ := ld ((hK4.trans hK6).trans k7)
        refine WP.mono (K := fun o e g => o = .normal ∧ g = g8 ∧ e.length = 52 ∧ nth e 3 = v3 ∧ nth e 4 = v8) ?_ ?_
        · refine WP.drawDyn (by kernel_rfl) (dynOk_tw (pl := [(1, 3), (6, 3), (6, 4), (6, 7)]) (by kernel_rfl) ?_) ?_
          · simp [hl, fa42, e6, e7, k56, k57, k66, k67, k76, k77, conv23_3 hx.port.1 hx.port.2, hbl5, hca6, hca7, h8, loadSame]
          · simp [hl, fa42, e6, k67, conv23_3 hx.port.1 hx.port.2, hbl5, hca6, hca7, h8]
        rintro o e g ⟨rfl, rfl, hl, h3, h4⟩
        refine ⟨rfl, hl, h3, (hK6.trans k7).into hw8.keep (fun i hi => .inr ?_), fun i hi => ?_, bs6 ++ bs7, by rw [h4]; exact hw8.acc.sl, by simp; omega⟩
        · have := acc6.id (ids_mem hi)
          have := hk5.le
          omega
        · rw [h4] at hi
          have l4 := hk4.le
          have l5 := hk5.le
          have l6 := k6.le
          have l7 := k7.le
          rcases hw8.new i hi with h9 | h9
          · have := acc6.id (ids_mem h9); omega
          · omega
      · intro hc
        have ht : x.ty ≠ 33 := by simpa using hc
        have ht1 : x.ty = 1 := hx.ty.resolve_right ht
        apply WP.skip
        refine ⟨rfl, by simp [hl], by simp [hl], Keep.refl hk4.wf, by simp [hl, idOf], [x.a0, x.a1, x.a2, x.a3], by have h9 := Sl.exact (n := 4) rfl hg4; simpa [hl] using h9, by simp [Rec.data, ht1, Rec.addr]⟩
    clear hl h0
    rintro o e g ⟨rfl, hl, h3, hkg, hid4, bs, hsl, hbl4⟩
    simp
    obtain ⟨ul, uc, hu⟩ := hsl.slice
    rw [bytesA_length, hbl4] at hu
    have hlen4 : ∀ h, lenA Try.prog h 30 (nth e 4) = some (.int .i64 (x.data.length : Nat)) := fun h => by rw [hu]; simp [lenA, u30]
    have hb1 := b54_1 (h := g) (a := (x.data.length : Nat))
    have hk9 := (Keep.refl (ex := []) hkg.wf).alloc (.cells (ints [(x.data.length : Int)]) .own)
    have hg9 := Heap.get_alloc g (.cells (ints [(x.data.length : Int)]) .own)
    generalize g.alloc (.cells (ints [(x.data.length : Int)]) .own) = g9 at hb1 hk9 hg9
    obtain ⟨v10, g10, bs10, t10, acc10, len10, k10⟩ := big_ok O hk9.wf (Sl.exact rfl hg9) (by simp)
    have hca10 : callA (callT ov Try.prog) Try.prog g9 21 [.slice (some ⟨g.next, 0⟩) 1 (.exact 1)] = _ := t10
    have len10 : bs10.length = 2 := len10
    have acc3' : Acc g2.next g10 v3 (bytesA bs3) := (((acc3.keep2 hk4 (by simp)).keep2 hkg (by simp)).keep2 hk9 (by simp)).keep2 k10 (by simp)
    have hle2 : g2.next ≤ g10.next := by have := k3.le; have := hk4.le; have := hkg.le; have := hk9.le; have := k10.le; omega
    have hsrc10 := acc10.sl.src (P := Try.prog) u30 bytesA_ok
    rw [bytesA_length] at hsrc10
    obtain ⟨v11, g11, h11, hw11⟩ := (Wrote.start (ex := idsOf v3) k10.wf acc3' (fun i hi => mem_ids hi)).app hle2 (tu := 30) (ys := bs10) (by intro hh; rw [hh] at len10; simp at len10) hsrc10 (by omega)
    have hv3lt : ∀ i ∈ idsOf v3, i < g3.next := fun i hi => acc3.lt k3.wf (ids_mem hi)
    have hv3ge : ∀ i ∈ idsOf v3, g2.next ≤ i := fun i hi => acc3.id (ids_mem hi)
    have hsl11 : Sl g11 (nth e 4) (bytesA bs) := by
      refine ((hsl.keep hk9 (by simp)).keep k10 (by simp)).keep' hw11.keep (fun hne i hi hm => ?_)
      have := hv3lt i hm
      have := hid4 i hi
      omega
    have hsrc4 := hsl11.src (P := Try.prog) u30 bytesA_ok
    rw [bytesA_length] at hsrc4
    obtain ⟨v12, g12, h12, hw12⟩ := hw11.app2 hle2 (tu := 30) hsrc4 (by simp; omega)
    repeat apply WP.seq
    apply WP.region; simp [hl, h3, hlen4, hb1, hca10, h11]
    repeat apply WP.seq
    apply WP.region; simp [hl, h12]
    apply WP.ret
    obtain ⟨l, c, hv12⟩ := hw12.acc.sl.slice
    have hn12 : (bytesA (bs3 ++ bs10 ++ bs)).length = x.bytes.length := by rw [bytesA_length, List.length_append, List.length_append]; omega
    rw [hn12] at hv12
    rw [hv12]
    simp [hl, resultsA, resultA, single]
    have := (((hk1.trans hK4).trans hkg).trans hk9).trans k10
    exact this.into hw12.keep (fun i hi => .inr (by have := hv3ge i hi; have := hk1.le; have := hk2.le; omega))
  obtain ⟨_, h', h1, l, c, rfl, h2⟩ := main
  exact ⟨l, c, h', h1, h2⟩
end
end Go.Am

set_option linter.unusedSimpArgs false
namespace Go.Am
open Go.RowKit Go.Proofs

/-- The first rows. -/
theorem Accr.upto {P : Program} {n0 : Nat} {h : Heap} {s : Nat} {v : AV} {rows : List (List AV)} (ha : Accr n0 h s v rows) {t el : TypeId} (hu : P.underlying t = some (.slice el)) (h1 : sizeA P el = some s) {k : IntKind} {m : Nat} (hm : m ≤ rows.length) :
    ∃ l c, sliceA P t v none (some (.int k (m : Int))) none = some (.slice l m c) ∧ Slr h s (.slice l m c) (rows.take m) := by
  have hb : ∀ y, m ≤ y → ∀ d, boundA (some (.int k (m : Int))) d y = some m := by
    intro y hy d
    simp only [boundA]
    rw [if_pos ⟨by omega, by omega⟩]
    rfl
  have b2 : boundA none 0 m = some 0 := rfl
  have hall : ∀ r ∈ rows.take m, r.length = s := fun r hr => ha.1 r (List.mem_of_mem_take hr)
  have hlen : (rows.take m).length = m := by simp; omega
  rcases ha.2 with ⟨rfl, l, rfl, _⟩ | ⟨i, _, hne, rfl, hg⟩
  · have hm0 : m = 0 := by simpa using hm
    subst hm0
    cases l with
    | none => exact ⟨none, .exact 0, by simp [sliceA, hu, sliceOf, h1, boundA], ⟨by simp, rfl, by simp⟩⟩
    | some x => exact ⟨some x, .exact 0, by simp only [sliceA, hu, sliceOf, h1, Cap.sure, hb 0 (Nat.le_refl _), b2]; rfl, ⟨by simp, by simp, .inl rfl⟩⟩
  · have hp := List.length_pos_iff.2 hne
    refine ⟨some ⟨i, 0⟩, .tip s, ?_, ⟨hall, hlen, .inr ⟨rows.flatten, .own, hg, ?_, ?_⟩⟩⟩
    · have hlt : Nat.blt 0 rows.length = true := (blt_iff _ _).2 hp
      simp only [sliceA, hu, sliceOf, h1, Cap.sure, hb rows.length hm, b2, Trie.beq1, decide_true, cond_true, hlt, locAdd]
      simp
    · have := flatten_length ha.1
      simp only [Nat.zero_add]
      rw [this]
      exact Nat.mul_le_mul_right s hm
    · simp only [List.drop_zero]
      have h3 := flatten_length hall
      rw [hlen] at h3
      have h4 : rows.flatten = (rows.take m).flatten ++ (rows.drop m).flatten := by rw [← List.flatten_append, List.take_append_drop]
      rw [h4, List.take_left' h3]

theorem Rep.fits_unique {r : Rep} {limit : Int} {c d : Nat} (hc : r.Fits limit c) (hd : r.Fits limit d) : c = d := by
  have hwl : ∀ k, (r.wire k).length = 16 + nameLen r.q.labels + (flatB (r.recs.take k)).length := fun k => by rw [Rep.wire, List.length_append, Qu.bytes_length]
  have mono : ∀ {a b : Nat}, a < b → r.Fits limit a → r.Fits limit b → False := by
    intro a b hab ha hb
    obtain ⟨x, hx⟩ : ∃ x, r.recs[a]? = some x := ⟨r.recs[a]'(by have := hb.le; omega), by rw [List.getElem?_eq_getElem]⟩
    have h1 := ha.next x hx
    have h2 := hb.fit
    have h3 : (flatB (r.recs.take (a + 1))).length ≤ (flatB (r.recs.take b)).length := by
      have h4 : r.recs.take b = r.recs.take (a + 1) ++ (r.recs.take b).drop (a + 1) := by
        conv => lhs; rw [← List.take_append_drop (a + 1) (r.recs.take b)]
        rw [List.take_take, Nat.min_eq_left (by omega)]
      rw [h4]
      simp [flatB]
    rw [take_snoc hx, flatB_snoc, List.length_append] at h3
    rw [hwl] at h1 h2
    omega
  rcases Nat.lt_trichotomy c d with h | h | h
  · exact (mono h hc hd).elim
  · exact h
  · exact (mono h hd hc).elim

/-- What reading a written reply comes to. -/
def ReadP (r : Rep) (c : Nat) (h : Heap) (res : CRes) : Prop :=
  ∃ h' lv rv ps, res = .ret (.tuple [.agg (Rep.cells ⟨r.q, r.rcode, r.cut || decide (c < r.recs.length), []⟩ lv rv), .int .i64 0]) h' ∧ Keep [] h h' ∧ Sl h' lv (strs r.q.labels) ∧ RecsAt h' rv ps ∧ ps.map Prod.fst = (r.recs.take c).map Rec.norm ∧ (∀ j, idOf lv = some j → h.next ≤ j) ∧ (∀ j, idOf rv = some j → h.next ≤ j) ∧ ∀ p ∈ ps, ∀ j, idOf p.2 = some j → h.next ≤ j
def ReadOv (ov : CallF) (r : Rep) (c : Nat) : Prop := ∀ {h : Heap}, Wf h → ∀ {bv : AV}, Sl h bv (bytesA (r.wire c)) → ∃ res, callT ov Try.prog 18 [bv] h = some res ∧ ReadP r c h res

section
variable {ov : CallF}
theorem decode_ok (O : DOv ov) {r : Rep} {c : Nat} (hR : ReadOv ov r c) {h : Heap} (hw : Wf h) {bv : AV} (hs : Sl h bv (bytesA (r.wire c))) :
    ∃ res, callT ov Try.prog 8 [bv] h = some res ∧ ReadP r c h res := by
  have main : ∃ u h', callT ov Try.prog 8 [bv] h = some (.ret u h') ∧ ReadP r c h (.ret u h') := by
    refine callT_wp (fn := Try.f8) (O 8 (by decide) (by decide) (by decide) _ _) (by kernel_rfl) rfl ?_
    have hl : (frameA Try.f8 [bv]).length = 16 := frameA_length (Nat.le_of_ble_eq_true rfl)
    have h0 : nth (frameA Try.f8 [bv]) 0 = bv := frameA_nth (Nat.le_of_ble_eq_true rfl)
    generalize frameA Try.f8 [bv] = e at hl h0
    have hk1 := (Keep.refl (ex := []) hw).alloc (.cells [.int .u16 0, .int .i64 0, .bool false, .slice none 0 (.exact 0), .int .u16 0, .int .u16 0, .int .i64 0, .bool false, .slice none 0 (.exact 0)] .own)
    have hg1 := Heap.get_alloc h (.cells [.int .u16 0, .int .i64 0, .bool false, .slice none 0 (.exact 0), .int .u16 0, .int .u16 0, .int .i64 0, .bool false, .slice none 0 (.exact 0)] .own)
    have hal := al29 (h := h)
    generalize h.alloc (.cells [.int .u16 0, .int .i64 0, .bool false, .slice none 0 (.exact 0), .int .u16 0, .int .u16 0, .int .i64 0, .bool false, .slice none 0 (.exact 0)] .own) = g1 at hk1 hg1 hal
    obtain ⟨Y, hY⟩ : ∃ Y, Y = h.next := ⟨_, rfl⟩
    rw [← hY] at hg1 hal
    obtain ⟨res, t2, g2, lv, rv, ps, rfl, k2, sl2, rc2, hps, il, ir, it⟩ := hR hk1.wf (hs.keep hk1 (by simp))
    have hca2 : callA (callT ov Try.prog) Try.prog g1 18 [bv] = _ := t2
    obtain ⟨ll, lc, hlve⟩ := sl2.slice
    obtain ⟨rl, rc, hrve⟩ := rc2.1.slice
    generalize hcells : Rep.cells ⟨r.q, r.rcode, r.cut || decide (c < r.recs.length), []⟩ lv rv = cs at hca2
    have hcl : cs.length = 9 := by rw [← hcells]; rfl
    have hco : cellsOk cs = true := by rw [← hcells, hlve, hrve]; rfl
    obtain ⟨g3, g4, hv⟩ := var_of (ds := cs) k2.wf al29 s29 rfl hcl hco
    have hva := hv.al
    have hvs := hv.st
    have hvg := hv.get
    generalize g2.next = V at hva hvs hvg
    have lw := load_whole (P := Try.prog) (h := g4) a29 s29 hvg hcl
    have y4 := hv.keep.get _ _ (k2.get _ _ hg1 (by simp)) (by simp)
    obtain ⟨g5, st5, y5, k5⟩ := whole_set hv.keep.wf y4 (t := 29) s29 rfl hcl hco
    have lw5 := load_whole (P := Try.prog) (h := g5) a29 s29 y5 hcl
    have e2 : extractA (.tuple [.agg cs, .int .i64 0]) 0 = some (.agg cs) ∧ extractA (.tuple [.agg cs, .int .i64 0]) 1 = some (.int .i64 0) := ⟨rfl, rfl⟩
    have hYl := hk1.wf _ _ hg1
    repeat apply WP.seq
    apply WP.region; simp [hl, hal]
    repeat apply WP.seq
    apply WP.region; simp [hl, h0, hca2, e2, hva, storeR_ptr hvs]
    repeat apply WP.seq
    apply WP.region; simp [hl]
    repeat apply WP.seq
    apply WP.cond (t := false) (by simp [hl]) (by simp)
    intro _
    apply WP.skip; simp
    repeat apply WP.seq
    apply WP.region; simp [hl, lw, storeR_ptr st5]
    apply WP.ret
    refine ⟨.inr rfl, [.agg cs, .int .i64 0], by simp [resultsA, resultA, hl, lw5], g5, lv, rv, ps, by rw [hcells]; rfl, ?_, ?_, ⟨?_, ?_⟩, hps, fun j hj => by have := il j hj; have := hk1.le; omega, fun j hj => by have := ir j hj; have := hk1.le; omega, fun p hp j hj => by have := it p hp j hj; have := hk1.le; omega⟩
    · exact ((hk1.trans k2).trans hv.keep).into k5 (fun i hi => .inr (by have := List.mem_singleton.1 hi; omega))
    · exact (sl2.keep hv.keep (by simp)).keep k5 (fun j hj hm => by have := il j hj; have := List.mem_singleton.1 hm; omega)
    · exact (rc2.1.keep' hv.keep (by simp)).keep' k5 (fun _ j hj hm => by have := ir j hj; have := List.mem_singleton.1 hm; omega)
    · exact fun p hp => ((rc2.2 p hp).keep hv.keep (by simp)).keep k5 (fun j hj hm => by have := it p hp j hj; have := List.mem_singleton.1 hm; omega)
  obtain ⟨u, h', h1, h2⟩ := main
  exact ⟨_, h1, h2⟩
end
end Go.Am

set_option linter.unusedSimpArgs false
namespace Go.Am
open Go.RowKit Go.Proofs

section
variable {ov : CallF}
set_option maxHeartbeats 4000000 in
theorem back_ok (O : EOv ov) (h5c : ∀ h, callT ov Try.prog 5 [] h = some (.ret (.bool true) h)) {h : Heap} (hw : Wf h) {q : Qu} {rcode : Int} {cut : Bool} {ps : List (Rec × AV)} {r : Rep} (hr : r = ⟨q, rcode, cut, ps.map Prod.fst⟩) (hin : r.In) {lv rv : AV} (hlv : Sl h lv (strs q.labels)) (hrv : RecsAt h rv ps) (limit : Int)
    (hread : ∀ c, r.Fits limit c → r.Ok → ReadOv ov r c) :
    ∃ h', callT ov Try.prog 4 [.agg (r.cells lv rv), .int .i64 limit] h = some (.ret (.bool true) h') := by
  have main : ∃ u h', callT ov Try.prog 4 [.agg (r.cells lv rv), .int .i64 limit] h = some (.ret u h') ∧ u = .bool true := by
    refine callT_wp (fn := Try.f4) (O.d 4 (by decide) (by decide) (by decide) _ _) (by kernel_rfl) rfl ?_
    have hl : (frameA Try.f4 [.agg (r.cells lv rv), .int .i64 limit]).length = 86 := frameA_length (Nat.le_of_ble_eq_true rfl)
    have h0 : nth (frameA Try.f4 [.agg (r.cells lv rv), .int .i64 limit]) 0 = .agg (r.cells lv rv) := frameA_nth (Nat.le_of_ble_eq_true rfl)
    have h1 : nth (frameA Try.f4 [.agg (r.cells lv rv), .int .i64 limit]) 1 = .int .i64 limit := frameA_nth (Nat.le_of_ble_eq_true rfl)
    generalize frameA Try.f4 [.agg (r.cells lv rv), .int .i64 limit] = e at hl h0 h1
    have hcells : r.cells lv rv = Rep.cells ⟨q, rcode, cut, []⟩ lv rv := by rw [hr]; rfl
    have hrc : ∀ a b, r.cells a b = Rep.cells ⟨q, rcode, cut, []⟩ a b := fun a b => by rw [hr]; rfl
    have hqi : q.In := by have := hin.q; rw [hr] at this; exact this
    have hpn : ps.length ≤ 10000000 := by have := hin.n; rw [hr] at this; simpa using this
    have hrin : ∀ p ∈ ps, p.1.In := fun p hp => hin.recs p.1 (by rw [hr]; exact List.mem_map_of_mem hp)
    have hrn : r.recs.length = ps.length := by rw [hr]; simp
    have hca5 : ∀ h, callA (callT ov Try.prog) Try.prog h 5 [] = some (.ret (.bool true) h) := h5c
    rw [hcells] at h0
    have hbx := box_agg (h := h) (vs := Rep.cells ⟨q, rcode, cut, []⟩ lv rv) (cs := Rep.cells ⟨q, rcode, cut, []⟩ lv rv) rfl
    have hk1 := (Keep.refl (ex := []) hw).alloc (.cells (Rep.cells ⟨q, rcode, cut, []⟩ lv rv) .own)
    have hg1 := Heap.get_alloc h (.cells (Rep.cells ⟨q, rcode, cut, []⟩ lv rv) .own)
    generalize h.alloc (.cells (Rep.cells ⟨q, rcode, cut, []⟩ lv rv) .own) = g1 at hbx hk1 hg1
    generalize h.next = P at hbx hg1
    have lP : ∀ {g : Heap}, Keep [] g1 g → loadA Try.prog g 29 ⟨P, 0⟩ = some (.agg (Rep.cells ⟨q, rcode, cut, []⟩ lv rv)) ∧ loadA Try.prog g 4 ⟨P, 7⟩ = some (.bool cut) ∧ loadA Try.prog g 27 ⟨P, 8⟩ = some rv := fun hk => by
      have hg := hk.get _ _ hg1 (by simp)
      exact ⟨load_whole a29 s29 hg rfl, load_cell a4 hg rfl, load_cell a27 hg rfl⟩
    obtain ⟨p29, p7, p8⟩ := lP (Keep.refl hk1.wf)
    have hpt : ∀ p ∈ ps, p.1.target.length ≤ 10000000 := fun p hp => (hrin p hp).ll.1
    obtain ⟨g2, lv1, rv1, ps1, t2, own1, hps1⟩ := own_ok O.d hk1.wf (rcode := rcode) (cut := cut) (hlv.keep hk1 (by simp)) hqi.ll.1 (hrv.keep hk1) hpn hpt
    have hca2 : callA (callT ov Try.prog) Try.prog g1 7 [.agg (Rep.cells ⟨q, rcode, cut, []⟩ lv rv)] = _ := t2
    have hr1 : r = ⟨q, rcode, cut, ps1.map Prod.fst⟩ := by rw [hps1]; exact hr
    obtain ⟨bv, er, g3, t3, k3, hres⟩ := encode_ok O own1.keep.wf hr1 hin own1.lab own1.recs limit
    rw [hrc] at t3
    have hca3 : callA (callT ov Try.prog) Try.prog g2 6 [.agg (Rep.cells ⟨q, rcode, cut, []⟩ lv1 rv1), .int .i64 limit] = _ := t3
    have e2 : ∀ a b : AV, extractA (.tuple [a, b]) 0 = some a ∧ extractA (.tuple [a, b]) 1 = some b := fun _ _ => ⟨rfl, rfl⟩
    have hK3 : Keep [] g1 g3 := own1.keep.trans k3
    repeat apply WP.seq
    apply WP.region; simp [hl, h0, hbx]
    repeat apply WP.seq
    apply WP.region; simp [hl, hca5]
    repeat apply WP.seq
    apply WP.cond (t := false) (by simp [hl]) (by simp)
    intro _
    apply WP.skip; simp
    repeat apply WP.seq
    apply WP.region; simp [hl, h1, p29, hca2, hca3, e2]
    repeat apply WP.seq
    apply WP.region; simp [hl]
    repeat apply WP.seq
    apply WP.cond (by simp [hl]; rfl)
    · intro hc
      have hc : er ≠ 0 := by simpa using hc
      have hbn : bv = .slice none 0 (.exact 0) := by
        rcases hres with ⟨_, h9⟩ | ⟨h9, _⟩
        · exact h9
        · exact absurd h9 hc
      have hlen : ∀ h, lenA Try.prog h 30 bv = some (.int .i64 0) := fun h => by rw [hbn]; simp [lenA, u30]
      repeat apply WP.seq
      apply WP.region; simp [hl, hlen]
      apply WP.ret
      simp [hl, resultsA, resultA, single]
    intro hc
    have hc : er = 0 := by simpa using hc
    obtain ⟨_, hok, c, hfit, hsb⟩ := hres.resolve_left (fun hh => hh.1 hc)
    apply WP.skip; simp
    have hcle := hfit.le
    have hlen65 : (r.wire c).length ≤ 65535 := by have := hfit.fit; have := hfit.low; omega
    have hlenb : ∀ h, lenA Try.prog h 30 bv = some (.int .i64 ((r.wire c).length : Nat)) := fun h => by
      obtain ⟨l, cc, hv⟩ := hsb.slice
      rw [hv]; simp [lenA, u30, bytesA_length]
    obtain ⟨res, t4, g4, lvg, rvg, psg, rfl, k4, slg, rcg, hpsg, _, _, _⟩ := decode_ok O.d (hread c hfit hok) k3.wf hsb
    have hca4 : callA (callT ov Try.prog) Try.prog g3 8 [bv] = _ := t4
    have hgc : Rep.cells ⟨r.q, r.rcode, r.cut || decide (c < r.recs.length), []⟩ lvg rvg = Rep.cells ⟨q, rcode, cut || decide (c < ps.length), []⟩ lvg rvg := by rw [hr]; simp [Rep.cells]
    rw [hgc] at hca4
    have slg : Sl g4 lvg (strs q.labels) := by have := slg; rw [hr] at this; exact this
    have hpsg : psg.map Prod.fst = ((ps.map Prod.fst).take c).map Rec.norm := by have := hpsg; rw [hr] at this; exact this
    have hcn : psg.length = c := by
      have h9 : (psg.map Prod.fst).length = c := by rw [hpsg]; simp; omega
      simpa using h9
    generalize hcut : (cut || decide (c < ps.length)) = cut' at hca4
    obtain ⟨ll, lc, hlvge⟩ := slg.slice
    obtain ⟨rl, rc, hrvge⟩ := rcg.1.slice
    obtain ⟨g5, g6, hv6⟩ := var_of (ds := Rep.cells ⟨q, rcode, cut', []⟩ lvg rvg) k4.wf al29 s29 rfl rfl (by rw [hlvge, hrvge]; rfl)
    have hva6 := hv6.al
    have hvs6 := hv6.st
    have hvg6 := hv6.get
    generalize g4.next = G at hva6 hvs6 hvg6
    have hK6 : Keep [] g1 g6 := (hK3.trans k4).trans hv6.keep
    have lG : ∀ {g : Heap}, Keep [] g6 g → loadA Try.prog g 29 ⟨G, 0⟩ = some (.agg (Rep.cells ⟨q, rcode, cut', []⟩ lvg rvg)) ∧ loadA Try.prog g 27 ⟨G, 8⟩ = some rvg := fun hk => by
      have hg := hk.get _ _ hvg6 (by simp)
      exact ⟨load_whole a29 s29 hg rfl, load_cell a27 hg rfl⟩
    obtain ⟨gg, gg8⟩ := lG (Keep.refl hv6.keep.wf)
    have hlg := rcg.len
    rw [hcn] at hlg
    obtain ⟨q29, q7, q8⟩ := lP hK6
    have hlr := hrv.len
    have hlim1 : ¬ (limit < ((r.wire c).length : Nat)) := by have := hfit.fit; omega
    have hcn1 : ¬ ((ps.length : Int) < (c : Int)) := by omega
    -- own, once more
    have hk16 : Keep [] h g6 := hk1.trans hK6
    obtain ⟨g7, lv2, rv2, ps2, t7, own2, hps2⟩ := own_ok O.d hv6.keep.wf (rcode := rcode) (cut := cut) (hlv.keep hk16 (by simp)) hqi.ll.1 (hrv.keep hk16) hpn hpt
    have hca7 : callA (callT ov Try.prog) Try.prog g6 7 [.agg (Rep.cells ⟨q, rcode, cut, []⟩ lv rv)] = _ := t7
    have hp2n : ps2.length = ps.length := by have h9 : (ps2.map Prod.fst).length = ps.length := (by rw [hps2]; simp); simpa using h9
    obtain ⟨ll2, lc2, hlv2⟩ := own2.lab.slice
    obtain ⟨rl2, rc2, hrv2⟩ := own2.rows.slr.slice
    obtain ⟨g8, g9, hv9⟩ := var_of (ds := Rep.cells ⟨q, rcode, cut, []⟩ lv2 rv2) own2.keep.wf al29 s29 rfl rfl (by rw [hlv2, hrv2]; rfl)
    have hva9 := hv9.al
    have hvs9 := hv9.st
    have hvg9 := hv9.get
    obtain ⟨W, hW⟩ : ∃ W, W = g7.next := ⟨_, rfl⟩
    rw [← hW] at hva9 hvs9 hvg9
    have w8 : loadA Try.prog g9 27 ⟨W, 8⟩ = some rv2 := load_cell a27 hvg9 rfl
    obtain ⟨l3, c3, hsl3, hslr3⟩ := own2.rows.upto (P := Try.prog) u27 s42 (k := .i64) (m := c) (by simp; omega)
    obtain ⟨g10, st10, w10, k10⟩ := field_set hv9.keep.wf hvg9 (t := 27) s27 (v := .slice l3 c c3) rfl rfl (o := 8) (by simp [Rep.cells])
    have w10 : g10.get W = some (.cells (Rep.cells ⟨q, rcode, cut, []⟩ lv2 (.slice l3 c c3)) .own) := w10
    have hWP : ∀ {o : Obj} {j : Nat}, g6.get j = some o → j ∉ [W] := fun hj hm => by
      have h9 := own2.keep.wf _ _ (own2.keep.get _ _ hj (by simp))
      have := List.mem_singleton.1 hm
      omega
    have hP6 := hK6.get _ _ hg1 (by simp)
    have hP10 := k10.get _ _ (hv9.keep.get _ _ (own2.keep.get _ _ hP6 (by simp)) (by simp)) (hWP hP6)
    have r7 : loadA Try.prog g10 4 ⟨P, 7⟩ = some (.bool cut) := load_cell a4 hP10 rfl
    have r8 : loadA Try.prog g10 27 ⟨P, 8⟩ = some rv := load_cell a27 hP10 rfl
    obtain ⟨g11, st11, w11, k11⟩ := field_set k10.wf w10 (t := 4) s4 (v := .bool cut') rfl rfl (o := 7) (by simp [Rep.cells])
    have w11 : g11.get W = some (.cells (Rep.cells ⟨q, rcode, cut', []⟩ lv2 (.slice l3 c c3)) .own) := w11
    have lw11 := load_whole (P := Try.prog) (h := g11) a29 s29 w11 rfl
    have hG11 := k11.get _ _ (k10.get _ _ (hv9.keep.get _ _ (own2.keep.get _ _ hvg6 (by simp)) (by simp)) (hWP hvg6)) (hWP hvg6)
    have lg11 := load_whole (P := Try.prog) (h := g11) a29 s29 hG11 rfl
    have hP11 := k11.get _ _ hP10 (hWP hP6)
    have lp11 : loadA Try.prog g11 27 ⟨P, 8⟩ = some rv := load_cell a27 hP11 rfl
    -- what lies elsewhere stays
    have sl11 : ∀ {v : AV} {xs : List AV}, Sl g6 v xs → xs ≠ [] → ∀ i, idOf v = some i → i ∉ [W] := fun hs hne i hi hm => by
      have h9 := hs.lt hv6.keep.wf hne hi
      have := own2.keep.le
      have := List.mem_singleton.1 hm
      omega
    have keep6 : ∀ {v : AV} {xs : List AV}, Sl g6 v xs → Sl g11 v xs := fun hs =>
      (((hs.keep own2.keep (by simp)).keep hv9.keep (by simp)).keep' k10 (sl11 hs)).keep' k11 (sl11 hs)
    have keepr6 : ∀ {v : AV} {xs : List (List AV)}, Slr g6 8 v xs → Slr g11 8 v xs := @fun v xs hs => by
      have hx : xs ≠ [] → ∀ i, idOf v = some i → i ∉ [W] := fun hne i hi hm => by
        have h9 := hs.lt hv6.keep.wf hne hi
        have := own2.keep.le
        have := List.mem_singleton.1 hm
        omega
      exact (((hs.keep' own2.keep (by simp)).keep' hv9.keep (by simp)).keep' k10 hx).keep' k11 hx
    have keep7 : ∀ {v : AV} {xs : List AV}, Sl g7 v xs → Sl g11 v xs := @fun v xs hs => by
      have hx : xs ≠ [] → ∀ i, idOf v = some i → i ∉ [W] := fun hne i hi hm => by
        have h9 := hs.lt own2.keep.wf hne hi
        have := List.mem_singleton.1 hm
        omega
      exact ((hs.keep hv9.keep (by simp)).keep' k10 hx).keep' k11 hx
    have keepr7 : ∀ {v : AV} {xs : List (List AV)}, Slr g7 8 v xs → Slr g11 8 v xs := @fun v xs hs => by
      have hx : xs ≠ [] → ∀ i, idOf v = some i → i ∉ [W] := fun hne i hi hm => by
        have h9 := hs.lt own2.keep.wf hne hi
        have := List.mem_singleton.1 hm
        omega
      exact ((hs.keep' hv9.keep (by simp)).keep' k10 hx).keep' k11 hx
    have rcg11 : RecsAt g11 rvg psg := ⟨keepr6 (rcg.1.keep' hv6.keep (by simp)), fun p hp => keep6 ((rcg.2 p hp).keep hv6.keep (by simp))⟩
    have rcw11 : RecsAt g11 (.slice l3 c c3) (ps2.take c) := ⟨by rw [List.map_take]; exact keepr7 hslr3, fun p hp => keep7 (own2.tgt p (List.mem_of_mem_take hp))⟩
    have hxs : ∀ x ∈ (ps.map Prod.fst).take c, (x.ty = 1 ∨ x.ty = 33) ∧ x.target.length ≤ 10000000 := fun x hx => by
      have h9 := List.mem_of_mem_take hx
      obtain ⟨p, hp, rfl⟩ := List.mem_map.1 h9
      exact ⟨(hok.recs p.1 (by rw [hr]; exact h9)).ty, hpt p hp⟩
    obtain ⟨g12, t12, k12⟩ := samereply_ok O.d k11.wf (rcode := rcode) (cut := cut') (keep6 (slg.keep hv6.keep (by simp))) (keep7 own2.lab) hqi.ll.1 rcg11 hpsg rcw11 (by rw [List.map_take, hps2]) hxs (by simp; omega)
    have hca12 : callA (callT ov Try.prog) Try.prog g11 9 [.agg (Rep.cells ⟨q, rcode, cut', []⟩ lvg rvg), .agg (Rep.cells ⟨q, rcode, cut', []⟩ lv2 (.slice l3 c c3))] = _ := t12
    have s8 : loadA Try.prog g12 27 ⟨P, 8⟩ = some rv := load_cell a27 (k12.get _ _ hP11 (by simp)) rfl
    have hrv6 : RecsAt g6 rv ps := hrv.keep hk16
    have hrv12 : RecsAt g12 rv ps := RecsAt.keep k12 ⟨keepr6 hrv6.1, fun p hp => keep6 (hrv6.2 p hp)⟩
    repeat apply WP.seq
    apply WP.region; simp [hl, hca4, e2, hva6, storeR_ptr hvs6]
    repeat apply WP.seq
    apply WP.region; simp [hl, fa29, gg8, hlg]
    repeat apply WP.seq
    refine WP.mono (K := fun o e g => o = .normal ∧ g = g6 ∧ e.length = 86 ∧ nth e 1 = .int .i64 limit ∧ nth e 2 = .ptr (some ⟨P, 0⟩) ∧ nth e 5 = bv ∧ nth e 7 = .ptr (some ⟨G, 0⟩) ∧ nth e 9 = .int .i64 (c : Nat) ∧ nth e 47 = .bool false) ?_ ?_
    · apply WP.region
      simp [hl, h1, fa29, hlenb, q8, hlr, hlim1, hcn1, guardA]
    clear hl h0 h1
    rintro o e g ⟨rfl, rfl, hl, h1, h2, h5, h7, h9, h47⟩
    simp
    repeat apply WP.seq
    apply WP.cond (t := false) (by simp [h47]) (by simp)
    intro _
    apply WP.skip; simp
    repeat apply WP.seq
    apply WP.region; simp [hl, h2, q29, hca7, hva9, storeR_ptr hvs9]
    repeat apply WP.seq
    apply WP.region; simp [hl, h9, fa29, w8, hsl3, storeR_ptr st10]
    repeat apply WP.seq
    refine WP.mono (K := fun o e g => o = .normal ∧ g = g11 ∧ e.length = 86 ∧ nth e 1 = .int .i64 limit ∧ nth e 2 = .ptr (some ⟨P, 0⟩) ∧ nth e 5 = bv ∧ nth e 7 = .ptr (some ⟨G, 0⟩) ∧ nth e 9 = .int .i64 (c : Nat) ∧ nth e 10 = .ptr (some ⟨W, 0⟩)) ?_ ?_
    · apply WP.region
      cases cut with
      | true =>
        simp at hcut
        subst hcut
        simp [hl, h1, h2, h5, h7, h9, fa29, r7, guardA, storeR_ptr st11]
      | false =>
        simp at hcut
        subst hcut
        simp [hl, h1, h2, h5, h7, h9, fa29, r7, r8, hlr, guardA, storeR_ptr st11]
    clear hl h1 h2 h5 h7 h9 h47
    rintro o e g ⟨rfl, rfl, hl, h1, h2, h5, h7, h9, h10⟩
    simp
    repeat apply WP.seq
    apply WP.region; simp [hl, h7, h10, lg11, lw11, hca12]
    repeat apply WP.seq
    apply WP.cond (t := false) (by simp [hl]) (by simp)
    intro _
    apply WP.skip; simp
    repeat apply WP.seq
    apply WP.region; simp [hl, h2, h9, fa29, s8, hlr]
    repeat apply WP.seq
    apply WP.cond (by simp [hl]; rfl)
    · intro _
      repeat apply WP.seq
      apply WP.region; simp [hl]
      apply WP.ret
      simp [hl, resultsA, resultA, single]
    intro hcne
    have hcne : ¬ (c : Int) = (ps.length : Int) := by simpa using hcne
    have hclt : c < ps.length := by omega
    obtain ⟨p, hp⟩ : ∃ p, ps[c]? = some p := ⟨ps[c], by simp [hclt]⟩
    have hpm := List.mem_of_getElem? hp
    have hpx : r.recs[c]? = some p.1 := by rw [hr]; simp [hp]
    have hpok := hok.recs p.1 (List.mem_of_getElem? hpx)
    have hnext := hfit.next p.1 hpx
    obtain ⟨l1, x1, ld1⟩ := hrv12.at hp (k := .i64)
    obtain ⟨rl9, rc9, g13, t13, k13⟩ := refrecord_ok O.d k12.wf hpok (hrv12.2 p hpm)
    have hca13 : callA (callT ov Try.prog) Try.prog g12 10 [.agg (p.1.cells p.2)] = _ := t13
    have hdl := Rec.data_length hpok
    have hbl := Rec.bytes_length p.1
    have hw1 : IntKind.wrap .i64 (((r.wire c).length : Int) + (p.1.bytes.length : Nat)) = ((r.wire c).length : Int) + (p.1.bytes.length : Nat) := wrap_small (by omega) (by omega)
    have hlen10 : ∀ h, lenA Try.prog h 30 (.slice rl9 p.1.bytes.length rc9) = some (.int .i64 (p.1.bytes.length : Nat)) := fun h => by simp [lenA, u30]
    apply WP.skip; simp
    repeat apply WP.seq
    apply WP.region; simp [hl, h1, h2, h5, h9, fa29, s8, x1, ld1, hlenb, hca13, hlen10, hw1]
    apply WP.ret
    simp [hl, resultsA, resultA, single]
    omega
  obtain ⟨_, h', h1, rfl⟩ := main
  exact ⟨h', h1⟩
end
end Go.Am
