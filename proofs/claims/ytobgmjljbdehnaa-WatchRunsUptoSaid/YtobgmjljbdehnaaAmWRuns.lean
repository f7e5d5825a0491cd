/- The walk of WatchRuns. -/
import Derived.Test.YtobgmjljbdehnaaAmWRunR
set_option linter.unusedSimpArgs false
namespace Go.Am
open Go.RowKit Go.Proofs
theorem u29 : Try.prog.underlying 29 = some (.slice 34) := by kernel_rfl
theorem u30 : Try.prog.underlying 30 = some (.slice 39) := by kernel_rfl
theorem u27 : Try.prog.underlying 27 = some (.slice 32) := by kernel_rfl
theorem s34 : sizeA Try.prog 34 = some 1 := by kernel_rfl
theorem s32 : sizeA Try.prog 32 = some 3 := by kernel_rfl
theorem a34 : aggA Try.prog 34 = some false := by kernel_rfl
theorem a32 : aggA Try.prog 32 = some true := by kernel_rfl
theorem i34 : Try.prog.info? 34 = some Try.t34 := by kernel_rfl
theorem i39 : Try.prog.info? 39 = some Try.t39 := by kernel_rfl
theorem room34 {n : Nat} (hn : n ≤ 1000000000) : roomA Try.prog 34 n = true := room_of i34 (b := 8) (by kernel_rfl) (by omega) (by omega) (z := .pointer none) (by kernel_rfl) (by kernel_rfl) (by kernel_rfl)
theorem room39 {n : Nat} (hn : n ≤ 1000000000) : roomA Try.prog 39 n = true := room_of i39 (b := 32) (by kernel_rfl) (by omega) (by omega) (z := .agg #[.int .i64 0, .slice none 0 0]) (by kernel_rfl) (by kernel_rfl) (by kernel_rfl)
theorem fa32 {l : Loc} : fieldAddrA Try.prog 32 (.ptr (some l)) 0 = some (.ptr (some ⟨l.id, l.off + 0⟩)) ∧ fieldAddrA Try.prog 32 (.ptr (some l)) 1 = some (.ptr (some ⟨l.id, l.off + 1⟩)) ∧ fieldAddrA Try.prog 32 (.ptr (some l)) 2 = some (.ptr (some ⟨l.id, l.off + 2⟩)) := by
  refine ⟨?_, ?_, ?_⟩ <;> kernel_rfl
theorem alloc32 {h : Heap} : allocA Try.prog h 32 = some (.ptr (some ⟨h.next, 0⟩), h.alloc (.cells [.int .i64 0, .int .i64 0, .int .i64 0] .own)) := by kernel_rfl
theorem build23_1 {h : Heap} {b : Bool} : buildSliceA Try.prog h 23 1 [(0, .bool b)] = some (.slice (some ⟨h.next, 0⟩) 1 (.exact 1), h.alloc (.cells [.bool b] .own)) := by kernel_rfl
theorem build29_1 {h : Heap} {l : Option Loc} : buildSliceA Try.prog h 29 1 [(0, .ptr l)] = some (.slice (some ⟨h.next, 0⟩) 1 (.exact 1), h.alloc (.cells [.ptr l] .own)) := by kernel_rfl
theorem build30_1 {h : Heap} {k : IntKind} {b : Int} : buildSliceA Try.prog h 30 1 [(0, .agg [.int k b, .slice none 0 (.exact 0)])] = some (.slice (some ⟨h.next, 0⟩) 1 (.exact 1), h.alloc (.cells [.int k b, .slice none 0 (.exact 0)] .own)) := by kernel_rfl

def rowsO (ops : List (Int × Int × Int)) : List (List AV) := ops.map fun o => [.int .i64 o.1, .int .i64 o.2.1, .int .i64 o.2.2]
theorem rowsO_get {ops : List (Int × Int × Int)} {i : Nat} {o : Int × Int × Int} (h : ops[i]? = some o) : (rowsO ops)[i]? = some [.int .i64 o.1, .int .i64 o.2.1, .int .i64 o.2.2] := by simp [rowsO, h]

/-- What the loops keep. -/
def LS (n0 : Nat) (av : AV) (rows : List (List AV)) (e : List AV) (g : Heap) (i : Nat) : Prop :=
  ∃ tg wv fv sv mv ws fs ss, nth e 3 = wv ∧ nth e 4 = fv ∧ nth e 5 = sv ∧ nth e 6 = mv ∧ Inv n0 av rows tg g wv (ptrs ws) fv (bools fs) sv (ptrsS ss) mv (rowsM ss) ws fs ss ∧ ws.length ≤ i ∧ ss.length ≤ i ∧ ∀ s ∈ ss, s.mem.length ≤ i
/-- A place among n, or none. -/
def At (a : Int) (n : Nat) : Prop := a = -1 ∨ ∃ m : Nat, a = (m : Int) ∧ m < n
theorem ptrs_snoc {ws : List (Nat × Nat)} {w : Nat × Nat} : ptrs ws ++ [.ptr (some ⟨w.1, 0⟩)] = ptrs (ws ++ [w]) := by simp [ptrs]
theorem bools_snoc {bs : List Bool} {b : Bool} : bools bs ++ [.bool b] = bools (bs ++ [b]) := by simp [bools]
theorem ptrsS_snoc {ss : List SS} {s : SS} : ptrsS ss ++ [.ptr (some ⟨s.S, 0⟩)] = ptrsS (ss ++ [s]) := by simp [ptrsS]
theorem rowsM_snoc {ss : List SS} {s : SS} : rowsM ss ++ [[.int .i64 s.most, s.held]] = rowsM (ss ++ [s]) := by simp [rowsM]

theorem LS.of {n0 : Nat} {av : AV} {rows : List (List AV)} {tg : Nat → Tg} {e : List AV} {g : Heap} {i : Nat} {wv fv sv mv : AV} {ws : List (Nat × Nat)} {fs : List Bool} {ss : List SS} (hI : Inv n0 av rows tg g wv (ptrs ws) fv (bools fs) sv (ptrsS ss) mv (rowsM ss) ws fs ss)
    (h3 : nth e 3 = wv) (h4 : nth e 4 = fv) (h5 : nth e 5 = sv) (h6 : nth e 6 = mv) (hw : ws.length ≤ i) (hs : ss.length ≤ i) (hm : ∀ s ∈ ss, s.mem.length ≤ i) : LS n0 av rows e g i := ⟨tg, wv, fv, sv, mv, ws, fs, ss, h3, h4, h5, h6, hI, hw, hs, hm⟩
def FR (e : List AV) (av : AV) (n i : Nat) (wv fv sv mv : AV) (B : Nat) : Prop :=
  e.length = 251 ∧ nth e 21 = av ∧ nth e 22 = .int .i64 n ∧ nth e 23 = .int .i64 (i : Nat) ∧ nth e 3 = wv ∧ nth e 4 = fv ∧ nth e 5 = sv ∧ nth e 6 = mv ∧ nth e 8 = .ptr (some ⟨B, 0⟩)
/-- A field of an element of a slice. -/
theorem Slr.atf {P : Program} {h : Heap} {s : Nat} {v : AV} {rows : List (List AV)} (hs : Slr h s v rows) {t el : TypeId} (hu : P.underlying t = some (.slice el)) (h1 : sizeA P el = some s) (ha : aggA P el = some true) {i : Nat} {r : List AV} (hx : rows[i]? = some r) {k : IntKind} :
    ∃ l, indexAddrA P t v (.int k (i : Int)) = some (.ptr (some l)) ∧ loadA P h el l = some (.agg r) ∧ idOf v = some l.id ∧ ∀ (t' : TypeId) (j : Nat) (x : AV), aggA P t' = some false → r[j]? = some x → loadA P h t' ⟨l.id, l.off + j⟩ = some x := by
  obtain ⟨l, hl1, hl2, hl3⟩ := hs.at (P := P) hu h1 ha hx (k := k)
  refine ⟨l, hl1, hl2, hl3, fun t' j x ht hj => ?_⟩
  have hlt := (List.getElem?_eq_some_iff.1 hx).1
  have hat := flatten_at hs.1 hx
  have hs2 := hs.2
  match v, hs2 with
  | .slice none n c, hs2 => obtain ⟨rfl, rfl⟩ := hs2; simp at hx
  | .slice (some l0) n c, hs2 =>
    obtain ⟨rfl, h0 | ⟨cs, k', hg, hle, hd⟩⟩ := hs2
    · omega
    · have hjs : j < s := by have := (List.getElem?_eq_some_iff.1 hj).1; rw [hs.1 r (List.mem_of_getElem? hx)] at this; exact this
      have hb : (i + 1) * s ≤ rows.length * s := Nat.mul_le_mul_right _ hlt
      rw [Nat.add_mul, Nat.one_mul] at hb
      have hi := index_at (P := P) hu h1 hlt (k := k) (c := c) (l := l0)
      rw [hi] at hl1
      cases hl1
      refine load_cell ht hg ?_
      rw [← hat] at hj
      rw [List.getElem?_take_of_lt hjs, List.getElem?_drop, ← hd, List.getElem?_take_of_lt (by omega), List.getElem?_drop] at hj
      rw [← hj]
      show cs[l0.off + i * s + j]? = cs[l0.off + (i * s + j)]?
      rw [Nat.add_assoc]
/-- What First and Len of a set and of the document's set come to. -/
theorem Inv.look {n0 : Nat} {av : AV} {rows : List (List AV)} {tg : Nat → Tg} {g : Heap} {wv fv sv mv : AV} {ws : List (Nat × Nat)} {fs : List Bool} {ss : List SS} (h : Inv n0 av rows tg g wv (ptrs ws) fv (bools fs) sv (ptrsS ss) mv (rowsM ss) ws fs ss)
    {k : Nat} {s : SS} (hs : ss[k]? = some s) (hn : s.mem.length ≤ 1000000000) :
    ∃ (g' : Heap) (F : Int) (ls lm : Loc), Inv n0 av rows tg g' wv (ptrs ws) fv (bools fs) sv (ptrsS ss) mv (rowsM ss) ws fs ss ∧
      indexAddrA Try.prog 29 sv (.int .i64 (k : Int)) = some (.ptr (some ls)) ∧ indexAddrA Try.prog 30 mv (.int .i64 (k : Int)) = some (.ptr (some lm)) ∧
      loadA Try.prog g 34 ls = some (.ptr (some ⟨s.S, 0⟩)) ∧ loadA Try.prog g' 34 ls = some (.ptr (some ⟨s.S, 0⟩)) ∧
      loadA Try.prog g 39 lm = some (.agg [.int .i64 s.most, s.held]) ∧ loadA Try.prog g' 39 lm = some (.agg [.int .i64 s.most, s.held]) ∧ loadA Try.prog g' 37 ⟨lm.id, lm.off + 1⟩ = some s.held ∧
      callA (callT ov1 Try.prog) Try.prog g 15 [.ptr (some ⟨s.S, 0⟩)] = some (.ret (.int .i64 F) g) ∧
      callA (callT ov1 Try.prog) Try.prog g 18 [.agg [.int .i64 s.most, s.held], fv] = some (.ret (.int .i64 F) g') ∧
      callA (callT ov1 Try.prog) Try.prog g' 14 [.ptr (some ⟨s.S, 0⟩)] = some (.ret (.int .i64 (s.mem.length : Nat)) g') ∧
      (∀ h', lenA Try.prog h' 37 s.held = some (.int .i64 (s.mem.length : Nat))) := by
  have hC := h.cs k s hs
  have hlt : ∀ a ∈ s.mem, a < fs.length := fun a ha => by rw [← h.cw.pl.1]; exact hC.lt a ha
  obtain ⟨g', hf, hk⟩ := refFirst_ok h.wf (most := s.most) hC.sl h.af.1.sl hlt hn
  have hI := h.keep0 hk
  have hC' := hI.cs k s hs
  obtain ⟨ls, a1, a2, _⟩ := h.asv.1.sl.at (P := Try.prog) u29 s34 a34 (ptrsS_get hs) (k := .i64)
  obtain ⟨ls', b1, b2, _⟩ := hI.asv.1.sl.at (P := Try.prog) u29 s34 a34 (ptrsS_get hs) (k := .i64)
  rw [a1] at b1
  cases b1
  obtain ⟨lm, c1, c2, _, _⟩ := h.am.1.slr.atf (P := Try.prog) u30 s39 a39 (rowsM_get hs) (k := .i64)
  obtain ⟨lm', d1, d2, _, d4⟩ := hI.am.1.slr.atf (P := Try.prog) u30 s39 a39 (rowsM_get hs) (k := .i64)
  rw [c1] at d1
  cases d1
  refine ⟨g', _, ls, lm, hI, a1, c1, a2, b2, c2, d2, d4 37 1 _ a37 rfl, setFirst_ok hC.pl (h.cw.pick hC.lt) (by rw [pickW_length]; omega), hf, ?_, ?_⟩
  · have := setLen_ok hC'.pl
    rw [pickW_length] at this
    exact this
  · intro h'
    have := hC.sl.slice
    obtain ⟨l, c, e⟩ := this
    rw [e]
    simpa [natI_length] using lenA_slice (P := Try.prog) (h := h') u37

set_option maxHeartbeats 4000000 in
theorem runs_ok {h : Heap} (hw : Wf h) {av : AV} {ops : List (Int × Int × Int)} (hs : Slr h 3 av (rowsO ops)) (hn : ops.length ≤ 10000000) : ∃ h', callT ov1 Try.prog 5 [av] h = some (.ret (.bool true) h') := by
  obtain ⟨g0, hal, hk0⟩ := walive_ok hw
  have main : ∃ r h', callT ov1 Try.prog 5 [av] h = some (.ret r h') ∧ r = .bool true := by
    refine callT_wp (Q := fun r _ => r = .bool true) (fn := Try.f5) (ov1_none rfl (by decide) (by decide) _ _) (by kernel_rfl) rfl ?_
    have hl : (frameA Try.f5 [av]).length = 251 := frameA_length (Nat.le_of_ble_eq_true rfl)
    have h0 : nth (frameA Try.f5 [av]) 0 = av := frameA_nth (Nat.le_of_ble_eq_true rfl)
    generalize frameA Try.f5 [av] = e at hl h0
    have hrl : (rowsO ops).length = ops.length := by simp [rowsO]
    have hlen : ∀ h, lenA Try.prog h 27 av = some (.int .i64 (ops.length : Nat)) := by
      intro h'; have := hs.len h' (P := Try.prog) u27; rw [hrl] at this; exact this
    have hca8 : callA (callT ov1 Try.prog) Try.prog h 8 [] = _ := hal
    have hscl : rowsO ops ≠ [] → ∀ j, idOf av = some j → j < h.next := fun hne j hj => hs.lt hw hne hj
    have hk0l := hk0.le
    have hinv0 : Inv h.next av (rowsO ops) (fun _ => .no) g0 (.slice none 0 (.exact 0)) (ptrs []) (.slice none 0 (.exact 0)) (bools []) (.slice none 0 (.exact 0)) (ptrsS []) (.slice none 0 (.exact 0)) (rowsM []) [] [] [] := {
      wf := hk0.wf
      rng := by simp
      lo := hk0l
      sc := hs.keep' hk0 (by simp)
      scl := hscl
      aw := ⟨.inl ⟨rfl, none, rfl, by simp⟩, by simp [idOf]⟩
      af := ⟨.inl ⟨rfl, none, rfl, by simp⟩, by simp [idOf]⟩
      asv := ⟨.inl ⟨rfl, none, rfl, by simp⟩, by simp [idOf]⟩
      am := ⟨⟨by simp [rowsM], .inl ⟨rfl, none, rfl, by simp⟩⟩, by simp [idOf]⟩
      cw := ⟨⟨rfl, by simp⟩, by simp⟩
      cs := by simp }
    repeat apply WP.seq
    apply WP.region; simp [hl]
    repeat apply WP.seq
    apply WP.region; simp [hl, hca8]
    repeat apply WP.seq
    apply WP.cond (t := false) (by simp [hl]) (by simp)
    intro _
    apply WP.skip; simp
    repeat apply WP.seq
    apply WP.region; simp [hl]
    repeat apply WP.seq
    apply WP.region; simp [hl]
    repeat apply WP.seq
    apply WP.region; simp [hl]
    repeat apply WP.seq
    apply WP.region; simp [hl]
    repeat apply WP.seq
    apply WP.region; simp [hl, h0, hlen]
    repeat apply WP.seq
    refine WP.mono (K := fun out e g => out = .normal ∧ e.length = 251 ∧ LS h.next av (rowsO ops) e g ops.length) ?_ ?_
    · apply WP.block
      refine WP.loop (fun k e g => e.length = 251 ∧ nth e 21 = av ∧ nth e 22 = .int .i64 ops.length ∧ ∃ i, i ≤ ops.length ∧ k = ops.length - i ∧ nth e 23 = .int .i64 (i : Nat) ∧ LS h.next av (rowsO ops) e g i) ?_ ops.length _ _ ?_
      · clear hl h0 hinv0
        rintro k e g ⟨hl, h21, h22, i, hi, rfl, h23, hLS⟩
        repeat apply WP.seq
        apply WP.region; simp [hl, h22, h23]
        repeat apply WP.seq
        apply WP.cond (by simp [hl]; rfl)
        · intro hlt1
          have hlt1 : i < ops.length := by simpa using hlt1
          apply WP.skip; simp
          repeat apply WP.seq
          refine WP.mono (K := fun out e g => out = .normal ∧ e.length = 251 ∧ nth e 21 = av ∧ nth e 22 = .int .i64 ops.length ∧ nth e 23 = .int .i64 (i : Nat) ∧ LS h.next av (rowsO ops) e g (i + 1)) ?_ ?_
          · obtain ⟨tg, wv, fv, sv, mv, ws, fs, ss, h3, h4, h5, h6, hI, hwl, hsl, hml⟩ := hLS
            apply WP.block
            repeat apply WP.seq
            obtain ⟨⟨ok, oa, ob⟩, hoi⟩ : ∃ o, ops[i]? = some o := ⟨_, List.getElem?_eq_getElem hlt1⟩
            obtain ⟨l1, hl1, hl1', _⟩ := hI.sc.at (P := Try.prog) u27 s32 a32 (rowsO_get hoi) (k := .i64)
            have hal2 := alloc32 (h := g)
            have hk2 := (Keep.refl (ex := []) hI.wf).alloc (.cells [.int .i64 0, .int .i64 0, .int .i64 0] .own)
            have hg2 := Heap.get_alloc g (.cells [.int .i64 0, .int .i64 0, .int .i64 0] .own)
            have hBn := hk2.wf _ _ hg2
            obtain ⟨B, hB⟩ : ∃ B, B = g.next := ⟨_, rfl⟩
            rw [← hB] at hal2 hg2 hBn
            have hB0 : tg B = .no := hI.fresh (by omega)
            have hst2 : storeA Try.prog (g.alloc (.cells [.int .i64 0, .int .i64 0, .int .i64 0] .own)) 32 ⟨B, 0⟩ (.agg [.int .i64 ok, .int .i64 oa, .int .i64 ob]) = some _ := store_whole s32 hg2 rfl rfl rfl
            have hk2 := hk2.set (i := B) (.cells [.int .i64 ok, .int .i64 oa, .int .i64 ob] .own) hBn (.inr (by omega))
            have hg2' := Heap.get_set (g.alloc (.cells [.int .i64 0, .int .i64 0, .int .i64 0] .own)) B (.cells [.int .i64 ok, .int .i64 oa, .int .i64 ob] .own)
            generalize g.alloc (.cells [.int .i64 0, .int .i64 0, .int .i64 0] .own) = g1 at hal2 hg2 hBn hst2 hk2 hg2'
            generalize g1.set B (.cells [.int .i64 ok, .int .i64 oa, .int .i64 ob] .own) = g2 at hst2 hk2 hg2'
            have hI2 := hI.keep0 hk2
            have hlK : loadA Try.prog g2 3 ⟨B, 0⟩ = some (.int .i64 ok) := load_cell a3 hg2' rfl
            have hlA : loadA Try.prog g2 3 ⟨B, 1⟩ = some (.int .i64 oa) := load_cell a3 hg2' rfl
            have hlB : loadA Try.prog g2 3 ⟨B, 2⟩ = some (.int .i64 ob) := load_cell a3 hg2' rfl
            obtain ⟨nw, hnw⟩ : ∃ n, n = ws.length := ⟨_, rfl⟩
            obtain ⟨ns, hns⟩ : ∃ n, n = ss.length := ⟨_, rfl⟩
            have hlw : lenA Try.prog g2 28 wv = some (.int .i64 (nw : Nat)) := by rw [hnw]; simpa using hI2.aw.1.sl.len (P := Try.prog) u28
            have hls : lenA Try.prog g2 29 sv = some (.int .i64 (ns : Nat)) := by rw [hns]; simpa [ptrsS] using hI2.asv.1.sl.len (P := Try.prog) u29
            apply WP.region; simp [hl, h21, h23, hl1, hl1', hal2, storeR_ptr hst2]
            repeat apply WP.seq
            apply WP.region; simp [hl]
            repeat apply WP.seq
            refine WP.mono (K := fun out e g' => out = .normal ∧ g2 = g' ∧ FR e av ops.length i wv fv sv mv B ∧ nth e 9 = .int .i64 (-1) ∧ nth e 10 = .int .i64 (-1) ∧ ∃ c, nth e 34 = .bool c ∧ (c = true → 0 < nw ∧ 0 ≤ oa)) ?_ ?_
            · apply WP.region
              by_cases hp : 0 < nw
              · by_cases hq : 0 ≤ oa
                · simp [FR, hl, h3, h4, h5, h6, h21, h22, h23, hlw, guardA, hp, hq, fa32, hlA]
                · simp [FR, hl, h3, h4, h5, h6, h21, h22, h23, hlw, guardA, hp, hq, fa32, hlA]
              · simp [FR, hl, h3, h4, h5, h6, h21, h22, h23, hlw, guardA, hp]
            clear hl h3 h4 h5 h6 h21 h22 h23
            rintro _ e _ ⟨rfl, rfl, ⟨hl, h21, h22, h23, h3, h4, h5, h6, h8⟩, h9, h10, c, h34, hc⟩
            simp
            repeat apply WP.seq
            refine WP.mono (K := fun out e g' => out = .normal ∧ g2 = g' ∧ FR e av ops.length i wv fv sv mv B ∧ nth e 10 = .int .i64 (-1) ∧ ∃ a, nth e 9 = .int .i64 a ∧ At a nw) ?_ ?_
            · apply WP.cond (by simp [h34]; rfl)
              · intro hct
                obtain ⟨hp, hq⟩ := hc hct
                have hne0 : ((nw : Nat) : Int) ≠ 0 := by omega
                have hr1 := Int.tmod_lt_of_pos oa (show (0 : Int) < nw by omega)
                have hr2 := Int.tmod_nonneg (nw : Int) hq
                apply WP.region; simp [FR, hl, h3, h4, h5, h6, h8, h10, h21, h22, h23, hlw, fa32, hlA, bin_rem hne0]
                exact .inr ⟨(oa.tmod nw).toNat, by omega, by omega⟩
              · intro _
                apply WP.skip; simp [FR, hl, h3, h4, h5, h6, h8, h9, h10, h21, h22, h23]
                exact .inl rfl
            clear hl h3 h4 h5 h6 h8 h9 h10 h21 h22 h23 h34 hc
            rintro _ e _ ⟨rfl, rfl, ⟨hl, h21, h22, h23, h3, h4, h5, h6, h8⟩, h10, a, h9, ha⟩
            simp
            repeat apply WP.seq
            apply WP.region; simp [hl, h5, hls]
            repeat apply WP.seq
            refine WP.mono (K := fun out e g' => out = .normal ∧ g2 = g' ∧ FR e av ops.length i wv fv sv mv B ∧ nth e 9 = .int .i64 a ∧ ∃ b, nth e 10 = .int .i64 b ∧ At b ns) ?_ ?_
            · apply WP.cond (by simp [hl]; rfl)
              · intro hp
                have hp : 0 < ns := by simpa using hp
                have hca12 : callA (callT ov1 Try.prog) Try.prog g2 12 [.int .i64 ob, .int .i64 ns] = _ := place_ok ob hp (by omega)
                have hr := pickAt_range ob hp
                apply WP.region; simp [FR, hl, h3, h4, h5, h6, h8, h9, h21, h22, h23, hls, fa32, hlB, hca12]
                exact .inr ⟨(pickAt ob ns).toNat, by omega, by omega⟩
              · intro _
                apply WP.skip; simp [FR, hl, h3, h4, h5, h6, h8, h9, h10, h21, h22, h23]
                exact .inl rfl
            clear hl h3 h4 h5 h6 h8 h9 h10 h21 h22 h23
            rintro _ e _ ⟨rfl, rfl, ⟨hl, h21, h22, h23, h3, h4, h5, h6, h8⟩, h9, b, h10, hb⟩
            simp
            apply WP.block
            repeat apply WP.seq
            apply WP.region; simp [hl, h8, fa32, hlK]
            have hsame : ∀ e', nth e' 3 = wv → nth e' 4 = fv → nth e' 5 = sv → nth e' 6 = mv → LS h.next av (rowsO ops) e' g2 (i + 1) := fun e' h3 h4 h5 h6 => LS.of hI2 h3 h4 h5 h6 (by omega) (by omega) (fun s hs => by have := hml s hs; omega)
            apply WP.cond (by simp [hl]; rfl)
            · intro _
              obtain ⟨W, c, g3, hnew, hW, hk3, hc3, hcW, hWn⟩ := wnew_ok hI2.wf
              have hca9 : callA (callT ov1 Try.prog) Try.prog g2 9 [] = _ := hnew
              obtain ⟨tg3, hI3⟩ := hI2.newW hk3 hW hc3 hcW hWn
              repeat apply WP.seq
              apply WP.region; simp [hl, hca9]
              repeat apply WP.seq
              apply WP.region; simp [hl, bin_ptnil u24]
              repeat apply WP.seq
              apply WP.cond (t := false) (by simp [hl]) (by simp)
              intro _
              apply WP.skip; simp
              repeat apply WP.seq
              have hbs4 := build28_1 (h := g3) (l := some ⟨W, 0⟩)
              have hk4 := (Keep.refl (ex := []) hI3.wf).alloc (.cells [.ptr (some ⟨W, 0⟩)] .own)
              have hg4 := Heap.get_alloc g3 (.cells [.ptr (some ⟨W, 0⟩)] .own)
              generalize g3.alloc (.cells [.ptr (some ⟨W, 0⟩)] .own) = g4 at hbs4 hk4 hg4
              have hI4 := hI3.keep0 hk4
              obtain ⟨wv5, g5, hap5, hacc5, hk5, hid5⟩ := hI4.aw.1.pushX (P := Try.prog) (ex := (idOf wv).toList) hI4.wf (by simp) (Nat.zero_le _) u28 s24 (room24 (by simp; omega)) (x := .ptr (some ⟨W, 0⟩)) (y := .slice (some ⟨g3.next, 0⟩) 1 (.exact 1)) ⟨⟨rfl, by simp [capOk]⟩, .inr ⟨_, .own, hg4, by simp, rfl⟩⟩ rfl
              obtain ⟨tg5, hI5⟩ := hI4.pushW hk5 hacc5 hid5
              have hpt : ptrs ws ++ [.ptr (some ⟨W, 0⟩)] = ptrs (ws ++ [(W, c)]) := ptrs_snoc (w := (W, c))
              rw [hpt] at hI5
              apply WP.region; simp [hl, h3, hbs4, hap5]
              repeat apply WP.seq
              have hbs6 := build23_1 (h := g5) (b := false)
              have hk6 := (Keep.refl (ex := []) hI5.wf).alloc (.cells [.bool false] .own)
              have hg6 := Heap.get_alloc g5 (.cells [.bool false] .own)
              generalize g5.alloc (.cells [.bool false] .own) = g6 at hbs6 hk6 hg6
              have hI6 := hI5.keep0 hk6
              have hfl := hI2.cw.pl.1
              obtain ⟨fv7, g7, hap7, hacc7, hk7, hid7⟩ := hI6.af.1.pushX (P := Try.prog) (ex := (idOf fv).toList) hI6.wf (by simp) (Nat.zero_le _) u23 s4 (room4 (by simp [bools]; omega)) (x := .bool false) (y := .slice (some ⟨g5.next, 0⟩) 1 (.exact 1)) ⟨⟨rfl, by simp [capOk]⟩, .inr ⟨_, .own, hg6, by simp, rfl⟩⟩ rfl
              obtain ⟨tg7, hI7⟩ := hI6.pushF hk7 hacc7 hid7
              rw [bools_snoc] at hI7
              apply WP.region; simp [hl, h4, h21, h22, h23, hbs6, hap7]
              exact LS.of hI7 (by simp [hl]) (by simp [hl]) (by simp [hl, h5]) (by simp [hl, h6]) (by simp; omega) (by omega) (fun s hs => by have := hml s hs; omega)
            intro _
            repeat apply WP.seq
            refine WP.mono (K := fun out e g' => out = .normal ∧ g2 = g' ∧ FR e av ops.length i wv fv sv mv B ∧ nth e 9 = .int .i64 a ∧ nth e 10 = .int .i64 b ∧ ∃ c, nth e 62 = .bool c ∧ (c = true → 0 ≤ a)) ?_ ?_
            · apply WP.region
              by_cases hq : ok = 1
              · by_cases hp : 0 ≤ a
                · simp [FR, hl, h3, h4, h5, h6, h8, h9, h10, h21, h22, h23, guardA, hp, hq, fa32, hlK]
                · simp [FR, hl, h3, h4, h5, h6, h8, h9, h10, h21, h22, h23, guardA, hp, hq, fa32, hlK]
              · have hq : (ok == 1) = false := by simp [hq]
                simp [FR, hl, h3, h4, h5, h6, h8, h9, h10, h21, h22, h23, guardA, hq, fa32, hlK]
            clear hl h3 h4 h5 h6 h8 h9 h10 h21 h22 h23
            rintro _ e _ ⟨rfl, rfl, ⟨hl, h21, h22, h23, h3, h4, h5, h6, h8⟩, h9, h10, c1, h62, hc1⟩
            simp
            apply WP.cond (by simp [h62]; rfl)
            · intro hct
              have ha0 := hc1 hct
              rcases ha with rfl | ⟨m, rfl, hm⟩
              · omega
              obtain ⟨w, hwm⟩ : ∃ w, ws[m]? = some w := ⟨_, List.getElem?_eq_getElem (by omega)⟩
              obtain ⟨fb, hfm⟩ : ∃ b, fs[m]? = some b := ⟨_, List.getElem?_eq_getElem (by have := hI2.cw.pl.1; omega)⟩
              obtain ⟨g3, hfire, hWa, hk3⟩ := fire_ok hI2.wf (hI2.cw.pl.2 m w fb hwm hfm)
              have hca10 : callA (callT ov1 Try.prog) Try.prog g2 10 [.ptr (some ⟨w.1, 0⟩)] = _ := hfire
              have hI3 := hI2.fire hwm hk3 hWa
              obtain ⟨l1, hl1, hl1', _⟩ := hI2.aw.1.sl.at (P := Try.prog) u28 s24 a24 (ptrs_get hwm) (k := .i64)
              obtain ⟨l1', hl2, hl2', _⟩ := hI3.aw.1.sl.at (P := Try.prog) u28 s24 a24 (ptrs_get hwm) (k := .i64)
              rw [hl1] at hl2
              cases hl2
              obtain ⟨l3, hl3, hl3', _⟩ := hI2.af.1.sl.at (P := Try.prog) u23 s4 a4 (bools_get hfm) (k := .i64)
              obtain ⟨l3', hl4, hl4', _⟩ := hI3.af.1.sl.at (P := Try.prog) u23 s4 a4 (bools_get hfm) (k := .i64)
              rw [hl3] at hl4
              cases hl4
              obtain ⟨j, hix, hij, hst, hacc4⟩ := hI3.af.1.store (P := Try.prog) u23 s4 (k := m) (x := .bool true) (kd := .i64) (by have := hI2.cw.pl.1; simp [bools]; omega) rfl rfl
              have hjn := hI3.af.1.lt hI3.wf hij
              have hk4 := (Keep.refl (ex := [j]) hI3.wf).set (i := j) (.cells ((bools fs).set m (.bool true)) .own) hjn (.inl (by simp))
              generalize g3.set j (.cells ((bools fs).set m (.bool true)) .own) = g4 at hst hacc4 hk4
              have hI4 := hI3.storeF hij hk4 hacc4
              rw [bools_set] at hI4
              have hnb : ((!fb) == fb) = false := by cases fb <;> rfl
              repeat apply WP.seq
              refine WP.drawDyn (by kernel_rfl) (dynOk_tw (pl := [(3, 4), (8, 4), (8, 10)]) (by kernel_rfl) ?_) ?_
              · simp [hl, h3, h4, h9, hl1, hl1', hl2', hl3, hl3', hl4', hca10, loadSame, bin_beq u4]
              · simp [hl, h3, h4, h9, hl1, hl1', hl2', hl3, hl3', hl4', hca10, bin_beq u4, hnb]
                repeat apply WP.seq
                apply WP.cond (t := false) (by simp [hl]) (by simp)
                intro _
                apply WP.skip; simp
                apply WP.region; simp [hl, h4, h9, h21, h22, h23, hix, storeR_ptr hst]
                exact LS.of hI4 (by simp [hl, h3]) (by simp [hl, h4]) (by simp [hl, h5]) (by simp [hl, h6]) (by omega) (by omega) (fun s hs => by have := hml s hs; omega)
            intro _
            repeat apply WP.seq
            refine WP.mono (K := fun out e g' => out = .normal ∧ g2 = g' ∧ FR e av ops.length i wv fv sv mv B ∧ nth e 9 = .int .i64 a ∧ nth e 10 = .int .i64 b ∧ ∃ c, nth e 83 = .bool c ∧ (c = true → 0 ≤ a)) ?_ ?_
            · apply WP.region
              by_cases hq : ok = 2
              · by_cases hp : 0 ≤ a
                · simp [FR, hl, h3, h4, h5, h6, h8, h9, h10, h21, h22, h23, guardA, hp, hq, fa32, hlK]
                · simp [FR, hl, h3, h4, h5, h6, h8, h9, h10, h21, h22, h23, guardA, hp, hq, fa32, hlK]
              · have hq : (ok == 2) = false := by simp [hq]
                simp [FR, hl, h3, h4, h5, h6, h8, h9, h10, h21, h22, h23, guardA, hq, fa32, hlK]
            clear hl h3 h4 h5 h6 h8 h9 h10 h21 h22 h23
            rintro _ e _ ⟨rfl, rfl, ⟨hl, h21, h22, h23, h3, h4, h5, h6, h8⟩, h9, h10, c2, h83, hc2⟩
            simp
            apply WP.cond (by simp [h83]; rfl)
            · intro hct
              have ha0 := hc2 hct
              rcases ha with rfl | ⟨m, rfl, hm⟩
              · omega
              obtain ⟨w, hwm⟩ : ∃ w, ws[m]? = some w := ⟨_, List.getElem?_eq_getElem (by omega)⟩
              obtain ⟨fb, hfm⟩ : ∃ b, fs[m]? = some b := ⟨_, List.getElem?_eq_getElem (by have := hI2.cw.pl.1; omega)⟩
              have hca11 : callA (callT ov1 Try.prog) Try.prog g2 11 [.ptr (some ⟨w.1, 0⟩)] = _ := fired_ok (hI2.cw.pl.2 m w fb hwm hfm)
              obtain ⟨l1, hl1, hl1', _⟩ := hI2.aw.1.sl.at (P := Try.prog) u28 s24 a24 (ptrs_get hwm) (k := .i64)
              obtain ⟨l3, hl3, hl3', _⟩ := hI2.af.1.sl.at (P := Try.prog) u23 s4 a4 (bools_get hfm) (k := .i64)
              have hnb : (fb != fb) = false := by cases fb <;> rfl
              repeat apply WP.seq
              refine WP.drawDyn (by kernel_rfl) (dynOk_tw (pl := [(3, 4), (8, 4), (8, 10)]) (by kernel_rfl) ?_) ?_
              · simp [hl, h3, h4, h9, hl1, hl1', hl3, hl3', hca11, loadSame, bin_bne u4]
              · simp [hl, h3, h4, h9, hl1, hl1', hl3, hl3', hca11, bin_bne u4, hnb]
                repeat apply WP.seq
                apply WP.cond (t := false) (by simp [hl]) (by simp)
                intro _
                apply WP.skip; simp [hl, h21, h22, h23]
                exact hsame _ (by simp [hl, h3]) (by simp [hl, h4]) (by simp [hl, h5]) (by simp [hl, h6])
            intro _
            repeat apply WP.seq
            apply WP.region; simp [hl, h8, fa32, hlK]
            apply WP.cond (by simp [hl]; rfl)
            · intro _
              obtain ⟨S, g3, hset, hS3, hk3, hSlo, hSn⟩ := newSet_ok hI2.wf ob
              have hca13 : callA (callT ov1 Try.prog) Try.prog g2 13 [.int .i64 ob] = _ := hset
              obtain ⟨tg3, hI3⟩ := hI2.newS hk3 hS3 hSlo hSn
              have hca14 : callA (callT ov1 Try.prog) Try.prog g3 14 [.ptr (some ⟨S, 0⟩)] = some (.ret (.int .i64 0) g3) := setLen_ok hS3
              have hca15 : callA (callT ov1 Try.prog) Try.prog g3 15 [.ptr (some ⟨S, 0⟩)] = some (.ret (.int .i64 (-1)) g3) := setFirst_ok hS3 (fs := []) ⟨rfl, by simp⟩ (by simp)
              repeat apply WP.seq
              apply WP.region; simp [hl, h8, fa32, hlB, hca13]
              repeat apply WP.seq
              apply WP.region; simp [hl, bin_ptnil u34, guardA, hca14, hca15]
              repeat apply WP.seq
              apply WP.cond (t := false) (by simp [hl]) (by simp)
              intro _
              apply WP.skip; simp
              repeat apply WP.seq
              have hbs4 := build29_1 (h := g3) (l := some ⟨S, 0⟩)
              have hk4 := (Keep.refl (ex := []) hI3.wf).alloc (.cells [.ptr (some ⟨S, 0⟩)] .own)
              have hg4 := Heap.get_alloc g3 (.cells [.ptr (some ⟨S, 0⟩)] .own)
              generalize g3.alloc (.cells [.ptr (some ⟨S, 0⟩)] .own) = g4 at hbs4 hk4 hg4
              have hI4 := hI3.keep0 hk4
              obtain ⟨sv5, g5, hap5, hacc5, hk5, hid5⟩ := hI4.asv.1.pushX (P := Try.prog) (ex := (idOf sv).toList) hI4.wf (by simp) (Nat.zero_le _) u29 s34 (room34 (by simp [ptrsS]; omega)) (x := .ptr (some ⟨S, 0⟩)) (y := .slice (some ⟨g3.next, 0⟩) 1 (.exact 1)) ⟨⟨rfl, by simp [capOk]⟩, .inr ⟨_, .own, hg4, by simp, rfl⟩⟩ rfl
              obtain ⟨tg5, hI5⟩ := hI4.pushS hk5 hacc5 hid5
              have hgB5 : g5.get B = some (.cells [.int .i64 ok, .int .i64 oa, .int .i64 ob] .own) := hk5.get _ _ (hk4.get _ _ (hk3.get _ _ hg2' (by simp)) (by simp)) (fun hm => by
                have := hI2.asv.2 B (by simpa using hm)
                rw [hB0] at this; cases this)
              have hlB5 : loadA Try.prog g5 3 ⟨B, 2⟩ = some (.int .i64 ob) := load_cell a3 hgB5 rfl
              apply WP.region; simp [hl, h5, hbs4, hap5]
              repeat apply WP.seq
              apply WP.region; simp [hl, h8, fa32, hlB5]
              repeat apply WP.seq
              apply WP.region; simp [hl]
              repeat apply WP.seq
              refine WP.mono (K := fun out e g' => out = .normal ∧ g5 = g' ∧ FR e av ops.length i wv fv sv5 mv B ∧ nth e 13 = .int .i64 (max ob 0)) ?_ ?_
              · apply WP.cond (by simp [hl]; rfl)
                · intro hlt
                  have hlt : ob < 0 := by simpa using hlt
                  have hmx : max ob 0 = 0 := by omega
                  apply WP.region; simp [FR, hl, h3, h4, h5, h6, h8, h21, h22, h23, hmx]
                · intro hlt
                  have hlt : ¬ ob < 0 := by simpa using hlt
                  have hmx : max ob 0 = ob := by omega
                  apply WP.skip; simp [FR, hl, h3, h4, h5, h6, h8, h21, h22, h23, hmx]
              clear hl h3 h4 h5 h6 h8 h9 h10 h21 h22 h23 h83
              rintro _ e _ ⟨rfl, rfl, ⟨hl, h21, h22, h23, h3, h4, h5, h6, h8⟩, h13⟩
              simp
              have hbs6 := build30_1 (h := g5) (k := .i64) (b := max ob 0)
              have hk6 := (Keep.refl (ex := []) hI5.wf).alloc (.cells [.int .i64 (max ob 0), .slice none 0 (.exact 0)] .own)
              have hg6 := Heap.get_alloc g5 (.cells [.int .i64 (max ob 0), .slice none 0 (.exact 0)] .own)
              generalize g5.alloc (.cells [.int .i64 (max ob 0), .slice none 0 (.exact 0)] .own) = g6 at hbs6 hk6 hg6
              have hI6 := hI5.keep0 hk6
              obtain ⟨mv7, g7, hap7, hacc7, hk7, hid7⟩ := hI6.am.1.pushX (P := Try.prog) (ex := (idOf mv).toList) hI6.wf (by simp) (Nat.zero_le _) u30 s39 (by omega) (r := [.int .i64 (max ob 0), .slice none 0 (.exact 0)]) (y := .slice (some ⟨g5.next, 0⟩) 1 (.exact 1)) ⟨by simp, rfl, .inr ⟨_, .own, hg6, by simp, by simp⟩⟩ rfl (room39 (by simp [rowsM]; omega))
              obtain ⟨tg7, hI7⟩ := hI6.pushM hk7 hacc7 hid7
              have e1 : ptrsS ss ++ [.ptr (some ⟨S, 0⟩)] = ptrsS (ss ++ [⟨S, .slice none 0 (.exact 0), .slice none 0 (.exact 0), max ob 0, []⟩]) := ptrsS_snoc (s := ⟨S, .slice none 0 (.exact 0), .slice none 0 (.exact 0), max ob 0, []⟩)
              have e2 : rowsM ss ++ [[.int .i64 (max ob 0), .slice none 0 (.exact 0)]] = rowsM (ss ++ [⟨S, .slice none 0 (.exact 0), .slice none 0 (.exact 0), max ob 0, []⟩]) := rowsM_snoc (s := ⟨S, .slice none 0 (.exact 0), .slice none 0 (.exact 0), max ob 0, []⟩)
              rw [e1, e2] at hI7
              apply WP.region; simp [hl, h6, h13, h21, h22, h23, build39_0, hbs6, hap7]
              exact LS.of hI7 (by simp [hl, h3]) (by simp [hl, h4]) (by simp [hl, h5]) (by simp [hl]) (by omega) (by simp; omega) (fun s hs => by
                rcases List.mem_append.1 hs with hs | hs
                · have := hml s hs; omega
                · simp only [List.mem_singleton] at hs; subst hs; simp)
            intro _
            repeat apply WP.seq
            refine WP.mono (K := fun out e g' => out = .normal ∧ g2 = g' ∧ FR e av ops.length i wv fv sv mv B ∧ nth e 9 = .int .i64 a ∧ nth e 10 = .int .i64 b ∧ ∃ c, nth e 133 = .bool c ∧ (c = true → 0 ≤ b)) ?_ ?_
            · apply WP.region
              by_cases hq : ok = 4
              · by_cases hp : 0 ≤ b
                · simp [FR, hl, h3, h4, h5, h6, h8, h9, h10, h21, h22, h23, guardA, hp, hq, fa32, hlK]
                · simp [FR, hl, h3, h4, h5, h6, h8, h9, h10, h21, h22, h23, guardA, hp, hq, fa32, hlK]
              · have hq : (ok == 4) = false := by simp [hq]
                simp [FR, hl, h3, h4, h5, h6, h8, h9, h10, h21, h22, h23, guardA, hq, fa32, hlK]
            clear hl h3 h4 h5 h6 h8 h9 h10 h21 h22 h23 h83
            rintro _ e _ ⟨rfl, rfl, ⟨hl, h21, h22, h23, h3, h4, h5, h6, h8⟩, h9, h10, c4, h133, hc4⟩
            simp
            apply WP.cond (by simp [h133]; rfl)
            · intro hct
              have hb0 := hc4 hct
              rcases hb with rfl | ⟨k, rfl, hk⟩
              · omega
              obtain ⟨s, hsk⟩ : ∃ s, ss[k]? = some s := ⟨_, List.getElem?_eq_getElem (by omega)⟩
              have hC := hI2.cs k s hsk
              have hsm := hml s (List.mem_of_getElem? hsk)
              repeat apply WP.seq
              apply WP.region; simp [hl]
              repeat apply WP.seq
              apply WP.region; simp [hl, h9]
              repeat apply WP.seq
              refine WP.mono (K := fun out e g' => out = .normal ∧ g2 = g' ∧ FR e av ops.length i wv fv sv mv B ∧ nth e 9 = .int .i64 a ∧ nth e 10 = .int .i64 (k : Nat) ∧ ∃ p, nth e 14 = .ptr p ∧ ((a = -1 ∧ p = none) ∨ ∃ (m : Nat) (w : Nat × Nat), a = (m : Int) ∧ ws[m]? = some w ∧ p = some ⟨w.1, 0⟩)) ?_ ?_
              · apply WP.cond (by simp [hl]; rfl)
                · intro hc
                  have hc : 0 ≤ a := by simpa using hc
                  rcases ha with rfl | ⟨m, rfl, hm⟩
                  · omega
                  obtain ⟨w, hwm⟩ : ∃ w, ws[m]? = some w := ⟨_, List.getElem?_eq_getElem (by omega)⟩
                  obtain ⟨l1, hl1, hl1', _⟩ := hI2.aw.1.sl.at (P := Try.prog) u28 s24 a24 (ptrs_get hwm) (k := .i64)
                  apply WP.region; simp [FR, hl, h3, h4, h5, h6, h8, h9, h10, h21, h22, h23, hl1, hl1']
                  exact ⟨m, rfl, w.2, hwm⟩
                · intro hc
                  have hc : ¬ 0 ≤ a := by simpa using hc
                  rcases ha with rfl | ⟨m, rfl, hm⟩
                  · apply WP.skip; simp [FR, hl, h3, h4, h5, h6, h8, h9, h10, h21, h22, h23]
                  · omega
              clear hl h3 h4 h5 h6 h8 h9 h10 h21 h22 h23 h133 hct
              rintro _ e _ ⟨rfl, rfl, ⟨hl, h21, h22, h23, h3, h4, h5, h6, h8⟩, h9, h10, p, h14, hp⟩
              simp
              repeat apply WP.seq
              obtain ⟨lm, hlm1, hlm2, _, _⟩ := hI2.am.1.slr.atf (P := Try.prog) u30 s39 a39 (rowsM_get hsk) (k := .i64)
              obtain ⟨held', g3, hadd, hsl3, hk3, hhd⟩ := refAdd_ok hI2.wf hC.sl (most := s.most) (by simp [natI]; omega) a
              have hca16 : callA (callT ov1 Try.prog) Try.prog g2 16 [.agg [.int .i64 s.most, s.held], .int .i64 a] = _ := hadd
              have hal4 := alloc39 (h := g3)
              have hk4 := (Keep.refl (ex := []) hk3.wf).alloc (.cells [.int .i64 0, .slice none 0 (.exact 0)] .own)
              have hg4 := Heap.get_alloc g3 (.cells [.int .i64 0, .slice none 0 (.exact 0)] .own)
              have hDn := hk4.wf _ _ hg4
              obtain ⟨D, hD⟩ : ∃ D, D = g3.next := ⟨_, rfl⟩
              rw [← hD] at hal4 hg4 hDn
              have hok' := sl_cellOk hsl3
              have hst4 : storeA Try.prog (g3.alloc (.cells [.int .i64 0, .slice none 0 (.exact 0)] .own)) 39 ⟨D, 0⟩ (.agg [.int .i64 s.most, held']) = some _ := store_whole s39 hg4 rfl rfl (by simp only [cellsOk, hok']; rfl)
              have hk4 := hk4.set (i := D) (.cells [.int .i64 s.most, held'] .own) hDn (.inr (by omega))
              have hg4' := Heap.get_set (g3.alloc (.cells [.int .i64 0, .slice none 0 (.exact 0)] .own)) D (.cells [.int .i64 s.most, held'] .own)
              generalize g3.alloc (.cells [.int .i64 0, .slice none 0 (.exact 0)] .own) = g3a at hal4 hg4 hDn hst4 hk4 hg4'
              generalize g3a.set D (.cells [.int .i64 s.most, held'] .own) = g4 at hst4 hk4 hg4'
              have hk24 := hk3.trans hk4
              have hI4 := hI2.keep0 hk24
              have hC4 := hI4.cs k s hsk
              have hk3l := hk3.le
              obtain ⟨ls, hls1, hls2, _⟩ := hI4.asv.1.sl.at (P := Try.prog) u29 s34 a34 (ptrsS_get hsk) (k := .i64)
              obtain ⟨g5, hv', mem', r, hcall, hS5, hk5, hvd, hrp, hml', hmlt'⟩ : ∃ (g5 : Heap) (hv' : AV) (mem' : List Nat) (r : Bool), callT ov1 Try.prog 17 [.ptr (some ⟨s.S, 0⟩), .ptr p] g4 = some (.ret (.bool r) g5) ∧ SetAt g5 s.S s.most hv' (pickW ws mem') ∧ Keep (s.S :: (idOf s.hv).toList) g4 g5 ∧ (hv' = s.hv ∨ ∀ j, idOf hv' = some j → g4.next ≤ j) ∧ refAddP (natI s.mem) s.most a = (r, natI mem') ∧ mem'.length ≤ s.mem.length + 1 ∧ ∀ x ∈ mem', x < ws.length := by
                rcases hp with ⟨rfl, rfl⟩ | ⟨m, w, rfl, hwm, rfl⟩
                · exact ⟨g4, s.hv, s.mem, false, setAdd_nil, hC4.pl, Keep.refl hk24.wf, .inl rfl, refAdd_neg _ _, by omega, hC4.lt⟩
                · have hm := (List.getElem?_eq_some_iff.1 hwm).1
                  obtain ⟨g5, hv', h1, h2, h3, h4⟩ := setAdd_ok hk24.wf hC4.pl (fun j hj he => by
                    have h1 := hC4.tv j hj
                    rw [he, hC4.tS] at h1; cases h1) (hI4.cw.pick hC4.lt) (w := w) (hI4.cw.pl.live (List.mem_of_getElem? hwm)) (by rw [pickW_length]; omega)
                  rw [add_mem hI4.cw hC4.lt s.most hwm] at h1 h2
                  exact ⟨g5, hv', (memAdd s.mem s.most m).2, (memAdd s.mem s.most m).1, h1, h2, h3, h4, refAdd_mem _ _ _, memAdd_len _ _ _, memAdd_lt hC4.lt hm⟩
              rw [hrp] at hca16 hsl3
              have hca17 : callA (callT ov1 Try.prog) Try.prog g4 17 [.ptr (some ⟨s.S, 0⟩), .ptr p] = _ := hcall
              apply WP.region; simp [hl, h6, h9, h10, hlm1, hlm2, hca16, extractA, hal4, storeR_ptr hst4]
              repeat apply WP.seq
              have hrr : (r != r) = false := by cases r <;> rfl
              apply WP.region; simp [hl, h5, h10, h14, hls1, hls2, hca17, bin_bne u4, hrr]
              repeat apply WP.seq
              apply WP.cond (t := false) (by simp [hl]) (by simp)
              intro _
              apply WP.skip; simp
              obtain ⟨tg5, hI5⟩ := hI2.addS hsk hk24 hk5 hS5 hvd (hsl3.keep hk4 (by simp)) hhd hmlt'
              have hgD5 : g5.get D = some (.cells [.int .i64 s.most, held'] .own) := hk5.get _ _ hg4' (fun hm => by
                have h1 : tg D = .no := hI2.fresh (by omega)
                rcases List.mem_cons.1 hm with h2 | h2
                · rw [h2, hC.tS] at h1; cases h1
                · have h3 := hC.tv D (by simpa using h2)
                  rw [h1] at h3; cases h3)
              have hlD5 := load_whole (P := Try.prog) a39 s39 hgD5 rfl
              obtain ⟨j, o, hix, hij, hst6, hacc6⟩ := hI5.am.1.store (P := Try.prog) u30 s39 (k := k) (r := [.int .i64 s.most, held']) (kd := .i64) rfl (by simp only [cellsOk, hok']; rfl) (by simp [rowsM]; omega)
              have hjn := hI5.am.1.lt hI5.wf hij
              have hk6 := (Keep.refl (ex := [j]) hI5.wf).set (i := j) (.cells ((rowsM ss).set k [.int .i64 s.most, held']).flatten .own) hjn (.inl (by simp))
              generalize g5.set j (.cells ((rowsM ss).set k [.int .i64 s.most, held']).flatten .own) = g6 at hst6 hacc6 hk6
              have hI6 := hI5.storeM hij hk6 hacc6
              have e1 : ptrsS ss = ptrsS (ss.set k { s with hv := hv', held := held', mem := mem' }) := by
                apply List.ext_getElem?
                intro x
                simp only [ptrsS, List.getElem?_map, List.getElem?_set]
                split
                · rename_i hkx
                  subst hkx
                  rw [hsk]
                  split <;> simp_all
                · rfl
              have e2 : (rowsM ss).set k [.int .i64 s.most, held'] = rowsM (ss.set k { s with hv := hv', held := held', mem := mem' }) := by simp [rowsM, List.map_set]
              rw [e2] at hI6
              have hI6' := e1 ▸ hI6
              apply WP.region; simp [hl, h6, h10, h21, h22, h23, hlD5, hix, storeR_ptr hst6]
              refine LS.of hI6' (by simp [hl, h3]) (by simp [hl, h4]) (by simp [hl, h5]) (by simp [hl, h6]) (by omega) (by simp; omega) (fun x hx => ?_)
              rcases List.mem_or_eq_of_mem_set hx with hx | hx
              · have := hml x hx; omega
              · subst hx; simp only []; omega
            intro _
            repeat apply WP.seq
            refine WP.mono (K := fun out e g' => out = .normal ∧ g2 = g' ∧ FR e av ops.length i wv fv sv mv B ∧ nth e 10 = .int .i64 b ∧ ∃ c, nth e 168 = .bool c ∧ (c = true → 0 ≤ b)) ?_ ?_
            · apply WP.region
              by_cases hq : ok = 5
              · by_cases hp : 0 ≤ b
                · simp [FR, hl, h3, h4, h5, h6, h8, h9, h10, h21, h22, h23, guardA, hp, hq, fa32, hlK]
                · simp [FR, hl, h3, h4, h5, h6, h8, h9, h10, h21, h22, h23, guardA, hp, hq, fa32, hlK]
              · have hq : (ok == 5) = false := by simp [hq]
                simp [FR, hl, h3, h4, h5, h6, h8, h9, h10, h21, h22, h23, guardA, hq, fa32, hlK]
            clear hl h3 h4 h5 h6 h8 h9 h10 h21 h22 h23 h133
            rintro _ e _ ⟨rfl, rfl, ⟨hl, h21, h22, h23, h3, h4, h5, h6, h8⟩, h10, c5, h168, hc5⟩
            simp
            apply WP.cond (by simp [h168]; rfl)
            · intro hct
              have hb0 := hc5 hct
              rcases hb with rfl | ⟨k, rfl, hk⟩
              · omega
              obtain ⟨s, hsk⟩ : ∃ s, ss[k]? = some s := ⟨_, List.getElem?_eq_getElem (by omega)⟩
              obtain ⟨g3, F, ls, lm, hI3, q1, q2, q3, q4, q5, q6, q7, q8, q9, q10, q11⟩ := hI2.look hsk (by have := hml s (List.mem_of_getElem? hsk); omega)
              repeat apply WP.seq
              refine WP.drawDyn (by kernel_rfl) (dynOk_tw (pl := [(3, 4), (8, 4), (8, 10), (16, 17), (22, 17), (22, 26)]) (by kernel_rfl) ?_) ?_
              · simp [hl, h4, h5, h6, h10, q1, q2, q3, q4, q5, q6, q7, q8, q9, q10, q11, fa39, guardA, loadSame]
              · simp [hl, h4, h5, h6, h10, q1, q2, q3, q4, q5, q6, q7, q8, q9, q10, q11, fa39, guardA]
                repeat apply WP.seq
                apply WP.cond (t := false) (by simp [hl]) (by simp)
                intro _
                apply WP.skip; simp [hl, h21, h22, h23]
                exact LS.of hI3 (by simp [hl, h3]) (by simp [hl, h4]) (by simp [hl, h5]) (by simp [hl, h6]) (by omega) (by omega) (fun s hs => by have := hml s hs; omega)
            · intro _
              apply WP.skip; simp [hl, h21, h22, h23]
              exact hsame _ (by simp [hl, h3]) (by simp [hl, h4]) (by simp [hl, h5]) (by simp [hl, h6])
          · rintro _ e g ⟨rfl, hl, h21, h22, h23, hLS⟩
            simp
            apply WP.region; simp [hl, h23, int_wrap (show i < 9223372036854775807 by omega)]
            obtain ⟨tg, wv, fv, sv, mv, ws, fs, ss, h3, h4, h5, h6, hI, hwl, hsl, hml⟩ := hLS
            exact ⟨ops.length - (i + 1), by omega, h21, h22, i + 1, by omega, rfl, by simp, LS.of hI (by simp [hl, h3]) (by simp [hl, h4]) (by simp [hl, h5]) (by simp [hl, h6]) hwl hsl hml⟩
        · intro hge
          have hge : ¬ i < ops.length := by simpa using hge
          have hi' : i = ops.length := by omega
          subst hi'
          apply WP.exit
          simp [hl]
          obtain ⟨tg, wv, fv, sv, mv, ws, fs, ss, h3, h4, h5, h6, hI, hwl, hsl, hml⟩ := hLS
          exact LS.of hI (by simp [hl, h3]) (by simp [hl, h4]) (by simp [hl, h5]) (by simp [hl, h6]) hwl hsl hml
      · exact ⟨by simp [hl], by simp [hl, h0], by simp [hl], 0, by omega, by omega, by simp [hl], LS.of hinv0 (by simp [hl]) (by simp [hl]) (by simp [hl]) (by simp [hl]) (by simp) (by simp) (by simp)⟩
    · clear hl h0 hinv0
      rintro _ e g ⟨rfl, hl, tg, wv, fv, sv, mv, ws, fs, ss, h3, h4, h5, h6, hI, hwl, hsl, hml⟩
      simp
      repeat apply WP.seq
      have hlw : lenA Try.prog g 28 wv = some (.int .i64 (ws.length : Nat)) := by simpa using hI.aw.1.sl.len (P := Try.prog) u28
      apply WP.region; simp [hl, h3, hlw]
      repeat apply WP.seq
      refine WP.mono (K := fun out e g' => out = .normal ∧ g = g' ∧ e.length = 251 ∧ nth e 3 = wv ∧ nth e 4 = fv ∧ nth e 5 = sv ∧ nth e 6 = mv) ?_ ?_
      · apply WP.block
        refine WP.loop (fun k e g' => g = g' ∧ e.length = 251 ∧ nth e 3 = wv ∧ nth e 4 = fv ∧ nth e 5 = sv ∧ nth e 6 = mv ∧ nth e 204 = .int .i64 ws.length ∧ ∃ i, i ≤ ws.length ∧ k = ws.length - i ∧ nth e 205 = .int .i64 (i : Nat)) ?_ ws.length _ _ ?_
        · clear hl h3 h4 h5 h6
          rintro k e _ ⟨rfl, hl, h3, h4, h5, h6, h204, i, hi, rfl, h205⟩
          repeat apply WP.seq
          apply WP.region; simp [hl, h204, h205]
          repeat apply WP.seq
          apply WP.cond (by simp [hl]; rfl)
          · intro hlt1
            have hlt1 : i < ws.length := by simpa using hlt1
            apply WP.skip; simp
            repeat apply WP.seq
            apply WP.block
            repeat apply WP.seq
            obtain ⟨w, hwm⟩ : ∃ w, ws[i]? = some w := ⟨_, List.getElem?_eq_getElem hlt1⟩
            obtain ⟨fb, hfm⟩ : ∃ b, fs[i]? = some b := ⟨_, List.getElem?_eq_getElem (by have := hI.cw.pl.1; omega)⟩
            have hca11 : callA (callT ov1 Try.prog) Try.prog g 11 [.ptr (some ⟨w.1, 0⟩)] = _ := fired_ok (hI.cw.pl.2 i w fb hwm hfm)
            obtain ⟨l1, hl1, hl1', _⟩ := hI.aw.1.sl.at (P := Try.prog) u28 s24 a24 (ptrs_get hwm) (k := .i64)
            obtain ⟨l3, hl3, hl3', _⟩ := hI.af.1.sl.at (P := Try.prog) u23 s4 a4 (bools_get hfm) (k := .i64)
            have hnb : (fb != fb) = false := by cases fb <;> rfl
            apply WP.region; simp [hl, h205]
            repeat apply WP.seq
            refine WP.drawDyn (by kernel_rfl) (dynOk_tw (pl := [(3, 4), (8, 4), (8, 10)]) (by kernel_rfl) ?_) ?_
            · simp [hl, h3, h4, h205, hl1, hl1', hl3, hl3', hca11, loadSame, bin_bne u4]
            · simp [hl, h3, h4, h205, hl1, hl1', hl3, hl3', hca11, bin_bne u4, hnb]
              repeat apply WP.seq
              apply WP.cond (t := false) (by simp [hl]) (by simp)
              intro _
              apply WP.skip; simp
              apply WP.region; simp [hl, h3, h4, h5, h6, h204, h205, int_wrap (show i < 9223372036854775807 by omega)]
              exact ⟨ws.length - (i + 1), by omega, i + 1, by omega, rfl, by simp⟩
          · intro hge
            apply WP.exit
            simp [hl, h3, h4, h5, h6]
        · exact ⟨rfl, by simp [hl], by simp [hl, h3], by simp [hl, h4], by simp [hl, h5], by simp [hl, h6], by simp [hl], 0, by omega, by omega, by simp [hl]⟩
      · clear hl h3 h4 h5 h6
        rintro _ e _ ⟨rfl, rfl, hl, h3, h4, h5, h6⟩
        simp
        repeat apply WP.seq
        have hls : lenA Try.prog g 29 sv = some (.int .i64 (ss.length : Nat)) := by simpa [ptrsS] using hI.asv.1.sl.len (P := Try.prog) u29
        apply WP.region; simp [hl, h5, hls]
        repeat apply WP.seq
        apply WP.block
        refine WP.loop (fun k e g => e.length = 251 ∧ nth e 4 = fv ∧ nth e 5 = sv ∧ nth e 6 = mv ∧ nth e 220 = .int .i64 ss.length ∧ Inv h.next av (rowsO ops) tg g wv (ptrs ws) fv (bools fs) sv (ptrsS ss) mv (rowsM ss) ws fs ss ∧ ∃ i, i ≤ ss.length ∧ k = ss.length - i ∧ nth e 221 = .int .i64 (i : Nat)) ?_ ss.length _ _ ?_
        · clear hl h3 h4 h5 h6
          rintro k e g2 ⟨hl, h4, h5, h6, h220, hI2, i, hi, rfl, h221⟩
          repeat apply WP.seq
          apply WP.region; simp [hl, h220, h221]
          repeat apply WP.seq
          apply WP.cond (by simp [hl]; rfl)
          · intro hlt1
            have hlt1 : i < ss.length := by simpa using hlt1
            apply WP.skip; simp
            repeat apply WP.seq
            apply WP.block
            repeat apply WP.seq
            apply WP.region; simp [hl, h221]
            obtain ⟨s, hsk⟩ : ∃ s, ss[i]? = some s := ⟨_, List.getElem?_eq_getElem hlt1⟩
            obtain ⟨g3, F, ls, lm, hI3, q1, q2, q3, q4, q5, q6, q7, q8, q9, q10, q11⟩ := hI2.look hsk (by have := hml s (List.mem_of_getElem? hsk); omega)
            repeat apply WP.seq
            refine WP.drawDyn (by kernel_rfl) (dynOk_tw (pl := [(3, 4), (8, 4), (8, 10), (16, 17), (22, 17), (22, 26)]) (by kernel_rfl) ?_) ?_
            · simp [hl, h4, h5, h6, h221, q1, q2, q3, q4, q5, q6, q7, q8, q9, q10, q11, fa39, guardA, loadSame]
            · simp [hl, h4, h5, h6, h221, q1, q2, q3, q4, q5, q6, q7, q8, q9, q10, q11, fa39, guardA]
              repeat apply WP.seq
              apply WP.cond (t := false) (by simp [hl]) (by simp)
              intro _
              apply WP.skip; simp
              apply WP.region; simp [hl, h4, h5, h6, h220, h221, int_wrap (show i < 9223372036854775807 by omega)]
              exact ⟨ss.length - (i + 1), by omega, hI3, i + 1, by omega, rfl, by simp⟩
          · intro hge
            apply WP.exit
            simp
            repeat apply WP.seq
            apply WP.region; simp [hl]
            apply WP.ret
            simp [hl, resultsA, resultA, single]
        · exact ⟨by simp [hl], by simp [hl, h4], by simp [hl, h5], by simp [hl, h6], by simp [hl], hI, 0, by omega, by omega, by simp [hl]⟩
  obtain ⟨_, h', h1, rfl⟩ := main
  exact ⟨h', h1⟩
end Go.Am
