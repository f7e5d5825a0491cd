/- Parts of the proof by the abstract machine: DRead2, DRead3, DRead4, DRead5, DRead6, DCaught, DReply. -/
import Derived.Test.YtnllflgijnloiaaAmGRDBack15
import Derived.Test.YtnllflgijnloiaaAmGRDBack13
set_option linter.unusedSimpArgs false
namespace Go.Am
open Go.RowKit Go.Proofs

theorem conv5_3 {h : Heap} {b : UInt8} : convertA Try.prog h 5 3 (byteA b) = some (.int .i64 (b.toNat : Int), h) := by
  have hb := b.toNat_lt
  have h3 : IntKind.wrap .i64 (b.toNat : Int) = b.toNat := wrap_small (by omega) (by omega)
  simp [convertA, u5, u3, byteA, h3]
theorem bin_shl8 {h : Heap} {x : Int} {xo yo : Operand} (h1 : 0 ≤ x) (h2 : x < 65536) : binA Try.prog h .shl 3 xo yo (.int .i64 x) (.int .u64 8) = some (.int .i64 (x * 256)) := by
  have h3 : IntKind.wrap .i64 (x * 256) = x * 256 := wrap_small (by omega) (by omega)
  simp [binA, shiftA, IntKind.bits, h3]
theorem or_add {a b : Nat} (hb : b < 256) : a * 256 ||| b = a * 256 + b := by
  have := Nat.shiftLeft_add_eq_or_of_lt (b := b) (i := 8) (by omega) a
  rw [Nat.shiftLeft_eq] at this
  exact this.symm
theorem val_be2 {n : Int} (hn : u16In n) : orI (((b8 (n.fdiv 256)).toNat : Int) * 256) ((b8 n).toNat : Int) = n := by
  have h1 := b8_nat (n.fdiv 256)
  have h2 := b8_nat n
  have h3 := (b8 n).toNat_lt
  have h4 : n.fdiv 256 = n / 256 := Int.fdiv_eq_ediv_of_nonneg _ (by omega)
  rw [h4] at h1 ⊢
  obtain ⟨hn1, hn2⟩ := hn
  generalize hx : (b8 (n / 256)).toNat = x at h1 ⊢
  generalize hy : (b8 n).toNat = y at h2 h3 ⊢
  unfold orI
  have e1 : ((x : Int) * 256).toNat = x * 256 := by omega
  rw [e1, Int.toNat_natCast, or_add (by omega)]
  omega
theorem unbytes_bytes : ∀ s : List UInt8, unbytes (bytesA s) = some (s.map fun b => (b.toNat : Int))
  | [] => rfl
  | b :: s => by
    have ih := unbytes_bytes s
    have h1 : unbyte (byteA b) = some (b.toNat : Int) := by simp [unbyte, byteA]
    simp only [bytesA, List.map_cons, unbytes, h1] at ih ⊢
    rw [ih]
theorem conv_str {h : Heap} {v : AV} {s : List UInt8} (hs : Sl h v (bytesA s)) (hne : s ≠ []) : convertA Try.prog h 30 9 v = some (.str s, h) := by
  have hlen : (bytesA s).length = s.length := bytesA_length s
  have hp := List.length_pos_iff.2 hne
  match v, hs with
  | .slice none n c, hs => obtain ⟨_, hh⟩ := hs; rw [hh] at hlen; simp at hlen; omega
  | .slice (some l) n c, hs =>
    obtain ⟨⟨h1, _⟩, h0 | ⟨cs, k, hg, hle, hd⟩⟩ := hs
    · omega
    · obtain ⟨m, hm⟩ : ∃ m, n = m + 1 := ⟨n - 1, by omega⟩
      subst hm
      have hr : readA h l (m + 1) = some (bytesA s) := by
        simp only [readA, hg, (ble_iff _ _).2 hle, cond_true, hd]
      simp only [convertA, u30, u9, u5, hr, unbytes_bytes]
      congr 2
      congr 1
      rw [List.map_map]
      conv => rhs; rw [← List.map_id s]
      apply List.map_congr_left
      intro b _
      simp

section
variable {ov : CallF}
theorem rtwo_ok (O : DOv ov) {h : Heap} (hw : Wf h) {X : Nat} {bv : AV} {b rest : List UInt8} {p : Nat} {n : Int} (hr : Rd h X bv b p) (hn : u16In n) (hd : b.drop p = be2 n ++ rest) :
    ∃ h', callT ov Try.prog 34 [.ptr (some ⟨X, 0⟩)] h = some (.ret (.int .i64 n) h') ∧ Rd h' X bv b (p + 2) ∧ Keep [X] h h' ∧ b.drop (p + 2) = rest := by
  have main : ∃ u h', callT ov Try.prog 34 [.ptr (some ⟨X, 0⟩)] h = some (.ret u h') ∧ u = .int .i64 n ∧ Rd h' X bv b (p + 2) ∧ Keep [X] h h' := by
    refine callT_wp (fn := Try.f34) (O 34 (by decide) (by decide) (by decide) _ _) (by kernel_rfl) rfl ?_
    have hl : (frameA Try.f34 [.ptr (some ⟨X, 0⟩)]).length = 16 := frameA_length (Nat.le_of_ble_eq_true rfl)
    have h0 : nth (frameA Try.f34 [.ptr (some ⟨X, 0⟩)]) 0 = .ptr (some ⟨X, 0⟩) := frameA_nth (Nat.le_of_ble_eq_true rfl)
    generalize frameA Try.f34 [.ptr (some ⟨X, 0⟩)] = e at hl h0
    obtain ⟨v, g, h1, hs, hid, hr', hk⟩ := take_ok O hw hr hd (by simp [be2])
    have hca : callA (callT ov Try.prog) Try.prog h 37 [.ptr (some ⟨X, 0⟩), .int .i64 2] = _ := h1
    obtain ⟨l1, x1, y1, _⟩ := hs.at (P := Try.prog) u30 s5 a5 (i := 0) (x := byteA (b8 (n.fdiv 256))) rfl (k := .i64)
    obtain ⟨l2, x2, y2, _⟩ := hs.at (P := Try.prog) u30 s5 a5 (i := 1) (x := byteA (b8 n)) rfl (k := .i64)
    have x1 : indexAddrA Try.prog 30 v (.int .i64 0) = _ := x1
    have x2 : indexAddrA Try.prog 30 v (.int .i64 1) = _ := x2
    have b1 := (b8 (n.fdiv 256)).toNat_lt
    have b2 := (b8 n).toNat_lt
    have e1 : ∀ (xo yo : Operand) (h : Heap), binA Try.prog h .shl 3 xo yo (.int .i64 ((b8 (n.fdiv 256)).toNat : Int)) (.int .u64 8) = _ := fun _ _ _ => bin_shl8 (by omega) (by omega)
    have e2 : ∀ (xo yo : Operand) (h : Heap), binA Try.prog h .or 3 xo yo (.int .i64 (((b8 (n.fdiv 256)).toNat : Int) * 256)) (.int .i64 ((b8 n).toNat : Int)) = some (.int .i64 n) := fun _ _ _ => by
      rw [bin_or ⟨by omega, by omega⟩ ⟨by omega, by omega⟩, val_be2 hn]
    repeat apply WP.seq
    apply WP.region; simp [hl]
    repeat apply WP.seq
    apply WP.region; simp [hl, h0, hca]
    repeat apply WP.seq
    apply WP.draw (by kernel_rfl) (by kernel_rfl)
    simp [hl, x1, x2, y1, y2, conv5_3, e1, e2]
    apply WP.ret
    simp [hl, resultsA, resultA, single]
    exact ⟨hr', hk⟩
  obtain ⟨_, h', h1, rfl, h2, h3⟩ := main
  exact ⟨h', h1, h2, h3, (drop_part hd).2.2⟩

/-- A name's letters from some place on. -/
structure NameAt (b : List UInt8) (p : Nat) (ls : List (List UInt8)) : Prop where
  bytes : ∃ rest, b.drop p = encName ls ++ rest
  ok : Named ls
/-- A name: written out, or pointed at. -/
inductive NamedAt (b : List UInt8) (p : Nat) (ls : List (List UInt8)) (pt : Bool) (q : Nat) : Prop where
  | here (h : NameAt b p ls) (hq : q = p + nameLen ls)
  | there (hp : pt = true) (rest : List UInt8) (hd : b.drop p = be2 49164 ++ rest) (h12 : 12 < p) (h : NameAt b 12 ls) (hq : q = p + 2)

/-- Where the reading of a name stands. -/
def RnI (h : Heap) (X : Nat) (bv : AV) (b : List UInt8) (p q : Nat) (ls : List (List UInt8)) (pt : Bool) (m : Nat) (e : List AV) (g : Heap) : Prop :=
  e.length = 78 ∧ nth e 0 = .ptr (some ⟨X, 0⟩) ∧ nth e 1 = .bool pt ∧ Keep [X] h g ∧
    ((m = ls.length + 1 ∧ nth e 5 = .slice none 0 (.exact 0) ∧ nth e 6 = .int .i64 1 ∧ nth e 7 = .int .i64 (p : Nat) ∧ nth e 8 = .int .i64 (-1) ∧ Rd g X bv b p ∧ pt = true ∧ 12 < p ∧ NameAt b 12 ls ∧ q = p + 2 ∧ ∃ rest, b.drop p = be2 49164 ++ rest) ∨
     (∃ i r home, i ≤ ls.length ∧ m = ls.length - i ∧ nth e 6 = .int .i64 (nameLen (ls.take i) : Nat) ∧ nth e 8 = .int .i64 home ∧ Rd g X bv b r ∧ Acc h.next g (nth e 5) (strs (ls.take i)) ∧ (∃ rest, b.drop r = encLabels (ls.drop i) ++ [0] ++ rest) ∧
       ((home = -1 ∧ q = r + (encLabels (ls.drop i)).length + 1) ∨ home = (q : Nat))))
theorem b8_small {n : Nat} (h : n < 256) : ((b8 (n : Int)).toNat : Int) = n := by rw [b8_nat]; omega
theorem Acc.one {n0 : Nat} {h : Heap} {v : AV} {xs : List AV} (ha : Acc n0 h v xs) (hw : Wf h) (hn : n0 ≤ h.next) (hlen : xs.length ≤ 1000) (s : List UInt8) :
    ∃ v' g1 g, buildSliceA Try.prog h 24 1 [(0, .str s)] = some (.slice (some ⟨h.next, 0⟩) 1 (.exact 1), g1) ∧ appendA Try.prog g1 24 24 v (.slice (some ⟨h.next, 0⟩) 1 (.exact 1)) = some (v', g) ∧ Acc n0 g v' (xs ++ [.str s]) ∧ Keep (idsOf v) h g := by
  have hbl := build_one (P := Try.prog) (h := h) u24 i9 (z := .string ⟨#[]⟩) (by kernel_rfl) (by kernel_rfl) (by kernel_rfl) (za := .str []) (by kernel_rfl) (zc := .str []) (by kernel_rfl) (x := .str s) rfl
  have hk := (Keep.refl (ex := []) hw).alloc (.cells [.str s] .own)
  have hg := Heap.get_alloc h (.cells [.str s] .own)
  generalize h.alloc (.cells [.str s] .own) = g1 at hbl hk hg
  obtain ⟨v', g, h1, h2, h3, _⟩ := (ha.keep2 hk (fun _ _ => by simp)).pushX (ex := idsOf v) hk.wf (fun i hi => mem_ids hi) (by have := hk.le; omega) (P := Try.prog) u24 s9 (room9 (by omega)) (Sl.exact rfl hg) rfl
  exact ⟨v', g1, g, hbl, h1, h2, (hk.more (by simp)).trans h3⟩
theorem drop_cons {α : Type} {xs : List α} {i : Nat} {x : α} (h : xs[i]? = some x) : xs.drop i = x :: xs.drop (i + 1) := by
  obtain ⟨h1, h2⟩ := List.getElem?_eq_some_iff.1 h
  rw [List.drop_eq_getElem_cons h1, h2]

set_option maxHeartbeats 2000000 in
theorem rname_ok (O : DOv ov) {h : Heap} (hw : Wf h) {X : Nat} {bv : AV} {b : List UInt8} {p q : Nat} {ls : List (List UInt8)} {pt : Bool} (hr : Rd h X bv b p) (hn : NamedAt b p ls pt q) :
    ∃ v h', callT ov Try.prog 35 [.ptr (some ⟨X, 0⟩), .bool pt] h = some (.ret v h') ∧ Acc h.next h' v (strs ls) ∧ Rd h' X bv b q ∧ Keep [X] h h' := by
  refine callT_wp (fn := Try.f35) (O 35 (by decide) (by decide) (by decide) _ _) (by kernel_rfl) rfl ?_
  have hl : (frameA Try.f35 [.ptr (some ⟨X, 0⟩), .bool pt]).length = 78 := frameA_length (Nat.le_of_ble_eq_true rfl)
  have h0 : nth (frameA Try.f35 [.ptr (some ⟨X, 0⟩), .bool pt]) 0 = .ptr (some ⟨X, 0⟩) := frameA_nth (Nat.le_of_ble_eq_true rfl)
  have h1 : nth (frameA Try.f35 [.ptr (some ⟨X, 0⟩), .bool pt]) 1 = .bool pt := frameA_nth (Nat.le_of_ble_eq_true rfl)
  generalize frameA Try.f35 [.ptr (some ⟨X, 0⟩), .bool pt] = e at hl h0 h1
  have hbn := hr.n
  have hok : Named ls := by cases hn with
    | here h _ => exact h.ok
    | there _ _ _ _ h _ => exact h.ok
  have hll := labels_le ls
  have hel : (encLabels ls).length + 1 ≤ 255 := by have := hok.2; have h2 := encName_length ls; simp [encName] at h2; omega
  have l1 : loadA Try.prog h 3 ⟨X, 1⟩ = some (.int .i64 (p : Nat)) := load_cell a3 hr.get rfl
  have hXl := hw _ _ hr.get
  have hbvl : ∀ i, idOf bv = some i → b ≠ [] → i < h.next := fun i hi hne => hr.sl.lt hw (by simpa [bytesA] using hne) hi
  have hfl : ∀ h x, callA (callT ov Try.prog) Try.prog h 30 [.bool false, x] = _ := fun h x => fail_ok O h x
  repeat apply WP.seq
  apply WP.region; simp [hl]
  repeat apply WP.seq
  apply WP.region; simp [hl]
  repeat apply WP.seq
  apply WP.draw (by kernel_rfl) (by kernel_rfl)
  simp [hl, h0, fa64, l1]
  repeat apply WP.seq
  apply WP.block
  refine (?_ : ∀ e : List AV, e.length = 78 → nth e 0 = .ptr (some ⟨X, 0⟩) → nth e 1 = .bool pt → nth e 5 = .slice none 0 (.exact 0) → nth e 6 = .int .i64 1 → nth e 7 = .int .i64 (p : Nat) → nth e 8 = .int .i64 (-1) → WP ov Try.prog _ e h _) _ (by simp [hl]) (by simp [hl, h0]) (by simp [hl, h1]) (by simp [hl]) (by simp [hl]) (by simp [hl]) (by simp [hl])
  clear hl h0 h1
  intro e hl h0 h1 h5 h6 h7 h8
  have start : ∃ m0, RnI h X bv b p q ls pt m0 e h := by
    cases hn with
    | here hna hq =>
      obtain ⟨rest, hd⟩ := hna.bytes
      refine ⟨ls.length, hl, h0, h1, Keep.refl hw, .inr ⟨0, p, -1, by omega, by omega, by simp [h6, nameLen], h8, hr, by rw [h5]; exact Acc.nil, ⟨rest, by simpa [encName] using hd⟩, .inl ⟨rfl, ?_⟩⟩⟩
      rw [hq, ← encName_length]; simp [encName]; omega
    | there hp rest hd h12 hna hq => exact ⟨ls.length + 1, hl, h0, h1, Keep.refl hw, .inl ⟨rfl, h5, h6, h7, h8, hr, hp, h12, hna, hq, rest, hd⟩⟩
  obtain ⟨m0, hm0⟩ := start
  clear hl h0 h1 h5 h6 h7 h8
  refine WP.loop (RnI h X bv b p q ls pt) ?_ m0 _ _ hm0
  rintro m e g ⟨hl, h0, h1, hkg, ⟨rfl, h5, h6, h7, h8, hrg, hpt, h12, hna, hq, rest, hd⟩ | ⟨i, r, home, hi, rfl, h6, h8, hrg, hacc, ⟨rest, hd⟩, hhome⟩⟩
  · -- pointed at
    have hb2 : be2 49164 = [192, 12] := by decide
    rw [hb2] at hd
    obtain ⟨v1, g1, t1, hs1, hid1, hr1, hk1⟩ := take_ok O hkg.wf hrg (s := [192]) (rest := 12 :: rest) (by simpa using hd) (by simp)
    have hca1 : callA (callT ov Try.prog) Try.prog g 37 [.ptr (some ⟨X, 0⟩), .int .i64 1] = _ := t1
    obtain ⟨l1, x1, y1, _⟩ := hs1.at (P := Try.prog) u30 s5 a5 (i := 0) (x := byteA 192) rfl (k := .i64)
    have x1 : indexAddrA Try.prog 30 v1 (.int .i64 0) = _ := x1
    have hd1 := (drop_part (s := [192]) (rest := 12 :: rest) (by simpa using hd)).2.2
    obtain ⟨v2, g2, t2, hs2, hid2, hr2, hk2⟩ := take_ok O hk1.wf hr1 (s := [12]) (rest := rest) (by simpa using hd1) (by simp)
    have hca2 : callA (callT ov Try.prog) Try.prog g1 37 [.ptr (some ⟨X, 0⟩), .int .i64 1] = _ := t2
    obtain ⟨l2, x2, y2, _⟩ := hs2.at (P := Try.prog) u30 s5 a5 (i := 0) (x := byteA 12) rfl (k := .i64)
    have x2 : indexAddrA Try.prog 30 v2 (.int .i64 0) = _ := x2
    have c192 : ∀ h, convertA Try.prog h 5 3 (byteA 192) = some (.int .i64 192, h) := fun h => by rw [conv5_3]; rfl
    have c12 : ∀ h, convertA Try.prog h 5 3 (byteA 12) = some (.int .i64 12, h) := fun h => by rw [conv5_3]; rfl
    have e1 : ∀ (xo yo : Operand) (h : Heap), binA Try.prog h .shl 3 xo yo (.int .i64 0) (.int .u64 8) = some (.int .i64 0) := fun _ _ _ => bin_shl8 (by omega) (by omega)
    have e2 : ∀ (xo yo : Operand) (h : Heap), binA Try.prog h .or 3 xo yo (.int .i64 0) (.int .i64 12) = some (.int .i64 12) := fun _ _ _ => by rw [bin_or ⟨by omega, by omega⟩ ⟨by omega, by omega⟩]; rfl
    have w0 : IntKind.wrap .i64 ((192 : Int) - 192) = 0 := wrap_small (by omega) (by omega)
    have hpl : ¬ ((p : Int) ≤ 12) := by omega
    have w00 : IntKind.wrap .i64 0 = 0 := wrap_small (by omega) (by omega)
    have m1 : loadA Try.prog g2 3 ⟨X, 1⟩ = some (.int .i64 ((p + 1 + 1 : Nat) : Int)) := load_cell a3 hr2.get rfl
    have hst := store_cell (h := g2) (t := 3) (v := .int .i64 12) s3 rfl rfl hr2.get (by simp) (o := 1) (by simp)
    simp only [List.set_cons_succ, List.set_cons_zero] at hst
    have hX2 := hk2.wf _ _ hr2.get
    have hk3 := (Keep.refl (ex := [X]) hk2.wf).set (i := X) (.cells [bv, .int .i64 12] .own) hX2 (.inl (by simp))
    have hgX := Heap.get_set g2 X (.cells [bv, .int .i64 12] .own)
    generalize g2.set X (.cells [bv, .int .i64 12] .own) = g3 at hst hk3 hgX
    have hbx : ∀ i, idOf bv = some i → i ∉ [X] := fun i hi hm => hr.ne (by rw [hi, List.mem_singleton.1 hm])
    have hr3 : Rd g3 X bv b 12 := ⟨hgX, hr2.sl.keep hk3 hbx, hr2.ne, hr2.n⟩
    repeat apply WP.seq
    apply WP.block
    repeat apply WP.seq
    apply WP.region; simp [hl, h0, hca1, x1, y1, c192]
    repeat apply WP.seq
    apply WP.block
    repeat apply WP.seq
    apply WP.region; simp [hl]
    repeat apply WP.seq
    apply WP.cond (t := false) (by simp [hl]) (by simp)
    intro _
    repeat apply WP.seq
    apply WP.region; simp [hl, h1, hpt, guardA]
    repeat apply WP.seq
    apply WP.cond (t := true) (by simp [hl])
    · intro _
      repeat apply WP.seq
      apply WP.region; simp [hl, h0, w0, w00, e1, hca2, x2, y2, c12, e2]
      repeat apply WP.seq
      apply WP.region; simp [hl, h7, hpl, hfl]
      repeat apply WP.seq
      apply WP.region; simp [hl, h8]
      repeat apply WP.seq
      refine WP.mono (K := fun o e g => o = .normal ∧ g = g2 ∧ e.length = 78 ∧ nth e 0 = .ptr (some ⟨X, 0⟩) ∧ nth e 1 = .bool pt ∧ nth e 5 = .slice none 0 (.exact 0) ∧ nth e 6 = .int .i64 1 ∧ nth e 8 = .int .i64 ((p + 1 + 1 : Nat) : Int) ∧ nth e 10 = .int .i64 12) ?_ ?_
      · apply WP.cond (t := true) (by simp [hl])
        · intro _
          apply WP.region; simp [hl, h0, h1, h5, h6, hpt, fa64, m1]
        · simp
      rintro o e g ⟨rfl, rfl, hl, h0, h1, h5, h6, h8, h10⟩
      simp
      apply WP.region; simp [hl, h0, h1, h5, h6, h8, h10, fa64, storeR_ptr hst]
      obtain ⟨rest2, hd2⟩ := hna.bytes
      refine ⟨ls.length, by omega, by simp [hl], by simp [h0, hl], by simp [h1, hl, hpt], ((hkg.trans hk1).trans hk2).trans hk3, .inr ⟨0, 12, ((p + 1 + 1 : Nat) : Int), by omega, by omega, by simp [h6, hl, nameLen], by simp [h8, hl], hr3, by simpa [h5, hl, strs] using Acc.nil, ⟨rest2, by simpa [encName] using hd2⟩, .inr (by omega)⟩⟩
    · simp
  · -- a label, or the end
    by_cases hlt : i < ls.length
    · obtain ⟨x, hx⟩ : ∃ x, ls[i]? = some x := ⟨ls[i], by simp [hlt]⟩
      have hxm := List.mem_of_getElem? hx
      have hxl := hok.1 x hxm
      have hxne : x ≠ [] := by rintro rfl; simp at hxl
      have hdx : ls.drop i = x :: ls.drop (i + 1) := drop_cons hx
      have hed : encLabels (ls.drop i) = [b8 x.length] ++ (x ++ encLabels (ls.drop (i + 1))) := by rw [hdx]; simp [encLabels]
      rw [hed] at hd
      have hdA : b.drop r = [b8 x.length] ++ (x ++ (encLabels (ls.drop (i + 1)) ++ [0] ++ rest)) := by rw [hd]; simp
      obtain ⟨v1, g1, t1, hs1, hid1, hr1, hk1⟩ := take_ok O hkg.wf hrg hdA (by simp)
      have hca1 : callA (callT ov Try.prog) Try.prog g 37 [.ptr (some ⟨X, 0⟩), .int .i64 1] = _ := t1
      obtain ⟨l1, x1, y1, _⟩ := hs1.at (P := Try.prog) u30 s5 a5 (i := 0) (x := byteA (b8 x.length)) rfl (k := .i64)
      have x1 : indexAddrA Try.prog 30 v1 (.int .i64 0) = _ := x1
      have cv : ∀ h, convertA Try.prog h 5 3 (byteA (b8 x.length)) = some (.int .i64 x.length, h) := fun h => by rw [conv5_3, b8_small (by omega)]
      have hd1 := (drop_part hdA).2.2
      obtain ⟨v2, g2, t2, hs2, hid2, hr2, hk2⟩ := take_ok O hk1.wf hr1 (s := x) (rest := encLabels (ls.drop (i + 1)) ++ [0] ++ rest) (by simpa using hd1) hxne
      have hca2 : callA (callT ov Try.prog) Try.prog g1 37 [.ptr (some ⟨X, 0⟩), .int .i64 x.length] = _ := t2
      have hd2 := (drop_part (by simpa using hd1 : b.drop (r + 1) = x ++ (encLabels (ls.drop (i + 1)) ++ [0] ++ rest))).2.2
      have hcs := conv_str hs2 hxne
      have hv5 : ∀ j, idOf (nth e 5) = some j → j ∉ [X] := fun j hj hm => by have := hacc.id hj; have := List.mem_singleton.1 hm; omega
      have hacc2 : Acc h.next g2 (nth e 5) (strs (ls.take i)) := (hacc.keep2 hk1 hv5).keep2 hk2 hv5
      obtain ⟨v3, g3, g4, hbl, hap, hacc4, hk4⟩ := hacc2.one hk2.wf (by have := hkg.le; have := hk1.le; have := hk2.le; omega) (by rw [strs_length, List.length_take]; omega) x
      have hX4 : X ∉ idsOf (nth e 5) := fun hm => by have := hacc.id (ids_mem hm); omega
      have hbv4 : ∀ j, idOf bv = some j → j ∉ idsOf (nth e 5) := fun j hj hm => by
        have h3 := hacc.id (ids_mem hm)
        have h4 := hbvl j hj (by rintro rfl; simp at hdA)
        omega
      have hr4 := hr2.keep hk4 hX4 hbv4
      have hkg4 : Keep [X] h g4 := ((hkg.trans hk1).trans hk2).into hk4 (fun j hj => .inr (hacc.id (ids_mem hj)))
      have hnl : nameLen (ls.take (i + 1)) = nameLen (ls.take i) + (x.length + 1) := by rw [take_snoc hx]; exact nameLen_snoc _ _
      have hnt := nameLen_take ls (i + 1)
      have hok2 := hok.2
      have w1 : IntKind.wrap .i64 ((x.length : Int) + 1) = (x.length : Int) + 1 := wrap_small (by omega) (by omega)
      have w2 : IntKind.wrap .i64 ((nameLen (ls.take i) : Int) + ((x.length : Int) + 1)) = (nameLen (ls.take (i + 1)) : Nat) := by rw [wrap_small (by omega) (by omega), hnl]; omega
      have c1 : ((x.length : Int) == 0) = false := by rw [beq_eq_false_iff_ne]; omega
      have c2 : ¬ ((192 : Int) ≤ x.length) := by omega
      have c3 : ¬ ((63 : Int) < x.length) := by omega
      have c4 : ¬ ((255 : Int) < (nameLen (ls.take (i + 1)) : Nat)) := by omega
      have hsn : strs (ls.take i) ++ [.str x] = strs (ls.take (i + 1)) := by rw [take_snoc hx]; simp [strs]
      rw [hsn] at hacc4
      repeat apply WP.seq
      apply WP.block
      repeat apply WP.seq
      apply WP.region; simp [hl, h0, hca1, x1, y1, cv]
      repeat apply WP.seq
      apply WP.block
      repeat apply WP.seq
      apply WP.region; simp [hl]
      repeat apply WP.seq
      apply WP.cond (t := false) (by simp [hl, c1]) (by simp)
      intro _
      repeat apply WP.seq
      apply WP.region; simp [hl, h1, guardA, c2]
      repeat apply WP.seq
      apply WP.cond (t := false) (by simp [hl]) (by simp)
      intro _
      repeat apply WP.seq
      apply WP.region; simp [hl, h6, w1, w2]
      repeat apply WP.seq
      apply WP.region; simp [hl, guardA, c3, c4, hfl]
      repeat apply WP.seq
      apply WP.region; simp [hl, h0, hca2, hcs, hbl, hap]
      refine ⟨ls.length - (i + 1), by omega, by simp [hl], by simp [h0, hl], by simp [h1, hl], hkg4, .inr ⟨i + 1, r + 1 + x.length, home, by omega, rfl, by simp [hl], by simp [h8, hl], by simpa using hr4, by simpa [hl] using hacc4, ⟨rest, by simpa using hd2⟩, ?_⟩⟩
      rcases hhome with ⟨hh1, hh2⟩ | hh
      · left
        refine ⟨hh1, ?_⟩
        rw [hh2, hed]
        simp; omega
      · exact .inr hh
    · have hi' : i = ls.length := by omega
      subst hi'
      simp only [List.drop_length, List.take_length] at hd hacc hhome
      have hdA : b.drop r = [0] ++ rest := by simpa [encLabels] using hd
      obtain ⟨v1, g1, t1, hs1, hid1, hr1, hk1⟩ := take_ok O hkg.wf hrg hdA (by simp)
      have hca1 : callA (callT ov Try.prog) Try.prog g 37 [.ptr (some ⟨X, 0⟩), .int .i64 1] = _ := t1
      obtain ⟨l1, x1, y1, _⟩ := hs1.at (P := Try.prog) u30 s5 a5 (i := 0) (x := byteA 0) rfl (k := .i64)
      have x1 : indexAddrA Try.prog 30 v1 (.int .i64 0) = _ := x1
      have cv : ∀ h, convertA Try.prog h 5 3 (byteA 0) = some (.int .i64 0, h) := fun h => by rw [conv5_3]; rfl
      have hv5 : ∀ j, idOf (nth e 5) = some j → j ∉ [X] := fun j hj hm => by have := hacc.id hj; have := List.mem_singleton.1 hm; omega
      have hacc1 := hacc.keep2 hk1 hv5
      obtain ⟨vl, vc, hv5e⟩ := hacc.sl.slice
      repeat apply WP.seq
      apply WP.block
      repeat apply WP.seq
      apply WP.region; simp [hl, h0, hca1, x1, y1, cv]
      repeat apply WP.seq
      apply WP.block
      repeat apply WP.seq
      apply WP.region; simp [hl]
      repeat apply WP.seq
      apply WP.cond (t := true) (by simp [hl])
      · intro _
        repeat apply WP.seq
        apply WP.region; simp [hl, h8]
        repeat apply WP.seq
        refine WP.mono (K := fun o e' g' => o = .normal ∧ e'.length = 78 ∧ nth e' 5 = nth e 5 ∧ Rd g' X bv b q ∧ Keep [X] g1 g') ?_ ?_
        · apply WP.cond (by simp [hl]; rfl)
          · intro hc
            have hc : 0 ≤ home := by simpa using hc
            have hh := hhome.resolve_left (fun hh => by omega)
            have hst := store_cell (h := g1) (t := 3) (v := .int .i64 home) s3 rfl rfl hr1.get (by simp) (o := 1) (by simp)
            simp only [List.set_cons_succ, List.set_cons_zero] at hst
            have hX1 := hk1.wf _ _ hr1.get
            have hk3 := (Keep.refl (ex := [X]) hk1.wf).set (i := X) (.cells [bv, .int .i64 home] .own) hX1 (.inl (by simp))
            have hgX := Heap.get_set g1 X (.cells [bv, .int .i64 home] .own)
            generalize g1.set X (.cells [bv, .int .i64 home] .own) = g3 at hst hk3 hgX
            have hbx : ∀ i, idOf bv = some i → i ∉ [X] := fun i hi hm => hr.ne (by rw [hi, List.mem_singleton.1 hm])
            apply WP.region; simp [hl, h0, h8, fa64, storeR_ptr hst]
            exact ⟨⟨by rw [hh] at hgX; exact hgX, hr1.sl.keep hk3 hbx, hr1.ne, hr1.n⟩, hk3⟩
          · intro hc
            have hc : ¬ 0 ≤ home := by simpa using hc
            have hh : home = -1 ∧ q = r + (encLabels ([] : List (List UInt8))).length + 1 := hhome.resolve_right (fun hh => by omega)
            apply WP.skip
            simp [hl]
            refine ⟨?_, Keep.refl hk1.wf⟩
            rw [hh.2]
            simpa [encLabels] using hr1
        rintro o e' g' ⟨rfl, hl', h5', hrq, hkq⟩
        simp
        repeat apply WP.seq
        apply WP.region; simp [hl', h5']
        apply WP.ret
        rw [hv5e] at hacc1 ⊢
        simp [hl', resultsA, resultA, single]
        exact ⟨hacc1.keep2 hkq (by rw [← hv5e]; exact hv5), hrq, (hkg.trans hk1).trans hkq⟩
      · simp
end
end Go.Am

set_option linter.unusedSimpArgs false
namespace Go.Am
open Go.RowKit Go.Proofs

theorem ia65 {l : Loc} : ∀ {i : Nat}, i < 4 → indexAddrA Try.prog 65 (.ptr (some l)) (.int .i64 (i : Nat)) = some (.ptr (some ⟨l.id, l.off + i⟩))
  | 0, _ => by kernel_rfl
  | 1, _ => by kernel_rfl
  | 2, _ => by kernel_rfl
  | 3, _ => by kernel_rfl
  | i + 4, h => by omega
theorem al65 {h : Heap} : allocA Try.prog h 65 = some (.ptr (some ⟨h.next, 0⟩), h.alloc (.cells (ints [0, 0, 0, 0]) .own)) := by kernel_rfl
theorem be2s_cons (n : Int) (ns : List Int) : be2s (n :: ns) = be2 n ++ be2s ns := rfl
def fill4 (cs : List Int) (i : Nat) : List Int := cs.take i ++ List.replicate (4 - i) 0
theorem fill4_set {cs : List Int} (h4 : cs.length = 4) {i : Nat} (hi : i < 4) {x : Int} (hx : cs[i]? = some x) : (fill4 cs i).set i x = fill4 cs (i + 1) := by
  unfold fill4
  rw [take_snoc hx, List.set_append_right _ _ (by simp; omega)]
  have : 4 - i = (4 - (i + 1)) + 1 := by omega
  rw [this, List.replicate_succ]
  have h0 : i - (cs.take i).length = 0 := by simp; omega
  rw [h0]
  simp
theorem fill4_length {cs : List Int} (h4 : cs.length = 4) {i : Nat} (hi : i ≤ 4) : (fill4 cs i).length = 4 := by simp [fill4]; omega

section
variable {ov : CallF}
set_option maxHeartbeats 1000000 in
theorem head_ok (O : DOv ov) {h : Heap} (hw : Wf h) {X : Nat} {bv : AV} {b rest : List UInt8} {id fl : Int} {cs : List Int} (h4 : cs.length = 4) (hid : u16In id) (hfl : u16In fl) (hcs : ∀ c ∈ cs, u16In c) (hr : Rd h X bv b 0) (hd : b = be2s (id :: fl :: cs) ++ rest) :
    ∃ h', callT ov Try.prog 29 [.ptr (some ⟨X, 0⟩)] h = some (.ret (.tuple [.int .i64 id, .int .i64 fl, .agg (ints cs)]) h') ∧ Rd h' X bv b 12 ∧ Keep [X] h h' := by
  have main : ∃ u h', callT ov Try.prog 29 [.ptr (some ⟨X, 0⟩)] h = some (.ret u h') ∧ u = .tuple [.int .i64 id, .int .i64 fl, .agg (ints cs)] ∧ Rd h' X bv b 12 ∧ Keep [X] h h' := by
    refine callT_wp (fn := Try.f29) (O 29 (by decide) (by decide) (by decide) _ _) (by kernel_rfl) rfl ?_
    have hl : (frameA Try.f29 [.ptr (some ⟨X, 0⟩)]).length = 28 := frameA_length (Nat.le_of_ble_eq_true rfl)
    have h0 : nth (frameA Try.f29 [.ptr (some ⟨X, 0⟩)]) 0 = .ptr (some ⟨X, 0⟩) := frameA_nth (Nat.le_of_ble_eq_true rfl)
    generalize frameA Try.f29 [.ptr (some ⟨X, 0⟩)] = e at hl h0
    have hbl : 12 ≤ b.length := by rw [hd, List.length_append, be2s_length]; simp [h4]
    have hlen : ∀ h, lenA Try.prog h 30 bv = some (.int .i64 (b.length : Nat)) := fun h => by
      obtain ⟨l, c, hv⟩ := hr.sl.slice
      rw [hv]; simp [lenA, u30, bytesA_length]
    have hcmp : ¬ ((b.length : Int) < 12) := by omega
    have hfl2 : ∀ h x, callA (callT ov Try.prog) Try.prog h 30 [.bool false, x] = _ := fun h x => fail_ok O h x
    have hbne : b ≠ [] := by rintro rfl; simp at hbl
    have hbvl : ∀ i, idOf bv = some i → i < h.next := fun i hi => hr.sl.lt hw (by simpa [bytesA] using hbne) hi
    have hX0 := hw _ _ hr.get
    have hk1 := (Keep.refl (ex := []) hw).alloc (.cells (ints [0, 0, 0, 0]) .own)
    have hg1 := Heap.get_alloc h (.cells (ints [0, 0, 0, 0]) .own)
    have hal := al65 (h := h)
    generalize h.alloc (.cells (ints [0, 0, 0, 0]) .own) = g1 at hk1 hg1 hal
    generalize hY : h.next = Y at hg1 hal
    have hr1 := hr.keep hk1 (by simp) (by simp)
    have l0 : loadA Try.prog g1 30 ⟨X, 0⟩ = some bv := load_cell a30 hr1.get rfl
    have hd0 : b.drop 0 = be2 id ++ (be2 fl ++ (be2s cs ++ rest)) := by rw [List.drop_zero, hd]; simp [be2s_cons]
    obtain ⟨g2, t2, hr2, hk2, hd2⟩ := rtwo_ok O hk1.wf hr1 hid hd0
    have hca2 : callA (callT ov Try.prog) Try.prog g1 34 [.ptr (some ⟨X, 0⟩)] = _ := t2
    obtain ⟨g3, t3, hr3, hk3, hd3⟩ := rtwo_ok O hk2.wf hr2 hfl hd2
    have hca3 : callA (callT ov Try.prog) Try.prog g2 34 [.ptr (some ⟨X, 0⟩)] = _ := t3
    have hXY : X ≠ Y := by omega
    have hXY' : ¬ X = Y := hXY
    have hYX' : ¬ Y = X := fun hh => hXY hh.symm
    have hgY : g3.get Y = some (.cells (ints [0, 0, 0, 0]) .own) := hk3.get _ _ (hk2.get _ _ hg1 (by simp [hXY', hYX'])) (by simp [hXY', hYX'])
    have hkg3 : Keep [X] h g3 := ((hk1.more (by simp)).trans hk2).trans hk3
    repeat apply WP.seq
    apply WP.region; simp [hl, hal]
    repeat apply WP.seq
    apply WP.region; simp [hl, h0, fa64, l0, hlen, hcmp, hfl2]
    repeat apply WP.seq
    apply WP.region; simp [hl, h0, hca2, hca3]
    repeat apply WP.seq
    apply WP.region; simp [hl]
    repeat apply WP.seq
    refine WP.mono (K := fun o e g => o = .normal ∧ e.length = 28 ∧ nth e 2 = .int .i64 id ∧ nth e 3 = .int .i64 fl ∧ nth e 4 = .ptr (some ⟨Y, 0⟩) ∧ g.get Y = some (.cells (ints cs) .own) ∧ Rd g X bv b 12 ∧ Keep [X] h g) ?_ ?_
    · apply WP.block
      refine WP.loop (fun m e g => e.length = 28 ∧ nth e 0 = .ptr (some ⟨X, 0⟩) ∧ nth e 2 = .int .i64 id ∧ nth e 3 = .int .i64 fl ∧ nth e 4 = .ptr (some ⟨Y, 0⟩) ∧ Keep [X] h g ∧ ∃ i, i ≤ 4 ∧ m = 4 - i ∧ nth e 17 = .int .i64 (i : Nat) ∧ g.get Y = some (.cells (ints (fill4 cs i)) .own) ∧ Rd g X bv b (4 + 2 * i) ∧ b.drop (4 + 2 * i) = be2s (cs.drop i) ++ rest) ?_ 4 _ _ ?_
      · rintro m e g ⟨hl, h0, h2, h3, h4', hkg, i, hi, rfl, h17, hgY, hrg, hdg⟩
        repeat apply WP.seq
        apply WP.region; simp [hl, h17]
        repeat apply WP.seq
        apply WP.cond (by simp [hl]; rfl)
        · intro hlt
          have hlt2 : (i : Int) < 4 := by simpa using hlt
          have hlt : i < 4 := by omega
          apply WP.skip; simp
          repeat apply WP.seq
          apply WP.block
          obtain ⟨c, hc⟩ : ∃ c, cs[i]? = some c := ⟨cs[i]'(by omega), by simp [h4, hlt]⟩
          have hdr : cs.drop i = c :: cs.drop (i + 1) := drop_cons hc
          rw [hdr, be2s_cons, List.append_assoc] at hdg
          obtain ⟨g5, t5, hr5, hk5, hd5⟩ := rtwo_ok O hkg.wf hrg (hcs c (List.mem_of_getElem? hc)) hdg
          have hca5 : callA (callT ov Try.prog) Try.prog g 34 [.ptr (some ⟨X, 0⟩)] = _ := t5
          have hgY5 : g5.get Y = some (.cells (ints (fill4 cs i)) .own) := hk5.get _ _ hgY (by simp [hXY', hYX'])
          have hst := store_cell (h := g5) (t := 3) (v := .int .i64 c) s3 rfl rfl hgY5 (by simp) (o := i) (by rw [ints_length, fill4_length h4 hi]; exact hlt)
          rw [ints_set, fill4_set h4 hlt hc] at hst
          have hY5 := hk5.wf _ _ hgY5
          have hk6 := (Keep.refl (ex := [Y]) hk5.wf).set (i := Y) (.cells (ints (fill4 cs (i + 1))) .own) hY5 (.inl (by simp))
          have hgY6 := Heap.get_set g5 Y (.cells (ints (fill4 cs (i + 1))) .own)
          generalize g5.set Y (.cells (ints (fill4 cs (i + 1))) .own) = g6 at hst hk6 hgY6
          have hr6 := hr5.keep hk6 (by simp [hXY', hYX']) (fun j hj hm => by have := hbvl j hj; have := List.mem_singleton.1 hm; omega)
          repeat apply WP.seq
          apply WP.region; simp [hl, h17]
          repeat apply WP.seq
          have hia := ia65 (l := ⟨Y, 0⟩) hlt
          simp only [Nat.zero_add] at hia
          apply WP.region; simp [hl, h0, h4', hca5, hia, storeR_ptr hst]
          repeat apply WP.seq
          apply WP.region; simp [hl, h17, int_wrap (show i < 9223372036854775807 by omega)]
          exact ⟨4 - (i + 1), by omega, by simp [h0], by simp [h2], by simp [h3], by simp [h4'], (hkg.trans hk5).into hk6 (by intro j hj; have := List.mem_singleton.1 hj; exact .inr (by omega)), i + 1, by omega, rfl, by simp, hgY6, by rw [show 4 + 2 * (i + 1) = 4 + 2 * i + 2 by omega]; exact hr6, by rw [show 4 + 2 * (i + 1) = 4 + 2 * i + 2 by omega]; exact hd5⟩
        · intro hge
          have hge : ¬ (i : Int) < 4 := by simpa using hge
          have hi4 : i = 4 := by omega
          subst hi4
          apply WP.exit; simp
          have hf : fill4 cs 4 = cs := by unfold fill4; rw [List.take_of_length_le (by omega)]; simp
          rw [hf] at hgY
          exact ⟨by simp [hl], by simp [h2], by simp [h3], by simp [h4'], hgY, hrg, hkg⟩
      · exact ⟨by simp [hl], by simp [hl, h0], by simp [hl], by simp [hl], by simp [hl], hkg3, 0, by omega, by omega, by simp [hl], by simpa [fill4] using hgY, hr3, by simpa using hd3⟩
    rintro o e g ⟨rfl, hl, h2, h3, h4', hgY, hrg, hkg⟩
    simp
    have lw := load_whole (P := Try.prog) (h := g) a65 s65 hgY (by rw [ints_length, h4])
    have hst := store_whole (P := Try.prog) (h := g) s65 hgY (by rw [ints_length, h4]) (by rw [ints_length, h4]) ints_ok
    have hYg := hkg.wf _ _ hgY
    have hk6 := (Keep.refl (ex := [Y]) hkg.wf).set (i := Y) (.cells (ints cs) .own) hYg (.inl (by simp))
    have hgY6 := Heap.get_set g Y (.cells (ints cs) .own)
    generalize g.set Y (.cells (ints cs) .own) = g6 at hst hk6 hgY6
    have hr6 := hrg.keep hk6 (by simp [hXY', hYX']) (fun j hj hm => by have := hbvl j hj; have := List.mem_singleton.1 hm; omega)
    have lw6 := load_whole (P := Try.prog) (h := g6) a65 s65 hgY6 (by rw [ints_length, h4])
    repeat apply WP.seq
    apply WP.draw (by kernel_rfl) (by kernel_rfl)
    simp [hl, h2, h3, h4', lw, storeR_ptr hst]
    apply WP.ret
    simp [hl, h4', resultsA, resultA, single, lw6]
    exact ⟨hr6, hkg.into hk6 (by intro j hj; have := List.mem_singleton.1 hj; exact .inr (by omega))⟩
  obtain ⟨_, h', h1, rfl, h2⟩ := main
  exact ⟨h', h1, h2⟩
end
end Go.Am

set_option linter.unusedSimpArgs false
namespace Go.Am
open Go.RowKit Go.Proofs

theorem bin_shr11 {h : Heap} {n : Int} {xo yo : Operand} : binA Try.prog h .shr 3 xo yo (.int .i64 n) (.int .u64 11) = some (.int .i64 (n / 2048)) := by
  simp [binA, shiftA, IntKind.bits, Int.fdiv_eq_ediv_of_nonneg]
theorem conv3_23 {h : Heap} {x : Int} {k : IntKind} (hx : u16In x) : convertA Try.prog h 3 23 (.int k x) = some (.int .u16 x, h) := by
  have h3 : IntKind.wrap .u16 x = x := by
    have := hx.1; have := hx.2
    simp only [IntKind.wrap, IntKind.bits, IntKind.signed]
    simp
    omega
  simp [convertA, u23, u3, h3]
theorem build26 {l : Option Loc} {n : Nat} {c : Cap} {a : Int} {w : Bool} : buildA Try.prog 26 [(1, .int .i64 a), (2, .bool w), (3, .slice l n c)] = some (.agg [.int .u16 0, .int .i64 a, .bool w, .slice l n c, .int .u16 0, .int .u16 0]) := by kernel_rfl

section
variable {ov : CallF}
set_option maxHeartbeats 1000000 in
theorem query_ok (O : DOv ov) {h : Heap} (hw : Wf h) {X : Nat} {bv : AV} {b rest : List UInt8} {p : Nat} {ls : List (List UInt8)} {fl ty cl : Int} (hfl : Small fl) (hty : u16In ty) (hcl : u16In cl) (hls : Named ls) (hr : Rd h X bv b p) (hd : b.drop p = encName ls ++ (be2 ty ++ (be2 cl ++ rest))) :
    ∃ lv h', callT ov Try.prog 31 [.ptr (some ⟨X, 0⟩), .int .i64 fl] h = some (.ret (.agg [.int .u16 0, .int .i64 (andI (fl / 2048) 15), .bool (andI fl 256 != 0), lv, .int .u16 ty, .int .u16 cl]) h') ∧ Sl h' lv (strs ls) ∧ (∀ i, idOf lv = some i → h.next ≤ i ∧ i < h'.next) ∧ Rd h' X bv b (p + nameLen ls + 4) ∧ Keep [X] h h' ∧ b.drop (p + nameLen ls + 4) = rest := by
  have main : ∃ u h', callT ov Try.prog 31 [.ptr (some ⟨X, 0⟩), .int .i64 fl] h = some (.ret u h') ∧ ∃ lv, u = .agg [.int .u16 0, .int .i64 (andI (fl / 2048) 15), .bool (andI fl 256 != 0), lv, .int .u16 ty, .int .u16 cl] ∧ Sl h' lv (strs ls) ∧ (∀ i, idOf lv = some i → h.next ≤ i ∧ i < h'.next) ∧ Rd h' X bv b (p + nameLen ls + 4) ∧ Keep [X] h h' := by
    refine callT_wp (fn := Try.f31) (O 31 (by decide) (by decide) (by decide) _ _) (by kernel_rfl) rfl ?_
    have hl : (frameA Try.f31 [.ptr (some ⟨X, 0⟩), .int .i64 fl]).length = 24 := frameA_length (Nat.le_of_ble_eq_true rfl)
    have h0 : nth (frameA Try.f31 [.ptr (some ⟨X, 0⟩), .int .i64 fl]) 0 = .ptr (some ⟨X, 0⟩) := frameA_nth (Nat.le_of_ble_eq_true rfl)
    have h1 : nth (frameA Try.f31 [.ptr (some ⟨X, 0⟩), .int .i64 fl]) 1 = .int .i64 fl := frameA_nth (Nat.le_of_ble_eq_true rfl)
    generalize frameA Try.f31 [.ptr (some ⟨X, 0⟩), .int .i64 fl] = e at hl h0 h1
    have hbne : b ≠ [] := by
      rintro rfl
      have : ([] : List UInt8) = encName ls ++ (be2 ty ++ (be2 cl ++ rest)) := by simpa using hd
      simp [encName, be2] at this
    have hbvl : ∀ i, idOf bv = some i → i < h.next := fun i hi => hr.sl.lt hw (by simpa [bytesA] using hbne) hi
    have hX0 := hw _ _ hr.get
    have hk1 := (Keep.refl (ex := []) hw).alloc (.cells [.int .u16 0, .int .i64 0, .bool false, .slice none 0 (.exact 0), .int .u16 0, .int .u16 0] .own)
    have hg1 := Heap.get_alloc h (.cells [.int .u16 0, .int .i64 0, .bool false, .slice none 0 (.exact 0), .int .u16 0, .int .u16 0] .own)
    have hal := al26 (h := h)
    generalize h.alloc (.cells [.int .u16 0, .int .i64 0, .bool false, .slice none 0 (.exact 0), .int .u16 0, .int .u16 0] .own) = g1 at hk1 hg1 hal
    generalize hY : h.next = Y at hg1 hal
    have hr1 := hr.keep hk1 (by simp) (by simp)
    obtain ⟨lv, g2, t2, hacc2, hr2, hk2⟩ := rname_ok O hk1.wf hr1 (pt := false) (q := p + nameLen ls) (ls := ls) (.here ⟨⟨_, hd⟩, hls⟩ rfl)
    have hca2 : callA (callT ov Try.prog) Try.prog g1 35 [.ptr (some ⟨X, 0⟩), .bool false] = _ := t2
    obtain ⟨ll, lc, hlve⟩ := hacc2.sl.slice
    have hd2 : b.drop (p + nameLen ls) = be2 ty ++ (be2 cl ++ rest) := by
      have := (drop_part (s := encName ls) hd).2.2
      rw [encName_length] at this
      exact this
    have hsh : Small (fl / 2048) := ⟨Int.ediv_nonneg hfl.1 (by omega), by have := hfl.2; have := hfl.1; omega⟩
    have e1 : ∀ (xo yo : Operand) (h : Heap), binA Try.prog h .and 3 xo yo (.int .i64 (fl / 2048)) (.int .i64 15) = _ := fun _ _ _ => bin_and hsh ⟨by omega, by omega⟩
    have e2 : ∀ (xo yo : Operand) (h : Heap), binA Try.prog h .and 3 xo yo (.int .i64 fl) (.int .i64 256) = _ := fun _ _ _ => bin_and hfl ⟨by omega, by omega⟩
    have hqv := build26 (l := ll) (n := (strs ls).length) (c := lc) (a := andI (fl / 2048) 15) (w := andI fl 256 != 0)
    rw [← hlve] at hqv
    obtain ⟨g3, g4, hv⟩ := var_of (h := g2) (t := 26) (n := 6) (ds := [.int .u16 0, .int .i64 (andI (fl / 2048) 15), .bool (andI fl 256 != 0), lv, .int .u16 0, .int .u16 0]) hk2.wf al26 s26 rfl rfl (by rw [hlve]; rfl)
    have hYg2 : g2.get Y = some (.cells [.int .u16 0, .int .i64 0, .bool false, .slice none 0 (.exact 0), .int .u16 0, .int .u16 0] .own) := hk2.get _ _ hg1 (by simp; omega)
    have hYlt := hk2.wf _ _ hYg2
    have hvk := hv.keep
    have hva := hv.al
    have hvs := hv.st
    have hvg := hv.get
    have hXl := hk2.wf _ _ hr2.get
    have hXD : g2.next ≠ X := by omega
    have hYD : g2.next ≠ Y := by omega
    have hbD : ∀ i, idOf bv = some i → i ≠ g2.next := fun i hi hh => by have := hbvl i hi; have := hk1.le; have := hk2.le; omega
    have hlvD : ∀ i, idOf lv = some i → i ≠ g2.next ∧ h.next ≤ i ∧ i ≠ Y := fun i hi => by
      have h3 := hacc2.id hi
      have h4 := hacc2.lt hk2.wf hi
      have h5 := hk1.wf _ _ hg1
      have := hk1.le
      exact ⟨by omega, by omega, by omega⟩
    generalize hDe : g2.next = D at hva hvs hvg hXD hYD hbD hlvD
    have hr4 := hr2.keep hvk (by simp) (by simp)
    obtain ⟨g5, t5, hr5, hk5, hd5⟩ := rtwo_ok O hvk.wf hr4 hty hd2
    have hca5 : callA (callT ov Try.prog) Try.prog g4 34 [.ptr (some ⟨X, 0⟩)] = _ := t5
    have hvg5 := hk5.get _ _ hvg (by simpa using hXD)
    have hst6 := store_cell (h := g5) (t := 23) (v := .int .u16 ty) s23 rfl rfl hvg5 (by simp) (o := 4) (by simp)
    simp only [List.set_cons_succ, List.set_cons_zero] at hst6
    have hk6 := (Keep.refl (ex := [D]) hk5.wf).set (i := D) (.cells [.int .u16 0, .int .i64 (andI (fl / 2048) 15), .bool (andI fl 256 != 0), lv, .int .u16 ty, .int .u16 0] .own) (hk5.wf _ _ hvg5) (.inl (by simp))
    have hvg6 := Heap.get_set g5 D (.cells [.int .u16 0, .int .i64 (andI (fl / 2048) 15), .bool (andI fl 256 != 0), lv, .int .u16 ty, .int .u16 0] .own)
    generalize g5.set D (.cells [.int .u16 0, .int .i64 (andI (fl / 2048) 15), .bool (andI fl 256 != 0), lv, .int .u16 ty, .int .u16 0] .own) = g6 at hst6 hk6 hvg6
    have hXnD : X ∉ [D] := by simp; exact fun hh => hXD hh.symm
    have hbnD : ∀ i, idOf bv = some i → i ∉ [D] := fun i hi hm => hbD i hi (List.mem_singleton.1 hm)
    have hr6 := hr5.keep hk6 hXnD hbnD
    obtain ⟨g7, t7, hr7, hk7, hd7⟩ := rtwo_ok O hk6.wf hr6 hcl hd5
    have hca7 : callA (callT ov Try.prog) Try.prog g6 34 [.ptr (some ⟨X, 0⟩)] = _ := t7
    have hvg7 := hk7.get _ _ hvg6 (by simpa using hXD)
    have hst8 := store_cell (h := g7) (t := 23) (v := .int .u16 cl) s23 rfl rfl hvg7 (by simp) (o := 5) (by simp)
    simp only [List.set_cons_succ, List.set_cons_zero] at hst8
    have hk8 := (Keep.refl (ex := [D]) hk7.wf).set (i := D) (.cells [.int .u16 0, .int .i64 (andI (fl / 2048) 15), .bool (andI fl 256 != 0), lv, .int .u16 ty, .int .u16 cl] .own) (hk7.wf _ _ hvg7) (.inl (by simp))
    have hvg8 := Heap.get_set g7 D (.cells [.int .u16 0, .int .i64 (andI (fl / 2048) 15), .bool (andI fl 256 != 0), lv, .int .u16 ty, .int .u16 cl] .own)
    generalize g7.set D (.cells [.int .u16 0, .int .i64 (andI (fl / 2048) 15), .bool (andI fl 256 != 0), lv, .int .u16 ty, .int .u16 cl] .own) = g8 at hst8 hk8 hvg8
    have hr8 := hr7.keep hk8 hXnD hbnD
    have hXY : X ≠ Y := by omega
    have hYnX : Y ∉ [X] := by simp; exact fun hh => hXY hh.symm
    have hYnD : Y ∉ [D] := by simp; exact fun hh => hYD hh.symm
    have hY8 := hk8.get _ _ (hk7.get _ _ (hk6.get _ _ (hk5.get _ _ (hvk.get _ _ hYg2 (by simp)) hYnX) hYnD) hYnX) hYnD
    have lw := load_whole (P := Try.prog) (h := g8) a26 s26 hvg8 rfl
    have hst9 := store_whole (P := Try.prog) (h := g8) s26 hY8 rfl (ds := [.int .u16 0, .int .i64 (andI (fl / 2048) 15), .bool (andI fl 256 != 0), lv, .int .u16 ty, .int .u16 cl]) rfl (by rw [hlve]; rfl)
    have hk9 := (Keep.refl (ex := [Y]) hk8.wf).set (i := Y) (.cells [.int .u16 0, .int .i64 (andI (fl / 2048) 15), .bool (andI fl 256 != 0), lv, .int .u16 ty, .int .u16 cl] .own) (hk8.wf _ _ hY8) (.inl (by simp))
    have hY9 := Heap.get_set g8 Y (.cells [.int .u16 0, .int .i64 (andI (fl / 2048) 15), .bool (andI fl 256 != 0), lv, .int .u16 ty, .int .u16 cl] .own)
    generalize g8.set Y (.cells [.int .u16 0, .int .i64 (andI (fl / 2048) 15), .bool (andI fl 256 != 0), lv, .int .u16 ty, .int .u16 cl] .own) = g9 at hst9 hk9 hY9
    have lw9 := load_whole (P := Try.prog) (h := g9) a26 s26 hY9 rfl
    have hr9 := hr8.keep hk9 (by simp; omega) (fun i hi hm => by have := hbvl i hi; have := List.mem_singleton.1 hm; omega)
    have hlX : ∀ i, idOf lv = some i → i ∉ [X] := fun i hi hm => by have := (hlvD i hi).2.1; have := List.mem_singleton.1 hm; omega
    have hlD : ∀ i, idOf lv = some i → i ∉ [D] := fun i hi hm => (hlvD i hi).1 (List.mem_singleton.1 hm)
    have hlY : ∀ i, idOf lv = some i → i ∉ [Y] := fun i hi hm => (hlvD i hi).2.2 (List.mem_singleton.1 hm)
    have hsl9 : Sl g9 lv (strs ls) := (((((hacc2.sl.keep hvk (by simp)).keep hk5 hlX).keep hk6 hlD).keep hk7 hlX).keep hk8 hlD).keep hk9 hlY
    have hgD : h.next ≤ g2.next := by have := hk1.le; have := hk2.le; omega
    have hin : ∀ i ∈ [D], i ∈ [X] ∨ h.next ≤ i := fun i hi => .inr (by have := List.mem_singleton.1 hi; omega)
    have hinY : ∀ i ∈ [Y], i ∈ [X] ∨ h.next ≤ i := fun i hi => .inr (by have := List.mem_singleton.1 hi; omega)
    have hK : Keep [X] h g9 := (((((((hk1.more (by simp)).trans hk2).trans (hvk.more (by simp))).trans hk5).into hk6 hin).trans hk7).into hk8 hin).into hk9 hinY
    repeat apply WP.seq
    apply WP.region; simp [hl, hal]
    repeat apply WP.seq
    apply WP.region; simp [hl, h0, h1, bin_shr11, e1, e2, hca2, hqv, hva, storeR_ptr hvs]
    repeat apply WP.seq
    apply WP.region; simp [hl, h0, hca5, conv3_23 hty, fa26, storeR_ptr hst6]
    repeat apply WP.seq
    apply WP.region; simp [hl, h0, hca7, conv3_23 hcl, fa26, storeR_ptr hst8]
    repeat apply WP.seq
    apply WP.region; simp [hl, lw, storeR_ptr hst9]
    apply WP.ret
    simp [hl, resultsA, resultA, single, lw9]
    exact ⟨hsl9, fun i hi => ⟨by have := (hlvD i hi).2.1; omega, by have := hacc2.lt hk2.wf hi; have := hvk.le; have := hk5.le; have := hk6.le; have := hk7.le; have := hk8.le; have := hk9.le; omega⟩, hr9, hK⟩
  obtain ⟨_, h', h1, lv, rfl, h2, h3, h4, h5⟩ := main
  refine ⟨lv, h', h1, h2, h3, h4, h5, ?_⟩
  have h6 := (drop_part (s := encName ls) hd).2.2
  rw [encName_length] at h6
  have h7 := (drop_part (s := be2 ty) h6).2.2
  have h8 := (drop_part (s := be2 cl) h7).2.2
  exact h8
end
end Go.Am

set_option linter.unusedSimpArgs false
namespace Go.Am
open Go.RowKit Go.Proofs

theorem bin_sneq {h : Heap} {t : TypeId} {xo yo : Operand} {a b : List UInt8} : binA Try.prog h .neq t xo yo (.str a) (.str b) = some (.bool (!(a == b))) := rfl
theorem op_sap {call : CallF} {P : Program} {e : List AV} {h : Heap} {t : TypeId} {x : Operand} : opA call P e h (.sliceToArrayPointer t x) = toRet (withH h (arrayAtA P t (evalA P e x))) := rfl
theorem Sl.arr {P : Program} {h : Heap} {v : AV} {xs : List AV} (hs : Sl h v xs) {t el : TypeId} {n : Nat} (hu : P.underlying t = some (.array n el)) (hn : xs.length = n) (h0 : 0 < n) (hsz : sizeA P t = some n) (ha : aggA P t = some true) :
    ∃ l, arrayAtA P t v = some (.ptr (some l)) ∧ loadA P h t l = some (.agg xs) := by
  match v, hs with
  | .slice none m c, hs => obtain ⟨_, rfl⟩ := hs; simp at hn; omega
  | .slice (some l) m c, hs =>
    obtain ⟨⟨h1, _⟩, h2 | ⟨cs, k, hg, hle, hd⟩⟩ := hs
    · omega
    · have : m = n := by omega
      subst this
      obtain ⟨j, rfl⟩ : ∃ j, m = j + 1 := ⟨m - 1, by omega⟩
      refine ⟨l, ?_, ?_⟩
      · simp only [arrayAtA, hu, (ble_iff _ _).2 (Nat.le_refl _), cond_true]
      · have := load_agg (P := P) ha hsz (h := h) (i := l.id) (o := l.off) hg hle
        rw [hd] at this
        exact this
/-- A field is set. -/
theorem field_set {g : Heap} (hw : Wf g) {D : Nat} {cs : List AV} (hg : g.get D = some (.cells cs .own)) {t : TypeId} (hs : sizeA Try.prog t = some 1) {v : AV} (hc : cellsA v = some [v]) (hok : cellOk v = true) {o : Nat} (ho : o < cs.length) :
    ∃ g', storeA Try.prog g t ⟨D, o⟩ v = some g' ∧ g'.get D = some (.cells (cs.set o v) .own) ∧ Keep [D] g g' :=
  ⟨_, store_cell hs hc hok hg (by simp) ho, Heap.get_set _ _ _, (Keep.refl hw).set _ (hw _ _ hg) (.inl (by simp))⟩
/-- All of a block is set. -/
theorem whole_set {g : Heap} (hw : Wf g) {D : Nat} {cs ds : List AV} {n : Nat} (hg : g.get D = some (.cells cs .own)) {t : TypeId} (hs : sizeA Try.prog t = some n) (h1 : cs.length = n) (h2 : ds.length = n) (hok : cellsOk ds = true) :
    ∃ g', storeA Try.prog g t ⟨D, 0⟩ (.agg ds) = some g' ∧ g'.get D = some (.cells ds .own) ∧ Keep [D] g g' :=
  ⟨_, store_whole hs hg h1 h2 hok, Heap.get_set _ _ _, (Keep.refl hw).set _ (hw _ _ hg) (.inl (by simp))⟩
theorem store_addr {g : Heap} (hw : Wf g) {D : Nat} {x0 x1 y0 y1 y2 y3 x6 x7 : AV} (hg : g.get D = some (.cells [x0, x1, y0, y1, y2, y3, x6, x7] .own)) {a0 a1 a2 a3 : UInt8} :
    ∃ g', storeA Try.prog g 40 ⟨D, 2⟩ (.agg [byteA a0, byteA a1, byteA a2, byteA a3]) = some g' ∧ g'.get D = some (.cells [x0, x1, byteA a0, byteA a1, byteA a2, byteA a3, x6, x7] .own) ∧ Keep [D] g g' := by
  refine ⟨g.set D (.cells [x0, x1, byteA a0, byteA a1, byteA a2, byteA a3, x6, x7] .own), ?_, Heap.get_set _ _ _, (Keep.refl hw).set _ (hw _ _ hg) (.inl (by simp))⟩
  simp only [storeA, s40, cellsA, writeA, hg]
  rfl

theorem conv3_39 {h : Heap} {x : Int} {k : IntKind} (hx : u16In x) : convertA Try.prog h 3 39 (.int k x) = some (.int .u32 x, h) := by
  have h3 : IntKind.wrap .u32 x = x := by
    have := hx.1; have := hx.2
    simp only [IntKind.wrap, IntKind.bits, IntKind.signed]
    simp
    omega
  simp [convertA, u39, u3, h3]
theorem shl16 {h : Heap} {x : Int} {xo yo : Operand} (hx : u16In x) : binA Try.prog h .shl 39 xo yo (.int .u32 x) (.int .u64 16) = some (.int .u32 (x * 65536)) := by
  have h3 : IntKind.wrap .u32 (x * 65536) = x * 65536 := by
    have := hx.1; have := hx.2
    simp only [IntKind.wrap, IntKind.bits, IntKind.signed]
    simp
    omega
  simp [binA, shiftA, IntKind.bits, h3]
theorem ttl_val {h : Heap} {t : Int} {xo yo : Operand} (ht : u32In t) : binA Try.prog h .or 39 xo yo (.int .u32 (t / 65536 * 65536)) (.int .u32 (t % 65536)) = some (.int .u32 t) := by
  obtain ⟨h1, h2⟩ := ht
  have he : binA Try.prog h .or 39 xo yo (.int .u32 (t / 65536 * 65536)) (.int .u32 (t % 65536)) = some (.int .u32 (IntKind.wrap .u32 ((BitVec.ofInt 32 (t / 65536 * 65536) ||| BitVec.ofInt 32 (t % 65536)).toNat : Nat))) := rfl
  obtain ⟨n, rfl⟩ := Int.eq_ofNat_of_zero_le h1
  have e1 : (BitVec.ofInt 32 ((n : Int) / 65536 * 65536)).toNat = n / 65536 * 65536 := by rw [BitVec.toNat_ofInt]; omega
  have e2 : (BitVec.ofInt 32 ((n : Int) % 65536)).toNat = n % 65536 := by rw [BitVec.toNat_ofInt]; omega
  have e3 : n / 65536 * 65536 ||| n % 65536 = n := by
    have := Nat.shiftLeft_add_eq_or_of_lt (b := n % 65536) (i := 16) (by omega) (n / 65536)
    rw [Nat.shiftLeft_eq] at this
    rw [show (65536 : Nat) = 2 ^ 16 from rfl]
    rw [show (65536 : Nat) = 2 ^ 16 from rfl] at this
    rw [← this]
    omega
  rw [he, BitVec.toNat_or, e1, e2, e3]
  have h3 : IntKind.wrap .u32 (n : Int) = n := by
    simp only [IntKind.wrap, IntKind.bits, IntKind.signed]
    simp
    omega
  rw [h3]

section
variable {ov : CallF}
theorem equal_ok (O : DOv ov) {h : Heap} {v w : AV} {ls : List (List UInt8)} (hv : Sl h v (strs ls)) (hw : Sl h w (strs ls)) (hn : ls.length ≤ 100000000) :
    callT ov Try.prog 36 [v, w] h = some (.ret (.bool true) h) := by
  have main : ∃ u g, callT ov Try.prog 36 [v, w] h = some (.ret u g) ∧ u = .bool true ∧ g = h := by
    refine callT_wp (fn := Try.f36) (O 36 (by decide) (by decide) (by decide) _ _) (by kernel_rfl) rfl ?_
    have hl : (frameA Try.f36 [v, w]).length = 26 := frameA_length (Nat.le_of_ble_eq_true rfl)
    have h0 : nth (frameA Try.f36 [v, w]) 0 = v := frameA_nth (Nat.le_of_ble_eq_true rfl)
    have h1 : nth (frameA Try.f36 [v, w]) 1 = w := frameA_nth (Nat.le_of_ble_eq_true rfl)
    generalize frameA Try.f36 [v, w] = e at hl h0 h1
    have hlv := hv.len u24
    have hlw := hw.len u24
    rw [strs_length] at hlv hlw
    repeat apply WP.seq
    apply WP.region; simp [hl]
    repeat apply WP.seq
    apply WP.region; simp [hl, h0, h1, hlv, hlw]
    repeat apply WP.seq
    apply WP.cond (t := false) (by simp [hl]) (by simp)
    intro _
    apply WP.skip; simp
    repeat apply WP.seq
    apply WP.region; simp [hl, h0, hlv]
    repeat apply WP.seq
    apply WP.block
    refine WP.loop (fun m e g => g = h ∧ e.length = 26 ∧ nth e 0 = v ∧ nth e 1 = w ∧ nth e 12 = .int .i64 ls.length ∧ ∃ i, i ≤ ls.length ∧ m = ls.length - i ∧ nth e 13 = .int .i64 (i : Nat)) ?_ ls.length _ _ ?_
    · rintro m e g ⟨rfl, hl, h0, h1, h12, i, hi, rfl, h13⟩
      repeat apply WP.seq
      apply WP.region; simp [hl, h12, h13]
      repeat apply WP.seq
      apply WP.cond (by simp [hl]; rfl)
      · intro hlt
        have hlt : i < ls.length := by simpa using hlt
        apply WP.skip; simp
        repeat apply WP.seq
        apply WP.block
        obtain ⟨x, hx⟩ : ∃ x, ls[i]? = some x := ⟨ls[i], by simp [hlt]⟩
        obtain ⟨l1, x1, y1, _⟩ := hv.at u24 s9 a9 (strs_get hx) (k := .i64)
        obtain ⟨l2, x2, y2, _⟩ := hw.at u24 s9 a9 (strs_get hx) (k := .i64)
        repeat apply WP.seq
        apply WP.region; simp [hl, h13]
        repeat apply WP.seq
        apply WP.draw (by kernel_rfl) (by kernel_rfl)
        simp [hl, h0, h1, x1, y1, x2, y2, bin_sneq]
        apply WP.cond (t := false) (by simp [hl]) (by simp)
        intro _
        apply WP.skip; simp
        apply WP.region; simp [hl, h13, int_wrap (show i < 9223372036854775807 by omega)]
        exact ⟨ls.length - (i + 1), by omega, by simp [h0], by simp [h1], by simp [h12], i + 1, by omega, rfl, by simp⟩
      · intro hge
        have hge : ¬ i < ls.length := by simpa using hge
        apply WP.exit; simp
        repeat apply WP.seq
        apply WP.region; simp [hl]
        apply WP.ret
        simp [hl, resultsA, resultA, single]
    · exact ⟨rfl, by simp [hl], by simp [hl, h0], by simp [hl, h1], by simp [hl], 0, by omega, by omega, by simp [hl]⟩
  obtain ⟨_, _, h1, rfl, rfl⟩ := main
  exact h1
theorem sametexts_ok (O : DOv ov) {h : Heap} {v w : AV} {ls : List (List UInt8)} (hv : Sl h v (strs ls)) (hw : Sl h w (strs ls)) (hn : ls.length ≤ 100000000) :
    callT ov Try.prog 33 [v, w] h = some (.ret (.bool true) h) := by
  have main : ∃ u g, callT ov Try.prog 33 [v, w] h = some (.ret u g) ∧ u = .bool true ∧ g = h := by
    refine callT_wp (fn := Try.f33) (O 33 (by decide) (by decide) (by decide) _ _) (by kernel_rfl) rfl ?_
    have hl : (frameA Try.f33 [v, w]).length = 26 := frameA_length (Nat.le_of_ble_eq_true rfl)
    have h0 : nth (frameA Try.f33 [v, w]) 0 = v := frameA_nth (Nat.le_of_ble_eq_true rfl)
    have h1 : nth (frameA Try.f33 [v, w]) 1 = w := frameA_nth (Nat.le_of_ble_eq_true rfl)
    generalize frameA Try.f33 [v, w] = e at hl h0 h1
    have hlv := hv.len u24
    have hlw := hw.len u24
    rw [strs_length] at hlv hlw
    repeat apply WP.seq
    apply WP.region; simp [hl]
    repeat apply WP.seq
    apply WP.region; simp [hl, h0, h1, hlv, hlw]
    repeat apply WP.seq
    apply WP.cond (t := false) (by simp [hl]) (by simp)
    intro _
    apply WP.skip; simp
    repeat apply WP.seq
    apply WP.region; simp [hl]
    repeat apply WP.seq
    apply WP.block
    refine WP.loop (fun m e g => g = h ∧ e.length = 26 ∧ nth e 0 = v ∧ nth e 1 = w ∧ ∃ i, i ≤ ls.length ∧ m = ls.length - i ∧ nth e 5 = .int .i64 (i : Nat)) ?_ ls.length _ _ ?_
    · rintro m e g ⟨rfl, hl, h0, h1, i, hi, rfl, h5⟩
      repeat apply WP.seq
      apply WP.region; simp [hl, h0, h5, hlv]
      repeat apply WP.seq
      apply WP.cond (by simp [hl]; rfl)
      · intro hlt
        have hlt : i < ls.length := by simpa using hlt
        apply WP.skip; simp
        repeat apply WP.seq
        apply WP.block
        obtain ⟨x, hx⟩ : ∃ x, ls[i]? = some x := ⟨ls[i], by simp [hlt]⟩
        obtain ⟨l1, x1, y1, _⟩ := hv.at u24 s9 a9 (strs_get hx) (k := .i64)
        obtain ⟨l2, x2, y2, _⟩ := hw.at u24 s9 a9 (strs_get hx) (k := .i64)
        repeat apply WP.seq
        apply WP.draw (by kernel_rfl) (by kernel_rfl)
        simp [hl, h0, h1, h5, x1, y1, x2, y2, bin_sneq]
        apply WP.cond (t := false) (by simp [hl]) (by simp)
        intro _
        apply WP.skip; simp
        apply WP.region; simp [hl, h5, int_wrap (show i < 9223372036854775807 by omega)]
        exact ⟨ls.length - (i + 1), by omega, by simp [h0], by simp [h1], i + 1, by omega, rfl, by simp⟩
      · intro hge
        have hge : ¬ i < ls.length := by simpa using hge
        apply WP.exit; simp
        repeat apply WP.seq
        apply WP.region; simp [hl]
        apply WP.ret
        simp [hl, resultsA, resultA, single]
    · exact ⟨rfl, by simp [hl], by simp [hl, h0], by simp [hl, h1], 0, by omega, by omega, by simp [hl]⟩
  obtain ⟨_, _, h1, rfl, rfl⟩ := main
  exact h1
end
end Go.Am

set_option linter.unusedSimpArgs false
namespace Go.Am
open Go.RowKit Go.Proofs
attribute [simp] op_sap

/-- Where the reading of a record stands. -/
structure RS (h : Heap) (X Y D : Nat) (bv : AV) (b : List UInt8) (g : Heap) (p : Nat) (cs : List AV) : Prop where
  rd : Rd g X bv b p
  d : g.get D = some (.cells cs .own)
  y : ∃ zs, g.get Y = some (.cells zs .own) ∧ zs.length = 8
  keep : Keep [X] h g
structure RC (h : Heap) (X Y D : Nat) (bv : AV) : Prop where
  x : X < h.next
  y : h.next ≤ Y
  d : h.next ≤ D
  yd : Y ≠ D
  bv : ∀ i, idOf bv = some i → i < h.next
section
variable {ov : CallF} {h g : Heap} {X Y D : Nat} {bv : AV} {b : List UInt8} {p : Nat} {cs : List AV}
theorem RS.two (O : DOv ov) (C : RC h X Y D bv) (S : RS h X Y D bv b g p cs) {n : Int} (hn : u16In n) {rest : List UInt8} (hd : b.drop p = be2 n ++ rest) :
    ∃ g', callT ov Try.prog 34 [.ptr (some ⟨X, 0⟩)] g = some (.ret (.int .i64 n) g') ∧ RS h X Y D bv b g' (p + 2) cs ∧ Keep [X] g g' ∧ b.drop (p + 2) = rest := by
  obtain ⟨g', h1, h2, h3, h4⟩ := rtwo_ok O S.keep.wf S.rd hn hd
  have hx := C.x; have hy := C.y; have hd := C.d
  obtain ⟨zs, hz, hzl⟩ := S.y
  exact ⟨g', h1, ⟨h2, h3.get _ _ S.d (by simp; omega), ⟨zs, h3.get _ _ hz (by simp; omega), hzl⟩, S.keep.trans h3⟩, h3, h4⟩
theorem RS.upd (C : RC h X Y D bv) (S : RS h X Y D bv b g p cs) {g' : Heap} {cs' : List AV} (hd : g'.get D = some (.cells cs' .own)) (hk : Keep [D] g g') : RS h X Y D bv b g' p cs' := by
  have hx := C.x; have hy := C.y; have hd' := C.d; have hyd := C.yd
  obtain ⟨zs, hz, hzl⟩ := S.y
  refine ⟨S.rd.keep hk (by simp; omega) (fun i hi hm => by have := C.bv i hi; have := List.mem_singleton.1 hm; omega), hd, ⟨zs, hk.get _ _ hz (by simpa using hyd), hzl⟩, S.keep.into hk (fun i hi => .inr (by have := List.mem_singleton.1 hi; omega))⟩
theorem RS.set (C : RC h X Y D bv) (S : RS h X Y D bv b g p cs) {t : TypeId} (hs : sizeA Try.prog t = some 1) {v : AV} (hc : cellsA v = some [v]) (hok : cellOk v = true) {o : Nat} (ho : o < cs.length) :
    ∃ g', storeA Try.prog g t ⟨D, o⟩ v = some g' ∧ RS h X Y D bv b g' p (cs.set o v) ∧ Keep [D] g g' := by
  obtain ⟨g', h1, h2, h3⟩ := field_set S.keep.wf S.d hs hc hok ho
  exact ⟨g', h1, S.upd C h2 h3, h3⟩
theorem RS.at_ (S : RS h X Y D bv b g p cs) : loadA Try.prog g 3 ⟨X, 1⟩ = some (.int .i64 (p : Nat)) := load_cell a3 S.rd.get rfl
theorem RS.b_ (S : RS h X Y D bv b g p cs) : loadA Try.prog g 30 ⟨X, 0⟩ = some bv := load_cell a30 S.rd.get rfl

theorem RS.take (O : DOv ov) (C : RC h X Y D bv) (S : RS h X Y D bv b g p cs) {s rest : List UInt8} (hd : b.drop p = s ++ rest) (hne : s ≠ []) :
    ∃ v g', callT ov Try.prog 37 [.ptr (some ⟨X, 0⟩), .int .i64 (s.length : Nat)] g = some (.ret v g') ∧ Sl g' v (bytesA s) ∧ idOf v = idOf bv ∧ RS h X Y D bv b g' (p + s.length) cs ∧ Keep [X] g g' := by
  obtain ⟨v, g', h1, h2, h3, h4, h5⟩ := take_ok O S.keep.wf S.rd hd hne
  have hx := C.x; have hy := C.y; have hd := C.d
  obtain ⟨zs, hz, hzl⟩ := S.y
  exact ⟨v, g', h1, h2, h3, ⟨h4, h5.get _ _ S.d (by simp; omega), ⟨zs, h5.get _ _ hz (by simp; omega), hzl⟩, S.keep.trans h5⟩, h5⟩
theorem RS.name (O : DOv ov) (C : RC h X Y D bv) (S : RS h X Y D bv b g p cs) {pt : Bool} {q : Nat} {ls : List (List UInt8)} (hn : NamedAt b p ls pt q) :
    ∃ v g', callT ov Try.prog 35 [.ptr (some ⟨X, 0⟩), .bool pt] g = some (.ret v g') ∧ Acc g.next g' v (strs ls) ∧ RS h X Y D bv b g' q cs ∧ Keep [X] g g' := by
  obtain ⟨v, g', h1, h2, h4, h5⟩ := rname_ok O S.keep.wf S.rd hn
  have hx := C.x; have hy := C.y; have hd := C.d
  obtain ⟨zs, hz, hzl⟩ := S.y
  exact ⟨v, g', h1, h2, ⟨h4, h5.get _ _ S.d (by simp; omega), ⟨zs, h5.get _ _ hz (by simp; omega), hzl⟩, S.keep.trans h5⟩, h5⟩
/-- The end: what is read is handed out. -/
theorem RS.out (C : RC h X Y D bv) (S : RS h X Y D bv b g p cs) (hn : cs.length = 8) (hok : cellsOk cs = true) :
    ∃ g', loadA Try.prog g 42 ⟨D, 0⟩ = some (.agg cs) ∧ storeA Try.prog g 42 ⟨Y, 0⟩ (.agg cs) = some g' ∧ loadA Try.prog g' 42 ⟨Y, 0⟩ = some (.agg cs) ∧ Rd g' X bv b p ∧ Keep [Y] g g' ∧ Keep [X] h g' := by
  obtain ⟨zs, hz, hzl⟩ := S.y
  obtain ⟨g', h1, h2, h3⟩ := whole_set S.keep.wf hz s42 hzl hn hok
  have hx := C.x; have hy := C.y; have hd := C.d
  exact ⟨g', load_whole a42 s42 S.d hn, h1, load_whole a42 s42 h2 hn, S.rd.keep h3 (by simp; omega) (fun i hi hm => by have := C.bv i hi; have := List.mem_singleton.1 hm; omega), h3, S.keep.into h3 (fun i hi => .inr (by have := List.mem_singleton.1 hi; omega))⟩

/-- What is read of a record that was written. -/
def Rec.norm (x : Rec) : Rec := if x.ty = 1 then { x with port := 0, target := [] } else { x with a0 := 0, a1 := 0, a2 := 0, a3 := 0 }
theorem build42 {t : Int} : buildA Try.prog 42 [(0, .int .u16 t)] = some (.agg [.int .u16 t, .int .u32 0, byteA 0, byteA 0, byteA 0, byteA 0, .int .u16 0, .slice none 0 (.exact 0)]) := by kernel_rfl

set_option maxHeartbeats 4000000 in
theorem rrecord_ok (O : DOv ov) (hw : Wf h) {rest : List UInt8} {x : Rec} (hx : x.Ok) {nv : AV} {ls : List (List UInt8)} (hnv : Sl h nv (strs ls)) (hnX : ∀ i, idOf nv = some i → i ≠ X) (hna : NameAt b 12 ls) (hp : 12 < p) (hr : Rd h X bv b p) (hd : b.drop p = x.bytes ++ rest) :
    ∃ tv h', callT ov Try.prog 32 [.ptr (some ⟨X, 0⟩), nv] h = some (.ret (.agg (x.norm.cells tv)) h') ∧ Sl h' tv (strs x.norm.target) ∧ (∀ i, idOf tv = some i → h.next ≤ i ∧ i < h'.next) ∧ Rd h' X bv b (p + x.bytes.length) ∧ Keep [X] h h' := by
  have main : ∃ u h', callT ov Try.prog 32 [.ptr (some ⟨X, 0⟩), nv] h = some (.ret u h') ∧ ∃ tv, u = .agg (x.norm.cells tv) ∧ Sl h' tv (strs x.norm.target) ∧ (∀ i, idOf tv = some i → h.next ≤ i ∧ i < h'.next) ∧ Rd h' X bv b (p + x.bytes.length) ∧ Keep [X] h h' := by
    refine callT_wp (fn := Try.f32) (O 32 (by decide) (by decide) (by decide) _ _) (by kernel_rfl) rfl ?_
    have hl : (frameA Try.f32 [.ptr (some ⟨X, 0⟩), nv]).length = 114 := frameA_length (Nat.le_of_ble_eq_true rfl)
    have h0 : nth (frameA Try.f32 [.ptr (some ⟨X, 0⟩), nv]) 0 = .ptr (some ⟨X, 0⟩) := frameA_nth (Nat.le_of_ble_eq_true rfl)
    have h1 : nth (frameA Try.f32 [.ptr (some ⟨X, 0⟩), nv]) 1 = nv := frameA_nth (Nat.le_of_ble_eq_true rfl)
    generalize frameA Try.f32 [.ptr (some ⟨X, 0⟩), nv] = e at hl h0 h1
    have hbytes : b.drop p = be2 49164 ++ (be2 x.ty ++ (be2 1 ++ (be2 (x.ttl / 65536) ++ (be2 (x.ttl % 65536) ++ (be2 (x.data.length : Nat) ++ (x.data ++ rest)))))) := by
      rw [hd]; simp [Rec.bytes, Rec.head, be2s]
    have hxl := Rec.bytes_length x
    have hdl := Rec.data_length hx
    have hple : p + x.bytes.length ≤ b.length := (drop_part hd).2.1 (by intro hh; have h3 : x.bytes.length = 0 := (by rw [hh]; rfl); omega)
    have hbne : b ≠ [] := by rintro rfl; simp at hple; omega
    have hbvl : ∀ i, idOf bv = some i → i < h.next := fun i hi => hr.sl.lt hw (by simpa [bytesA] using hbne) hi
    have hX0 := hw _ _ hr.get
    have hbn := hr.n
    have hlsn : ls.length ≤ 255 := by have := labels_le ls; have := hna.ok.2; have h2 := encName_length ls; simp [encName] at h2; omega
    have hfl : ∀ h x, callA (callT ov Try.prog) Try.prog h 30 [.bool false, x] = _ := fun h x => fail_ok O h x
    have hlen : ∀ h, lenA Try.prog h 30 bv = some (.int .i64 (b.length : Nat)) := fun h => by
      obtain ⟨l, c, hv⟩ := hr.sl.slice
      rw [hv]; simp [lenA, u30, bytesA_length]
    have hty : u16In x.ty := by rcases hx.ty with h | h <;> simp [u16In, h]
    have htt := hx.ttl
    have hhi : u16In (x.ttl / 65536) := ⟨Int.ediv_nonneg htt.1 (by omega), by have := htt.2; have := htt.1; omega⟩
    have hlo : u16In (x.ttl % 65536) := ⟨Int.emod_nonneg _ (by omega), by omega⟩
    -- the variable for what comes out
    have hk1 := (Keep.refl (ex := []) hw).alloc (.cells [.int .u16 0, .int .u32 0, .int .u8 0, .int .u8 0, .int .u8 0, .int .u8 0, .int .u16 0, .slice none 0 (.exact 0)] .own)
    have hg1 := Heap.get_alloc h (.cells [.int .u16 0, .int .u32 0, .int .u8 0, .int .u8 0, .int .u8 0, .int .u8 0, .int .u16 0, .slice none 0 (.exact 0)] .own)
    have hal := al42 (h := h)
    generalize h.alloc (.cells [.int .u16 0, .int .u32 0, .int .u8 0, .int .u8 0, .int .u8 0, .int .u8 0, .int .u16 0, .slice none 0 (.exact 0)] .own) = g1 at hk1 hg1 hal
    generalize hY : h.next = Y at hg1 hal
    have hr1 := hr.keep hk1 (by simp) (by simp)
    obtain ⟨lv, g2, t2, hacc2, hr2, hk2⟩ := rname_ok O hk1.wf hr1 (pt := true) (q := p + 2) (ls := ls) (.there rfl _ hbytes hp hna rfl)
    have hca2 : callA (callT ov Try.prog) Try.prog g1 35 [.ptr (some ⟨X, 0⟩), .bool true] = _ := t2
    have hd2 := (drop_part hbytes).2.2
    have hnv2 : Sl g2 nv (strs ls) := (hnv.keep hk1 (by simp)).keep hk2 (fun i hi hm => hnX i hi (List.mem_singleton.1 hm))
    have heq := equal_ok O hacc2.sl hnv2 (by omega)
    have hcaE : callA (callT ov Try.prog) Try.prog g2 36 [lv, nv] = _ := heq
    have l2a : loadA Try.prog g2 3 ⟨X, 1⟩ = some (.int .i64 ((p + 2 : Nat) : Int)) := load_cell a3 hr2.get rfl
    have l2b : loadA Try.prog g2 30 ⟨X, 0⟩ = some bv := load_cell a30 hr2.get rfl
    have w10 : IntKind.wrap .i64 ((p : Int) + 2 + 10) = (p : Int) + 12 := by rw [wrap_small (by omega) (by omega)]; omega
    have c10 : ¬ ((b.length : Int) < (p : Int) + 12) := by omega
    obtain ⟨g3, t3, hr3, hk3, hd3⟩ := rtwo_ok O hk2.wf hr2 hty hd2
    have hca3 : callA (callT ov Try.prog) Try.prog g2 34 [.ptr (some ⟨X, 0⟩)] = _ := t3
    obtain ⟨g4, g5, hv⟩ := var_of (h := g3) (t := 42) (n := 8) (ds := [.int .u16 x.ty, .int .u32 0, byteA 0, byteA 0, byteA 0, byteA 0, .int .u16 0, .slice none 0 (.exact 0)]) hk3.wf al42 s42 rfl rfl rfl
    have hva := hv.al
    have hvs := hv.st
    have hYX : Y ≠ X := by omega
    have hYg3 : g3.get Y = some _ := hk3.get _ _ (hk2.get _ _ hg1 (by simpa using hYX)) (by simpa using hYX)
    have hY3 := hk3.wf _ _ hYg3
    have hle3 : h.next ≤ g3.next := by have := hk1.le; have := hk2.le; have := hk3.le; omega
    have S5 : RS h X Y g3.next bv b g5 (p + 2 + 2) [.int .u16 x.ty, .int .u32 0, byteA 0, byteA 0, byteA 0, byteA 0, .int .u16 0, .slice none 0 (.exact 0)] :=
      ⟨hr3.keep hv.keep (by simp) (by simp), hv.get, ⟨_, hv.keep.get _ _ hYg3 (by simp), rfl⟩, (((hk1.more (by simp)).trans hk2).trans hk3).trans (hv.keep.more (by simp))⟩
    have C : RC h X Y g3.next bv := ⟨hX0, by omega, hle3, by omega, hbvl⟩
    generalize hDe : g3.next = D at hva hvs S5 C
    obtain ⟨g6, t6, S6, hk6, hd6⟩ := S5.two O C (n := 1) ⟨by omega, by omega⟩ hd3
    have hca6 : callA (callT ov Try.prog) Try.prog g5 34 [.ptr (some ⟨X, 0⟩)] = _ := t6
    have f6 : loadA Try.prog g6 23 ⟨D, 0⟩ = some (.int .u16 x.ty) := load_cell a23 S6.d rfl
    obtain ⟨g7, t7, S7, hk7, hd7⟩ := S6.two O C hhi hd6
    have hca7 : callA (callT ov Try.prog) Try.prog g6 34 [.ptr (some ⟨X, 0⟩)] = _ := t7
    obtain ⟨g8, t8, S8, hk8, hd8⟩ := S7.two O C hlo hd7
    have hca8 : callA (callT ov Try.prog) Try.prog g7 34 [.ptr (some ⟨X, 0⟩)] = _ := t8
    obtain ⟨g9, st9, S9, hk9⟩ := S8.set C (t := 39) s39 (v := .int .u32 x.ttl) rfl rfl (o := 1) (by simp)
    simp only [List.set_cons_succ, List.set_cons_zero] at S9
    obtain ⟨g10, t10, S10, hk10, hd10⟩ := S9.two O C (n := (x.data.length : Nat)) ⟨by omega, by omega⟩ hd8
    have hca10 : callA (callT ov Try.prog) Try.prog g9 34 [.ptr (some ⟨X, 0⟩)] = _ := t10
    obtain ⟨P, hP⟩ : ∃ P, P = p + 2 + 2 + 2 + 2 + 2 + 2 := ⟨_, rfl⟩
    obtain ⟨E, hE⟩ : ∃ E, E = p + x.bytes.length := ⟨_, rfl⟩
    rw [← hP] at S10 hd10
    rw [← hE] at hple
    have a10 := S10.at_
    have b10 := S10.b_
    have wend : IntKind.wrap .i64 ((P : Int) + (x.data.length : Nat)) = (E : Int) := by rw [wrap_small (by omega) (by omega)]; omega
    have cend : ¬ ((b.length : Int) < (E : Int)) := by omega
    have hPE : E = P + x.data.length := by omega
    have f10 : loadA Try.prog g10 23 ⟨D, 0⟩ = some (.int .u16 x.ty) := load_cell a23 S10.d rfl
    repeat apply WP.seq
    apply WP.region; simp [hl, hal]
    repeat apply WP.seq
    apply WP.region; simp [hl, h0, h1, hca2, hcaE, hfl]
    repeat apply WP.seq
    apply WP.draw (by kernel_rfl) (by kernel_rfl)
    simp [hl, h0, fa64, l2a, l2b, hlen, w10, c10, hfl]
    repeat apply WP.seq
    apply WP.region; simp [hl, h0, hca3, conv3_23 hty, build42, hva, storeR_ptr hvs]
    repeat apply WP.seq
    apply WP.region; simp [hl, h0, hca6]
    repeat apply WP.seq
    refine WP.mono (K := fun o e g => o = .normal ∧ g = g6 ∧ e.length = 114 ∧ nth e 0 = .ptr (some ⟨X, 0⟩) ∧ nth e 4 = .ptr (some ⟨Y, 0⟩) ∧ nth e 5 = .ptr (some ⟨D, 0⟩)) ?_ ?_
    · apply WP.region
      rcases hx.ty with ht | ht
      · rw [ht] at f6
        simp [hl, h0, fa42, f6, guardA, hfl]
      · rw [ht] at f6
        simp [hl, h0, fa42, f6, guardA, hfl]
    rintro o e g ⟨rfl, rfl, hl, h0, h4, h5⟩
    simp
    repeat apply WP.seq
    apply WP.region; simp [hl, h0, h5, hca7, hca8, conv3_39 hhi, conv3_39 hlo, shl16 hhi, ttl_val htt, fa42, storeR_ptr st9]
    repeat apply WP.seq
    apply WP.region; simp [hl, h0, hca10]
    repeat apply WP.seq
    refine (?_ : ∀ e : List AV, e.length = 114 → nth e 0 = .ptr (some ⟨X, 0⟩) → nth e 4 = .ptr (some ⟨Y, 0⟩) → nth e 5 = .ptr (some ⟨D, 0⟩) → nth e 7 = .int .i64 (x.data.length : Nat) → WP ov Try.prog _ e g10 _) _ (by simp [hl]) (by simp [hl, h0]) (by simp [hl, h4]) (by simp [hl, h5]) (by simp [hl])
    clear hl h0 h4 h5
    intro e hl h0 h4 h5 h7
    have wend2 := wend
    apply WP.region; simp [hl, h0, h7, fa64, a10, wend]
    repeat apply WP.seq
    apply WP.region; simp [hl, h0, fa64, b10, hlen, cend, hfl]
    repeat apply WP.seq
    apply WP.region; simp [hl, h5, fa42, f10]
    repeat apply WP.seq
    apply WP.cond (by simp [hl]; rfl)
    · intro hc
      have ht : x.ty = 1 := by simpa using hc
      have hdata : x.data = x.addr := by simp [Rec.data, ht]
      have hd4 : x.data.length = 4 := by rw [hdata]; rfl
      obtain ⟨v11, g11, t11, s11, i11, S11, k11⟩ := S10.take O C (s := x.data) hd10 (by intro hh; rw [hh] at hd4; simp at hd4)
      rw [← hPE] at S11
      rw [hd4] at t11
      have hca11 : callA (callT ov Try.prog) Try.prog g10 37 [.ptr (some ⟨X, 0⟩), .int .i64 4] = _ := t11
      rw [hdata] at s11
      obtain ⟨l11, x11, y11⟩ := s11.arr (P := Try.prog) (t := 40) (el := 5) (n := 4) (by kernel_rfl) rfl (by omega) s40 a40
      have y11 : loadA Try.prog g11 40 l11 = some (.agg [byteA x.a0, byteA x.a1, byteA x.a2, byteA x.a3]) := y11
      obtain ⟨g12, st12, d12, k12⟩ := store_addr S11.keep.wf S11.d (a0 := x.a0) (a1 := x.a1) (a2 := x.a2) (a3 := x.a3)
      have S12 := S11.upd C d12 k12
      obtain ⟨g13, ld13, st13, o13, r13, _, k13⟩ := S12.out C rfl rfl
      repeat apply WP.seq
      apply WP.region; simp [hl, h7, hd4, hfl]
      repeat apply WP.seq
      apply WP.region; simp [hl, h0, h5, hca11, x11, loadR_ptr, y11, fa42, storeR_ptr st12]
      repeat apply WP.seq
      apply WP.region; simp [hl, h4, h5, ld13, storeR_ptr st13]
      apply WP.ret
      simp [hl, h4, resultsA, resultA, single, o13]
      refine ⟨.slice none 0 (.exact 0), by simp [Rec.norm, ht, Rec.cells], by simp [Rec.norm, ht, strs]; exact ⟨rfl, rfl⟩, by simp [idOf], by rw [← hE]; exact r13, k13⟩
    · intro hc
      have ht : x.ty ≠ 1 := by simpa using hc
      have ht33 := hx.ty.resolve_left ht
      have hnm := hx.target ht33
      have hdata : x.data = be2s [1, 1, x.port] ++ encName x.target := by simp [Rec.data, ht]
      have hdl2 : x.data.length = 6 + nameLen x.target := by rw [hdata, List.length_append, be2s_length, encName_length]; rfl
      have hd10' : b.drop P = be2 1 ++ (be2 1 ++ (be2 x.port ++ (encName x.target ++ rest))) := by rw [hd10, hdata]; simp [be2s]
      have c6 : ¬ ((x.data.length : Int) < 6) := by omega
      obtain ⟨g11, t11, S11, k11, hd11⟩ := S10.two O C (n := 1) ⟨by omega, by omega⟩ hd10'
      have hca11 : callA (callT ov Try.prog) Try.prog g10 34 [.ptr (some ⟨X, 0⟩)] = _ := t11
      obtain ⟨g12, t12, S12, k12, hd12⟩ := S11.two O C (n := 1) ⟨by omega, by omega⟩ hd11
      have hca12 : callA (callT ov Try.prog) Try.prog g11 34 [.ptr (some ⟨X, 0⟩)] = _ := t12
      obtain ⟨g13, t13, S13, k13, hd13⟩ := S12.two O C hx.port hd12
      have hca13 : callA (callT ov Try.prog) Try.prog g12 34 [.ptr (some ⟨X, 0⟩)] = _ := t13
      obtain ⟨g14, st14, S14, k14⟩ := S13.set C (t := 23) s23 (v := .int .u16 x.port) rfl rfl (o := 6) (by simp)
      simp only [List.set_cons_succ, List.set_cons_zero] at S14
      obtain ⟨tv, g15, t15, acc15, S15, k15⟩ := S14.name O C (pt := true) (q := P + 2 + 2 + 2 + nameLen x.target) (ls := x.target) (.here ⟨⟨_, hd13⟩, hnm⟩ rfl)
      have hca15 : callA (callT ov Try.prog) Try.prog g14 35 [.ptr (some ⟨X, 0⟩), .bool true] = _ := t15
      have hPE2 : P + 2 + 2 + 2 + nameLen x.target = E := by omega
      rw [hPE2] at S15
      obtain ⟨tl, tc, htve⟩ := acc15.sl.slice
      have htvo : cellOk tv = true := by rw [htve]; rfl
      have hD14 := S14.keep.wf _ _ S14.d
      obtain ⟨zs14, hz14, _⟩ := S14.y
      have hY14 := S14.keep.wf _ _ hz14
      obtain ⟨g16, st16, S16, k16⟩ := S15.set C (t := 24) s24 (v := tv) (by rw [htve]; rfl) htvo (o := 7) (by simp)
      simp only [List.set_cons_succ, List.set_cons_zero] at S16
      have a16 := S16.at_
      obtain ⟨g17, ld17, st17, o17, r17, k17, kk17⟩ := S16.out C rfl (by rw [htve]; rfl)
      have htv17 : Sl g17 tv (strs x.target) := (acc15.sl.keep k16 (fun i hi hm => by have := acc15.id hi; have := List.mem_singleton.1 hm; omega)).keep k17 (fun i hi hm => by have := acc15.id hi; have := List.mem_singleton.1 hm; omega)
      have hg14 : h.next ≤ g14.next := S14.keep.le
      apply WP.skip; simp
      repeat apply WP.seq
      apply WP.region; simp [hl, h7, c6, hfl]
      repeat apply WP.seq
      apply WP.region; simp [hl, h0, hca11, hca12]
      repeat apply WP.seq
      apply WP.region; simp [hl, guardA, hfl]
      repeat apply WP.seq
      apply WP.region; simp [hl, h0, h5, hca13, conv3_23 hx.port, fa42, storeR_ptr st14]
      repeat apply WP.seq
      refine WP.mono (K := fun o e g => o = .normal ∧ g = g16 ∧ e.length = 114 ∧ nth e 0 = .ptr (some ⟨X, 0⟩) ∧ nth e 4 = .ptr (some ⟨Y, 0⟩) ∧ nth e 5 = .ptr (some ⟨D, 0⟩) ∧ nth e 8 = .int .i64 (E : Nat)) ?_ ?_
      · apply WP.region; simp [hl, h0, h4, h5, hca15, fa42, storeR_ptr st16]
      clear hl h0 h4 h5
      rintro o e g ⟨rfl, rfl, hl, h0, h4, h5, h8⟩
      simp
      repeat apply WP.seq
      apply WP.region; simp [hl, h0, h8, fa64, a16, hfl]
      repeat apply WP.seq
      apply WP.region; simp [hl, h4, h5, ld17, storeR_ptr st17]
      apply WP.ret
      simp [hl, h4, resultsA, resultA, single, o17]
      refine ⟨tv, ?_, ?_, fun i hi => ⟨by have := acc15.id hi; omega, by have := acc15.lt S15.keep.wf hi; have := k16.le; have := k17.le; omega⟩, by rw [← hE]; exact r17, kk17⟩
      · simp [Rec.norm, ht, Rec.cells]
      · simpa [Rec.norm, ht] using htv17
  obtain ⟨_, h', h1, tv, rfl, h2⟩ := main
  exact ⟨tv, h', h1, h2⟩
end
end Go.Am

set_option linter.unusedSimpArgs false
namespace Go.Am
open Go.RowKit Go.Proofs

theorem caught_ok (call : CallF) (n : Nat) (h : Heap) (E : Nat) : leaveX (drawA Try.prog) call Try.prog n [⟨28, [.ptr (some ⟨E, 0⟩)], []⟩] h = some h := by kernel_rfl

def flagsOf (rc op : Nat) (w c : Bool) : Int := Qu.flags ⟨0, op, w, [], 0, 0⟩ (if c then orI (orI 33792 rc) 512 else orI 33792 rc)
def flagsOk (rc op : Nat) (w c : Bool) : Bool :=
  let F := flagsOf rc op w c
  decide (0 ≤ F) && decide (F < 65536) && decide (andI F 32768 ≠ 0) && decide (andI F 1024 ≠ 0) && decide (andI F 240 = 0) && decide (andI F 15 = rc) && decide ((andI F 512 != 0) = c) && decide (andI (F / 2048) 15 = op) && decide ((andI F 256 != 0) = w)
theorem flags_all : ((List.range 16).all fun rc => (List.range 16).all fun op => [true, false].all fun w => [true, false].all fun c => flagsOk rc op w c) = true := by kernel_rfl
structure FlagsAre (F rc op : Int) (w c : Bool) : Prop where
  u : u16In F
  qr : andI F 32768 ≠ 0
  aa : andI F 1024 ≠ 0
  z : andI F 240 = 0
  rc : andI F 15 = rc
  tc : (andI F 512 != 0) = c
  op : andI (F / 2048) 15 = op
  rd : (andI F 256 != 0) = w
theorem flags_are {q : Qu} (hq : 0 ≤ q.op ∧ q.op ≤ 15) {rc : Int} (hr : 0 ≤ rc ∧ rc ≤ 15) (c : Bool) : FlagsAre (q.flags (if c then orI (orI 33792 rc) 512 else orI 33792 rc)) rc q.op q.wish c := by
  obtain ⟨a, ha⟩ := Int.eq_ofNat_of_zero_le hr.1
  obtain ⟨b, hb⟩ := Int.eq_ofNat_of_zero_le hq.1
  have hF : q.flags (if c then orI (orI 33792 rc) 512 else orI 33792 rc) = flagsOf a b q.wish c := by
    simp only [flagsOf, Qu.flags, ha, hb]
  have h1 := List.all_eq_true.1 flags_all a (by simp; omega)
  have h2 := List.all_eq_true.1 h1 b (by simp; omega)
  have h3 := List.all_eq_true.1 h2 q.wish (by cases q.wish <;> simp)
  have h4 := List.all_eq_true.1 h3 c (by cases c <;> simp)
  simp only [flagsOk, Bool.and_eq_true, decide_eq_true_eq] at h4
  obtain ⟨⟨⟨⟨⟨⟨⟨⟨c1, c2⟩, c3⟩, c4⟩, c5⟩, c6⟩, c7⟩, c8⟩, c9⟩ := h4
  rw [hF, ha, hb]
  exact ⟨⟨c1, c2⟩, c3, c4, c5, c6, c7, c8, c9⟩
end Go.Am

set_option linter.unusedSimpArgs false
namespace Go.Am
open Go.RowKit Go.Proofs

theorem build64 {l : Option Loc} {n : Nat} {c : Cap} : buildA Try.prog 64 [(0, .slice l n c)] = some (.agg [.slice l n c, .int .i64 0]) := by kernel_rfl
theorem al31 {h : Heap} : allocA Try.prog h 31 = some (.ptr (some ⟨h.next, 0⟩), h.alloc (.cells [.int .i64 0] .own)) := by kernel_rfl
theorem room42 {n : Nat} (hn : n ≤ 100000000) : roomA Try.prog 42 n = true := room_of i42 (b := 40) (by kernel_rfl) (by omega) (by omega) (z := .agg #[.int .u16 0, .int .u32 0, .int .u8 0, .int .u8 0, .int .u8 0, .int .u8 0, .int .u16 0, .slice none 0 0]) (by kernel_rfl) (by kernel_rfl) (by kernel_rfl)
theorem b27_1 {h : Heap} {a b : Int} {x0 x1 x2 x3 : UInt8} {p : Int} {l : Option Loc} {n : Nat} {c : Cap} : buildSliceA Try.prog h 27 1 [(0, .agg [.int .u16 a, .int .u32 b, byteA x0, byteA x1, byteA x2, byteA x3, .int .u16 p, .slice l n c])] = some (.slice (some ⟨h.next, 0⟩) 1 (.exact 1), h.alloc (.cells [.int .u16 a, .int .u32 b, byteA x0, byteA x1, byteA x2, byteA x3, .int .u16 p, .slice l n c] .own)) := by kernel_rfl
theorem store_query {g : Heap} (hw : Wf g) {D : Nat} {q0 q1 q2 q3 q4 q5 x6 x7 x8 y0 y1 y2 y3 y4 y5 : AV} (hg : g.get D = some (.cells [q0, q1, q2, q3, q4, q5, x6, x7, x8] .own)) (hok : cellsOk [y0, y1, y2, y3, y4, y5] = true) :
    ∃ g', storeA Try.prog g 26 ⟨D, 0⟩ (.agg [y0, y1, y2, y3, y4, y5]) = some g' ∧ g'.get D = some (.cells [y0, y1, y2, y3, y4, y5, x6, x7, x8] .own) ∧ Keep [D] g g' := by
  refine ⟨g.set D (.cells [y0, y1, y2, y3, y4, y5, x6, x7, x8] .own), ?_, Heap.get_set _ _ _, (Keep.refl hw).set _ (hw _ _ hg) (.inl (by simp))⟩
  simp only [storeA, s26, cellsA, writeA, hg, hok]
  rfl
theorem one_row {h : Heap} {i : Nat} {cs : List AV} (hg : h.get i = some (.cells cs .own)) (hn : cs.length = 8) : Slr h 8 (.slice (some ⟨i, 0⟩) 1 (.exact 1)) [cs] :=
  ⟨by simp [hn], rfl, .inr ⟨cs, .own, hg, by simp [hn], by simp [← hn]⟩⟩

/-- Where the reading of a reply stands. -/
structure RR (h : Heap) (X Y E : Nat) (bv : AV) (b : List UInt8) (g : Heap) (p : Nat) (ys : List AV) : Prop where
  rd : Rd g X bv b p
  y : g.get Y = some (.cells ys .own)
  e : g.get E = some (.cells [.int .i64 0] .own)
  keep : Keep [] h g
structure RK (h : Heap) (X Y E : Nat) (bv : AV) : Prop where
  y : h.next ≤ Y
  e : h.next ≤ E
  x : h.next ≤ X
  ye : Y ≠ E
  xy : X ≠ Y
  xe : X ≠ E
  bv : ∀ i, idOf bv = some i → i < h.next

section
variable {h g : Heap} {X Y E : Nat} {bv : AV} {b : List UInt8} {p : Nat} {ys : List AV}
theorem RR.moved (C : RK h X Y E bv) (S : RR h X Y E bv b g p ys) {g' : Heap} {p' : Nat} (hr : Rd g' X bv b p') (hk : Keep [X] g g') : RR h X Y E bv b g' p' ys := by
  have h1 := C.xy; have h2 := C.xe; have h3 := C.x
  exact ⟨hr, hk.get _ _ S.y (by simp; omega), hk.get _ _ S.e (by simp; omega), S.keep.into hk (fun i hi => .inr (by have := List.mem_singleton.1 hi; omega))⟩
theorem RR.upd (C : RK h X Y E bv) (S : RR h X Y E bv b g p ys) {g' : Heap} {ys' : List AV} (hd : g'.get Y = some (.cells ys' .own)) (hk : Keep [Y] g g') : RR h X Y E bv b g' p ys' := by
  have h1 := C.xy; have h2 := C.ye; have h3 := C.y
  exact ⟨S.rd.keep hk (by simp; omega) (fun i hi hm => by have := C.bv i hi; have := List.mem_singleton.1 hm; omega), hd, hk.get _ _ S.e (by simp; omega), S.keep.into hk (fun i hi => .inr (by have := List.mem_singleton.1 hi; omega))⟩
theorem RR.more (S : RR h X Y E bv b g p ys) {g' : Heap} (hk : Keep [] g g') : RR h X Y E bv b g' p ys :=
  ⟨S.rd.keep hk (by simp) (by simp), hk.get _ _ S.y (by simp), hk.get _ _ S.e (by simp), S.keep.trans hk⟩
theorem RR.lose (C : RK h X Y E bv) (S : RR h X Y E bv b g p ys) {g' : Heap} {ex : List Nat} (hk : Keep ex g g') (hx : ∀ i ∈ ex, h.next ≤ i ∧ i ≠ X ∧ i ≠ Y ∧ i ≠ E) : RR h X Y E bv b g' p ys :=
  ⟨S.rd.keep hk (fun hm => (hx _ hm).2.1 rfl) (fun i hi hm => by have := C.bv i hi; have := (hx _ hm).1; omega), hk.get _ _ S.y (fun hm => (hx _ hm).2.2.1 rfl), hk.get _ _ S.e (fun hm => (hx _ hm).2.2.2 rfl), S.keep.into hk (fun i hi => .inr (hx i hi).1)⟩
theorem RR.set (C : RK h X Y E bv) (S : RR h X Y E bv b g p ys) {t : TypeId} (hs : sizeA Try.prog t = some 1) {v : AV} (hc : cellsA v = some [v]) (hok : cellOk v = true) {o : Nat} (ho : o < ys.length) :
    ∃ g', storeA Try.prog g t ⟨Y, o⟩ v = some g' ∧ RR h X Y E bv b g' p (ys.set o v) ∧ Keep [Y] g g' := by
  obtain ⟨g', h1, h2, h3⟩ := field_set S.keep.wf S.y hs hc hok ho
  exact ⟨g', h1, S.upd C h2 h3, h3⟩
end

theorem flatB_cons (x : Rec) (xs : List Rec) : flatB (x :: xs) = x.bytes ++ flatB xs := rfl

/-- What is read so far: records in memory, none of them where things still change. -/
def Aside (h : Heap) (X Y : Nat) (g : Heap) (rv v : AV) : Prop := ∀ j, idOf v = some j → h.next ≤ j ∧ X < j ∧ j ≠ Y ∧ j < g.next ∧ ∀ k, idOf rv = some k → j < k
structure Got (h : Heap) (X Y : Nat) (g : Heap) (lv rv : AV) (ls : List (List UInt8)) (ps : List (Rec × AV)) : Prop where
  rows : Accr h.next g 8 rv (ps.map fun p => p.1.cells p.2)
  tgt : ∀ p ∈ ps, Sl g p.2 (strs p.1.target) ∧ Aside h X Y g rv p.2
  lab : Sl g lv (strs ls) ∧ Aside h X Y g rv lv
  rv : ∀ k, idOf rv = some k → k ≠ X ∧ k ≠ Y ∧ X < k ∧ k < g.next
theorem Aside.keep {h : Heap} {X Y : Nat} {g g' : Heap} {rv v : AV} (ha : Aside h X Y g rv v) (hle : g.next ≤ g'.next) : Aside h X Y g' rv v := fun j hj => by
  obtain ⟨h1, h2, h3, h4, h5⟩ := ha j hj
  exact ⟨h1, h2, h3, by omega, h5⟩
theorem Got.keep {h : Heap} {X Y : Nat} {g g' : Heap} {lv rv : AV} {ls : List (List UInt8)} {ps : List (Rec × AV)} (G : Got h X Y g lv rv ls ps) {ex : List Nat} (hk : Keep ex g g') (hx : ∀ i ∈ ex, i = X ∨ i = Y) : Got h X Y g' lv rv ls ps where
  rows := by
    have hx2 : ∀ i, idOf rv = some i → i ∉ ex := fun i hi hm => by
      have h1 := G.rv i hi
      rcases hx i hm with h2 | h2
      · exact h1.1 h2
      · exact h1.2.1 h2
    refine ⟨G.rows.1, ?_⟩
    rcases G.rows.2 with ⟨h1, l, h2, h3⟩ | ⟨j, h1, h2, h3, hg⟩
    · refine .inl ⟨h1, l, h2, fun x hx' => ?_⟩
      obtain ⟨h4, h5, cs, h6⟩ := h3 x hx'
      exact ⟨h4, h5, cs, hk.get _ _ h6 (hx2 _ (by rw [h2, hx']; rfl))⟩
    · exact .inr ⟨j, h1, h2, h3, hk.get _ _ hg (hx2 _ (by rw [h3]; rfl))⟩
  tgt := fun p hp => ⟨(G.tgt p hp).1.keep hk (fun j hj hm => by
    have h1 := (G.tgt p hp).2 j hj
    rcases hx j hm with h2 | h2
    · omega
    · exact h1.2.2.1 h2), (G.tgt p hp).2.keep hk.le⟩
  lab := ⟨G.lab.1.keep hk (fun j hj hm => by
    have h1 := G.lab.2 j hj
    rcases hx j hm with h2 | h2
    · omega
    · exact h1.2.2.1 h2), G.lab.2.keep hk.le⟩
  rv := fun k hk' => by have := G.rv k hk'; have := hk.le; omega
/-- One more is read. -/
theorem Got.push {h : Heap} {X Y : Nat} {g g' : Heap} {lv rv rv' tv : AV} {ls : List (List UInt8)} {ps : List (Rec × AV)} (G : Got h X Y g lv rv ls ps) {x : Rec} (hk : Keep (idsOf rv) g g') (hrows : Accr h.next g' 8 rv' (ps.map (fun p => p.1.cells p.2) ++ [x.cells tv])) (hnew : ∀ k, idOf rv' = some k → g.next ≤ k)
    (hX : X < g.next) (hY : Y < g.next) (htv : Sl g tv (strs x.target)) (hta : ∀ j, idOf tv = some j → h.next ≤ j ∧ X < j ∧ j ≠ Y ∧ j < g.next ∧ j ∉ idsOf rv) : Got h X Y g' lv rv' ls (ps ++ [(x, tv)]) where
  rows := by simpa using hrows
  tgt := fun p hp => by
    rcases List.mem_append.1 hp with hp | hp
    · obtain ⟨h1, h2⟩ := G.tgt p hp
      refine ⟨h1.keep hk (fun j hj hm => by have := (h2 j hj).2.2.2.2 j (ids_mem hm); omega), fun j hj => ?_⟩
      obtain ⟨a1, a2, a3, a4, a5⟩ := h2 j hj
      exact ⟨a1, a2, a3, by have := hk.le; omega, fun k hk' => by have := hnew k hk'; omega⟩
    · rw [List.mem_singleton.1 hp]
      refine ⟨htv.keep hk (fun j hj hm => (hta j hj).2.2.2.2 hm), fun j hj => ?_⟩
      obtain ⟨a1, a2, a3, a4, a5⟩ := hta j hj
      exact ⟨a1, a2, a3, by have := hk.le; omega, fun k hk' => by have := hnew k hk'; omega⟩
  lab := by
    obtain ⟨h1, h2⟩ := G.lab
    refine ⟨h1.keep hk (fun j hj hm => by have := (h2 j hj).2.2.2.2 j (ids_mem hm); omega), fun j hj => ?_⟩
    obtain ⟨a1, a2, a3, a4, a5⟩ := h2 j hj
    exact ⟨a1, a2, a3, by have := hk.le; omega, fun k hk' => by have := hnew k hk'; omega⟩
  rv := fun k hk' => by have := hnew k hk'; have := hrows.lt hk.wf hk'; omega
theorem flatB_len (xs : List Rec) : 12 * xs.length ≤ (flatB xs).length := by
  induction xs with
  | nil => simp
  | cons x xs ih => rw [flatB_cons, List.length_append, Rec.bytes_length, List.length_cons]; omega
theorem wire_eq (r : Rep) (c : Nat) : r.wire c = be2s (r.q.id :: r.q.flags (r.flags c) :: [1, (c : Int), 0, 0]) ++ (encName r.q.labels ++ (be2 r.q.ty ++ (be2 r.q.cl ++ flatB (r.recs.take c)))) := by
  simp [Rep.wire, Qu.bytes, be2s]

section
variable {ov : CallF}
set_option maxHeartbeats 4000000 in
theorem read_ok (hov : CallsOk Try.prog ov) (O : DOv ov) {h : Heap} (hw : Wf h) {r : Rep} (hr : r.Ok) {c : Nat} (hc : c ≤ r.recs.length) (hlen : (r.wire c).length ≤ 65535) {bv : AV} (hs : Sl h bv (bytesA (r.wire c))) :
    ∃ res, CallOk Try.prog 18 [bv] h res ∧ ∃ h' lv rv ps, res = .ret (.tuple [.agg (Rep.cells ⟨r.q, r.rcode, r.cut || decide (c < r.recs.length), []⟩ lv rv), .int .i64 0]) h' ∧ Keep [] h h' ∧ Sl h' lv (strs r.q.labels) ∧ RecsAt h' rv ps ∧ ps.map Prod.fst = (r.recs.take c).map Rec.norm ∧ (∀ j, idOf lv = some j → h.next ≤ j) ∧ (∀ j, idOf rv = some j → h.next ≤ j) ∧ ∀ p ∈ ps, ∀ j, idOf p.2 = some j → h.next ≤ j := by
  have hl : (frameA Try.f18 [bv]).length = 85 := frameA_length (Nat.le_of_ble_eq_true rfl)
  have h0 : nth (frameA Try.f18 [bv]) 0 = bv := frameA_nth (Nat.le_of_ble_eq_true rfl)
  generalize hfr : frameA Try.f18 [bv] = e at hl h0
  -- what comes out
  have hk1 := (Keep.refl (ex := []) hw).alloc (.cells [.int .u16 0, .int .i64 0, .bool false, .slice none 0 (.exact 0), .int .u16 0, .int .u16 0, .int .i64 0, .bool false, .slice none 0 (.exact 0)] .own)
  have hg1 := Heap.get_alloc h (.cells [.int .u16 0, .int .i64 0, .bool false, .slice none 0 (.exact 0), .int .u16 0, .int .u16 0, .int .i64 0, .bool false, .slice none 0 (.exact 0)] .own)
  have hn1 := Heap.next_alloc h (.cells [.int .u16 0, .int .i64 0, .bool false, .slice none 0 (.exact 0), .int .u16 0, .int .u16 0, .int .i64 0, .bool false, .slice none 0 (.exact 0)] .own)
  have hal := al29 (h := h)
  generalize h.alloc (.cells [.int .u16 0, .int .i64 0, .bool false, .slice none 0 (.exact 0), .int .u16 0, .int .u16 0, .int .i64 0, .bool false, .slice none 0 (.exact 0)] .own) = g1 at hk1 hg1 hn1 hal
  have hk2 := (Keep.refl (ex := []) hk1.wf).alloc (.cells [.int .i64 0] .own)
  have hg2 := Heap.get_alloc g1 (.cells [.int .i64 0] .own)
  have hn2 := Heap.next_alloc g1 (.cells [.int .i64 0] .own)
  have hal2 := al31 (h := g1)
  generalize g1.alloc (.cells [.int .i64 0] .own) = g2 at hk2 hg2 hn2 hal2
  obtain ⟨Y, hY⟩ : ∃ Y, Y = h.next := ⟨_, rfl⟩
  obtain ⟨E, hE⟩ : ∃ E, E = g1.next := ⟨_, rfl⟩
  rw [← hY] at hg1 hal
  rw [← hE] at hg2 hal2
  have hr0 : W (fun o e' h' => o = .normal ∧ e'.length = 85 ∧ nth e' 0 = bv ∧ nth e' 2 = .ptr (some ⟨Y, 0⟩) ∧ nth e' 3 = .ptr (some ⟨E, 0⟩) ∧ h' = g2) (opsA (callT ov Try.prog) Try.prog (match Try.f18.body with | some (.seq (.region _ o _) _) => o | _ => #[]) (match Try.f18.body with | some (.seq (.region _ o _) _) => o | _ => #[]).toList e h) := by
    simp [Try.f18, hl, h0, hal, hal2]
  obtain ⟨e1, hx0, hl, h0, h2, h3⟩ : ∃ e1, opsA (callT ov Try.prog) Try.prog (match Try.f18.body with | some (.seq (.region _ o _) _) => o | _ => #[]) (match Try.f18.body with | some (.seq (.region _ o _) _) => o | _ => #[]).toList e h = some (.normal, e1, g2) ∧ e1.length = 85 ∧ nth e1 0 = bv ∧ nth e1 2 = .ptr (some ⟨Y, 0⟩) ∧ nth e1 3 = .ptr (some ⟨E, 0⟩) := by
    generalize opsA (callT ov Try.prog) Try.prog (match Try.f18.body with | some (.seq (.region _ o _) _) => o | _ => #[]) (match Try.f18.body with | some (.seq (.region _ o _) _) => o | _ => #[]).toList e h = x at hr0
    match x, hr0 with
    | some (o, e', h'), hr0 =>
      rw [W_some] at hr0
      obtain ⟨rfl, a1, a2, a3, a4, rfl⟩ := hr0
      exact ⟨e', rfl, a1, a2, a3, a4⟩
    | none, hr0 => unfold W at hr0; exact hr0.elim
  refine call_defer (h1 := g2) (h2 := g2) (e1 := e1) (e2 := e1) (ds := [⟨28, [.ptr (some ⟨E, 0⟩)], []⟩]) fns_ok mixed_ok hov (f := 18) (fn := Try.f18) (by kernel_rfl) rfl (by rw [hfr]; exact hx0) (by simp [opsD, wantedA, evals, evalA, putA, h3]) ?_
  clear hr0 hx0 hfr
  -- the bytes
  have hq := hr.q
  have HF : FlagsAre (r.q.flags (r.flags c)) r.rcode r.q.op r.q.wish (r.cut || decide (c < r.recs.length)) := flags_are hq.op hr.rc (r.cut || decide (c < r.recs.length))
  have hwire := wire_eq r c
  have hfb := flatB_len (r.recs.take c)
  rw [List.length_take, Nat.min_eq_left hc] at hfb
  have hcb : c < 65536 := by
    have : (flatB (r.recs.take c)).length ≤ (r.wire c).length := by rw [hwire]; simp; omega
    omega
  have hxs : ∀ x ∈ r.recs.take c, x.Ok := fun x hx => hr.recs x (List.mem_of_mem_take hx)
  have hxl : (r.recs.take c).length = c := by rw [List.length_take, Nat.min_eq_left hc]
  generalize hF : r.q.flags (r.flags c) = F at HF hwire
  generalize hcut : (r.cut || decide (c < r.recs.length)) = cut at HF ⊢
  generalize hxse : r.recs.take c = xs at hfb hxs hxl hwire ⊢
  generalize hbe : r.wire c = b at hs hlen hwire
  have hb1 : 1 ≤ b.length := by rw [hwire]; simp [be2s, be2]
  have hbvl : ∀ i, idOf bv = some i → i < h.next := fun i hi => hs.lt hw (by intro hh; have h5 : (bytesA b).length = 0 := (by rw [hh]; rfl); rw [bytesA_length] at h5; omega) hi
  have hna : NameAt b 12 r.q.labels := by
    refine ⟨⟨be2 r.q.ty ++ (be2 r.q.cl ++ flatB xs), ?_⟩, hq.labels⟩
    have h5 : (be2s (r.q.id :: F :: [1, (c : Int), 0, 0])).length = 12 := be2s_length _
    rw [hwire, List.drop_left' h5]
  have hd12 : b.drop 12 = encName r.q.labels ++ (be2 r.q.ty ++ (be2 r.q.cl ++ flatB xs)) := by
    have h5 : (be2s (r.q.id :: F :: [1, (c : Int), 0, 0])).length = 12 := be2s_length _
    rw [hwire, List.drop_left' h5]
  have hblen : b.length = 12 + nameLen r.q.labels + 4 + (flatB xs).length := by
    have h5 : (be2s (r.q.id :: F :: [1, (c : Int), 0, 0])).length = 12 := be2s_length _
    rw [hwire, List.length_append, h5, List.length_append, encName_length]
    simp [be2]; omega
  -- the reader
  have hs2 : Sl g2 bv (bytesA b) := (hs.keep hk1 (by simp)).keep hk2 (by simp)
  obtain ⟨bl, bc, hbve⟩ := hs2.slice
  have hb64 := build64 (l := bl) (n := (bytesA b).length) (c := bc)
  rw [← hbve] at hb64
  have hbx := box_agg (h := g2) (vs := [bv, .int .i64 0]) (cs := [bv, .int .i64 0]) (by rw [hbve]; rfl)
  have hk3 := (Keep.refl (ex := []) hk2.wf).alloc (.cells [bv, .int .i64 0] .own)
  have hg3 := Heap.get_alloc g2 (.cells [bv, .int .i64 0] .own)
  have hn3 := Heap.next_alloc g2 (.cells [bv, .int .i64 0] .own)
  generalize g2.alloc (.cells [bv, .int .i64 0] .own) = g3 at hbx hk3 hg3 hn3
  obtain ⟨X, hX⟩ : ∃ X, X = g2.next := ⟨_, rfl⟩
  rw [← hX] at hbx hg3 hn3
  have C : RK h X Y E bv := ⟨by omega, by omega, by omega, by omega, by omega, by omega, hbvl⟩
  have S3 : RR h X Y E bv b g3 0 [.int .u16 0, .int .i64 0, .bool false, .slice none 0 (.exact 0), .int .u16 0, .int .u16 0, .int .i64 0, .bool false, .slice none 0 (.exact 0)] :=
    ⟨⟨hg3, hs2.keep hk3 (by simp), fun hh => by have := hbvl X hh; omega, by omega⟩, hk3.get _ _ (hk2.get _ _ hg1 (by simp)) (by simp), hk3.get _ _ hg2 (by simp), (hk1.trans hk2).trans hk3⟩
  obtain ⟨g4, t4, r4, k4⟩ := head_ok O S3.keep.wf (cs := [1, (c : Int), 0, 0]) rfl hq.id HF.u (by intro x hx; simp at hx; rcases hx with rfl | rfl | rfl | rfl <;> exact ⟨by omega, by omega⟩) S3.rd hwire
  have hca4 : callA (callT ov Try.prog) Try.prog g3 29 [.ptr (some ⟨X, 0⟩)] = _ := t4
  have S4 := S3.moved C r4 k4
  obtain ⟨g5, g6, hv6⟩ := var_of (h := g4) (t := 65) (n := 4) (ds := ints [1, (c : Int), 0, 0]) k4.wf al65 s65 rfl rfl rfl
  have hva6 := hv6.al
  have hvs6 := hv6.st
  have hZ6 := hv6.get
  have S6 := S4.more hv6.keep
  have hle4 : X < g4.next ∧ Y < g4.next := ⟨k4.wf _ _ S4.rd.get, k4.wf _ _ S4.y⟩
  generalize hZe : g4.next = Z at hva6 hvs6 hZ6 hle4
  have zc : ∀ {g : Heap}, g.get Z = some (.cells (ints [1, (c : Int), 0, 0]) .own) → loadA Try.prog g 3 ⟨Z, 0⟩ = some (.int .i64 1) ∧ loadA Try.prog g 3 ⟨Z, 1⟩ = some (.int .i64 c) ∧ loadA Try.prog g 3 ⟨Z, 2⟩ = some (.int .i64 0) ∧ loadA Try.prog g 3 ⟨Z, 3⟩ = some (.int .i64 0) := fun hz =>
    ⟨load_cell a3 hz rfl, load_cell a3 hz rfl, load_cell a3 hz rfl, load_cell a3 hz rfl⟩
  have iz : indexAddrA Try.prog 65 (.ptr (some ⟨Z, 0⟩)) (.int .i64 0) = some (.ptr (some ⟨Z, 0⟩)) ∧ indexAddrA Try.prog 65 (.ptr (some ⟨Z, 0⟩)) (.int .i64 1) = some (.ptr (some ⟨Z, 1⟩)) ∧ indexAddrA Try.prog 65 (.ptr (some ⟨Z, 0⟩)) (.int .i64 2) = some (.ptr (some ⟨Z, 2⟩)) ∧ indexAddrA Try.prog 65 (.ptr (some ⟨Z, 0⟩)) (.int .i64 3) = some (.ptr (some ⟨Z, 3⟩)) := by
    refine ⟨?_, ?_, ?_, ?_⟩ <;> kernel_rfl
  obtain ⟨z0, z1, z2, z3⟩ := zc hZ6
  have hfl : ∀ h x, callA (callT ov Try.prog) Try.prog h 30 [.bool false, x] = _ := fun h x => fail_ok O h x
  have sF : Small F := ⟨HF.u.1, by have := HF.u.2; omega⟩
  have bA : ∀ (k : Int) (xo yo : Operand) (h : Heap), 0 ≤ k → k < 65536 → binA Try.prog h .and 3 xo yo (.int .i64 F) (.int .i64 k) = some (.int .i64 (andI F k)) := fun k _ _ _ h1 h2 => bin_and sF ⟨h1, by omega⟩
  have c1 : (andI F 32768 == 0) = false := by simpa using HF.qr
  have c2 : (andI F 1024 == 0) = false := by simpa using HF.aa
  obtain ⟨lv, g7, t7, sl7, id7, r7, k7, hd7⟩ := query_ok O S6.keep.wf sF hq.ty hq.cl hq.labels S6.rd hd12
  have hca7 : callA (callT ov Try.prog) Try.prog g6 31 [.ptr (some ⟨X, 0⟩), .int .i64 F] = _ := t7
  have S7 := S6.moved C r7 k7
  obtain ⟨ll, lc, hlve⟩ := sl7.slice
  rw [HF.op, HF.rd] at hca7
  obtain ⟨g8, st8, y8, k8⟩ := store_query S7.keep.wf S7.y (y0 := .int .u16 0) (y1 := .int .i64 r.q.op) (y2 := .bool r.q.wish) (y3 := lv) (y4 := .int .u16 r.q.ty) (y5 := .int .u16 r.q.cl) (by rw [hlve]; rfl)
  have S8 := S7.upd C y8 k8
  obtain ⟨g9, st9, S9, k9⟩ := S8.set C (t := 23) s23 (v := .int .u16 r.q.id) rfl rfl (o := 0) (by simp)
  simp only [List.set_cons_zero] at S9
  obtain ⟨g10, st10, S10, k10⟩ := S9.set C (t := 3) s3 (v := .int .i64 r.rcode) rfl rfl (o := 6) (by simp)
  simp only [List.set_cons_succ, List.set_cons_zero] at S10
  obtain ⟨g11, st11, S11, k11⟩ := S10.set C (t := 4) s4 (v := .bool cut) rfl rfl (o := 7) (by simp)
  simp only [List.set_cons_succ, List.set_cons_zero] at S11
  have hZX : Z ∉ [X] := by simp; omega
  have hZY : Z ∉ [Y] := by simp; omega
  have hZ11 := k11.get _ _ (k10.get _ _ (k9.get _ _ (k8.get _ _ (k7.get _ _ hZ6 hZX) hZY) hZY) hZY) hZY
  obtain ⟨_, zz1, _, _⟩ := zc hZ11
  have G11 : Got h X Y g11 lv (.slice none 0 (.exact 0)) r.q.labels [] := by
    have hXY : ∀ j, idOf lv = some j → X < j ∧ j ≠ Y ∧ h.next ≤ j := fun j hj => by
      have h5 := (id7 j hj).1
      have h6 := hv6.keep.le
      have h7 := C.x
      exact ⟨by omega, by omega, by omega⟩
    have hnY : ∀ j, idOf lv = some j → j ∉ [Y] := fun j hj hm => (hXY j hj).2.1 (List.mem_singleton.1 hm)
    refine ⟨⟨by simp, .inl ⟨rfl, none, rfl, by simp⟩⟩, by simp, ⟨(((sl7.keep k8 hnY).keep k9 hnY).keep k10 hnY).keep k11 hnY, fun j hj => ⟨(hXY j hj).2.2, (hXY j hj).1, (hXY j hj).2.1, ?_, by simp [idOf]⟩⟩, by simp [idOf]⟩
    have := (id7 j hj).2
    have := k8.le; have := k9.le; have := k10.le; have := k11.le
    omega
  have e64 : extractA (.tuple [.int .i64 r.q.id, .int .i64 F, .agg (ints [1, (c : Int), 0, 0])]) 0 = some (.int .i64 r.q.id) ∧ extractA (.tuple [.int .i64 r.q.id, .int .i64 F, .agg (ints [1, (c : Int), 0, 0])]) 1 = some (.int .i64 F) ∧ extractA (.tuple [.int .i64 r.q.id, .int .i64 F, .agg (ints [1, (c : Int), 0, 0])]) 2 = some (.agg (ints [1, (c : Int), 0, 0])) := ⟨rfl, rfl, rfl⟩
  repeat apply WP.seq
  apply WP.region; simp [hl, h0, hb64, hbx]
  repeat apply WP.seq
  apply WP.region; simp [hl, hca4, e64, hva6, storeR_ptr hvs6]
  repeat apply WP.seq
  refine WP.mono (K := fun o e g => o = .normal ∧ g = g6 ∧ e.length = 85 ∧ nth e 0 = bv ∧ nth e 2 = .ptr (some ⟨Y, 0⟩) ∧ nth e 3 = .ptr (some ⟨E, 0⟩) ∧ nth e 4 = .ptr (some ⟨X, 0⟩) ∧ nth e 5 = .int .i64 r.q.id ∧ nth e 6 = .int .i64 F ∧ nth e 7 = .ptr (some ⟨Z, 0⟩)) ?_ ?_
  · apply WP.region
    simp [hl, h0, h2, h3, bA, c1, c2, HF.z, z0, z2, z3, iz, guardA, hfl]
  clear hl h0 h2 h3
  rintro o e g ⟨rfl, rfl, hl, h0, h2, h3, h4, h5, h6, h7⟩
  simp
  repeat apply WP.seq
  apply WP.region; simp [hl, h2, h4, h6, hca7, fa29, storeR_ptr st8]
  repeat apply WP.seq
  apply WP.region; simp [hl, h2, h5, conv3_23 hq.id, fa29, fa26, storeR_ptr st9]
  repeat apply WP.seq
  apply WP.region; simp [hl, h2, h6, bA, HF.rc, fa29, storeR_ptr st10]
  repeat apply WP.seq
  apply WP.region; simp [hl, h2, h6, bA, HF.tc, fa29, storeR_ptr st11]
  repeat apply WP.seq
  apply WP.region; simp [hl, h7, iz, zz1]
  repeat apply WP.seq
  refine WP.mono (K := fun o e g => o = .normal ∧ e.length = 85 ∧ nth e 0 = bv ∧ nth e 2 = .ptr (some ⟨Y, 0⟩) ∧ nth e 3 = .ptr (some ⟨E, 0⟩) ∧ nth e 4 = .ptr (some ⟨X, 0⟩) ∧ ∃ rv ps, RR h X Y E bv b g b.length [.int .u16 r.q.id, .int .i64 r.q.op, .bool r.q.wish, lv, .int .u16 r.q.ty, .int .u16 r.q.cl, .int .i64 r.rcode, .bool cut, rv] ∧ Got h X Y g lv rv r.q.labels ps ∧ ps.map Prod.fst = xs.map Rec.norm) ?_ ?_
  · apply WP.block
    refine WP.loop (fun m e g => e.length = 85 ∧ nth e 0 = bv ∧ nth e 2 = .ptr (some ⟨Y, 0⟩) ∧ nth e 3 = .ptr (some ⟨E, 0⟩) ∧ nth e 4 = .ptr (some ⟨X, 0⟩) ∧ nth e 62 = .int .i64 c ∧ ∃ i p rv ps, i ≤ c ∧ m = c - i ∧ nth e 63 = .int .i64 (i : Nat) ∧ RR h X Y E bv b g p [.int .u16 r.q.id, .int .i64 r.q.op, .bool r.q.wish, lv, .int .u16 r.q.ty, .int .u16 r.q.cl, .int .i64 r.rcode, .bool cut, rv] ∧
      Got h X Y g lv rv r.q.labels ps ∧ ps.map Prod.fst = (xs.take i).map Rec.norm ∧ b.drop p = flatB (xs.drop i) ∧ 12 < p ∧ p + (flatB (xs.drop i)).length = b.length) ?_ c _ _ ?_
    · rintro m e g ⟨hl, h0, h2, h3, h4, h62, i, p, rv, ps, hi, rfl, h63, S, G, hps, hd, hp12, hpl⟩
      repeat apply WP.seq
      apply WP.region; simp [hl, h62, h63]
      repeat apply WP.seq
      apply WP.cond (by simp [hl]; rfl)
      · intro hlt
        have hlt : i < c := by simpa using hlt
        apply WP.skip; simp
        repeat apply WP.seq
        apply WP.block
        obtain ⟨x, hx⟩ : ∃ x, xs[i]? = some x := ⟨xs[i]'(by omega), by simp [hxl, hlt]⟩
        have hxok := hxs x (List.mem_of_getElem? hx)
        have hdx : xs.drop i = x :: xs.drop (i + 1) := drop_cons hx
        rw [hdx, flatB_cons] at hd hpl
        obtain ⟨tv, g12, t12, sl12, id12, r12, k12⟩ := rrecord_ok O S.keep.wf hxok G.lab.1 (fun j hj hh => by have := (G.lab.2 j hj).2.1; omega) hna hp12 S.rd hd
        have hca12 : callA (callT ov Try.prog) Try.prog g 32 [.ptr (some ⟨X, 0⟩), lv] = _ := t12
        have S12 := S.moved C r12 k12
        have G12 := G.keep k12 (by simp)
        obtain ⟨tl, tc, htve⟩ := sl12.slice
        have hcl12 : x.norm.cells tv = [.int .u16 x.norm.ty, .int .u32 x.norm.ttl, byteA x.norm.a0, byteA x.norm.a1, byteA x.norm.a2, byteA x.norm.a3, .int .u16 x.norm.port, tv] := rfl
        have hbl := b27_1 (h := g12) (a := x.norm.ty) (b := x.norm.ttl) (x0 := x.norm.a0) (x1 := x.norm.a1) (x2 := x.norm.a2) (x3 := x.norm.a3) (p := x.norm.port) (l := tl) (n := (strs x.norm.target).length) (c := tc)
        rw [← htve, ← hcl12] at hbl
        have k13 := (Keep.refl (ex := []) k12.wf).alloc (.cells (x.norm.cells tv) .own)
        have hg13 := Heap.get_alloc g12 (.cells (x.norm.cells tv) .own)
        generalize g12.alloc (.cells (x.norm.cells tv) .own) = g13 at hbl k13 hg13
        have S13 := S12.more k13
        have G13 := G12.keep k13 (by simp)
        have htvo : cellOk tv = true := by rw [htve]; rfl
        have hpsl : ps.length = i := by have h9 : (ps.map Prod.fst).length = i := (by rw [hps]; simp; omega); simpa using h9
        obtain ⟨rv', g14, hap, hrows, k14, hnew⟩ := G13.rows.app (ex := idsOf rv) k13.wf (fun j hj => mem_ids hj) S13.keep.le (P := Try.prog) u27 s42 (by omega) (news := [x.norm.cells tv]) (by simp [Rec.cells]) (room42 (by simp; omega)) ((one_row hg13 rfl).src (P := Try.prog) u27 (by simpa using recOk htvo)) (by simpa using recOk htvo) (by simp)
        have hX13 := k13.wf _ _ S13.rd.get
        have hY13 := k13.wf _ _ S13.y
        have hrvn : ∀ j ∈ idsOf rv, h.next ≤ j ∧ j ≠ X ∧ j ≠ Y ∧ j ≠ E := fun j hj => by
          have h8 := G.rows.id (ids_mem hj)
          have h9 := G.rv j (ids_mem hj)
          exact ⟨h8, by omega, by omega, by omega⟩
        have S14 := S13.lose C k14 hrvn
        have G14 := G13.push (x := x.norm) k14 hrows hnew hX13 hY13 (sl12.keep k13 (by simp)) (fun j hj => by
          have h8 := id12 j hj
          have h9 := S.keep.le
          have h10 := k13.le
          have hXg := S.keep.wf _ _ S.rd.get
          have hYg := S.keep.wf _ _ S.y
          refine ⟨by omega, by omega, by omega, by omega, fun hm => ?_⟩
          have h11 := G.rv j (ids_mem hm)
          omega)
        obtain ⟨rl, rc', hrve⟩ := hrows.slr.slice
        obtain ⟨g15, st15, S15, k15⟩ := S14.set C (t := 27) s27 (v := rv') (by rw [hrve]; rfl) (by rw [hrve]; rfl) (o := 8) (by simp)
        simp only [List.set_cons_succ, List.set_cons_zero] at S15
        have G15 := G14.keep k15 (by simp)
        have q0 : loadA Try.prog g 27 ⟨Y, 8⟩ = some rv := load_cell a27 S.y rfl
        have q12 : loadA Try.prog g12 27 ⟨Y, 8⟩ = some rv := load_cell a27 S12.y rfl
        have q13 : loadA Try.prog g13 27 ⟨Y, 8⟩ = some rv := load_cell a27 S13.y rfl
        have q14 : loadA Try.prog g14 27 ⟨Y, 8⟩ = some rv := load_cell a27 S14.y rfl
        have l0 : loadA Try.prog g 24 ⟨Y, 3⟩ = some lv := load_cell a24 S.y rfl
        have l12 : loadA Try.prog g12 24 ⟨Y, 3⟩ = some lv := load_cell a24 S12.y rfl
        refine WP.mono (K := fun o e g => o = .normal ∧ g = g15 ∧ e.length = 85 ∧ nth e 0 = bv ∧ nth e 2 = .ptr (some ⟨Y, 0⟩) ∧ nth e 3 = .ptr (some ⟨E, 0⟩) ∧ nth e 4 = .ptr (some ⟨X, 0⟩) ∧ nth e 62 = .int .i64 c ∧ nth e 63 = .int .i64 (i : Nat)) ?_ ?_
        · refine WP.drawDyn (by kernel_rfl) (dynOk_tw (pl := [(1, 6), (1, 7), (1, 8), (5, 6)]) (by kernel_rfl) ?_) ?_
          · simp [hl, h2, h4, fa29, fa26, q0, q12, q13, q14, l0, l12, hca12, hbl, hap, storeR_ptr st15, loadSame]
          · simp [hl, h0, h2, h3, h4, h62, h63, fa29, fa26, q0, l0, hca12, hbl, hap, storeR_ptr st15]
        clear hl h0 h2 h3 h4 h62 h63
        rintro o e g ⟨rfl, rfl, hl, h0, h2, h3, h4, h62, h63⟩
        simp
        apply WP.region; simp [hl, h63, int_wrap (show i < 9223372036854775807 by omega)]
        refine ⟨c - (i + 1), by omega, by simp [h0], by simp [h2], by simp [h3], by simp [h4], by simp [h62], i + 1, ?_⟩
        refine ⟨by omega, rfl, by simp, p + x.bytes.length, rv', by simpa using S15, ps ++ [(x.norm, tv)], by simpa using G15, ?_, ?_, by omega, ?_⟩
        · rw [take_snoc (x := x.norm) (by simp [hx])]; simp [hps]
        · exact (drop_part hd).2.2
        · simp only [List.length_append] at hpl; omega
      · intro hge
        have hge : ¬ i < c := by simpa using hge
        have hic : i = c := by omega
        subst hic
        apply WP.exit; simp
        have hdn : xs.drop i = [] := List.drop_eq_nil_of_le (by omega)
        rw [hdn] at hpl
        have hpb : p = b.length := by simpa [flatB] using hpl
        subst hpb
        rw [List.take_of_length_le (by omega)] at hps
        exact ⟨by simp [hl], by simp [h0], by simp [h2], by simp [h3], by simp [h4], rv, S, ps, G, hps⟩
    · exact ⟨by simp [hl], by simp [hl, h0], by simp [hl, h2], by simp [hl, h3], by simp [hl, h4], by simp [hl], 0, 12 + nameLen r.q.labels + 4, .slice none 0 (.exact 0), [], by omega, by omega, by simp [hl], S11, G11, by simp, by simpa using hd7, by omega, by simp; omega⟩
  rintro o e g ⟨rfl, hl, h0, h2, h3, h4, rv, ps, S, G, hps⟩
  simp
  obtain ⟨rl, rcc, hrve⟩ := G.rows.slr.slice
  have m1 : loadA Try.prog g 3 ⟨X, 1⟩ = some (.int .i64 (b.length : Nat)) := load_cell a3 S.rd.get rfl
  have hlen : ∀ h, lenA Try.prog h 30 bv = some (.int .i64 (b.length : Nat)) := fun h => by
    obtain ⟨l, c, hv⟩ := hs.slice
    rw [hv]; simp [lenA, u30, bytesA_length]
  have lw := load_whole (P := Try.prog) (h := g) a29 s29 S.y rfl
  obtain ⟨g20, st20, y20, k20⟩ := whole_set S.keep.wf S.y (t := 29) s29 rfl (ds := [.int .u16 r.q.id, .int .i64 r.q.op, .bool r.q.wish, lv, .int .u16 r.q.ty, .int .u16 r.q.cl, .int .i64 r.rcode, .bool cut, rv]) rfl (by rw [hlve, hrve]; rfl)
  have S20 := S.upd C y20 k20
  have G20 := G.keep k20 (by simp)
  obtain ⟨g21, st21, e21, k21⟩ := field_set S20.keep.wf S20.e (t := 31) s31 (v := .int .i64 0) rfl rfl (o := 0) (by simp)
  have hEle : h.next ≤ E := C.e
  have hY21 := k21.get _ _ y20 (by simp; exact C.ye)
  have lw21 := load_whole (P := Try.prog) (h := g21) a29 s29 hY21 rfl
  have le21 : loadA Try.prog g21 31 ⟨E, 0⟩ = some (.int .i64 0) := load_cell a31 e21 rfl
  have hK21 : Keep [] h g21 := S20.keep.into k21 (fun i hi => .inr (by have := List.mem_singleton.1 hi; omega))
  repeat apply WP.seq
  apply WP.region; simp [hl, h0, h4, fa64, m1, hlen, hfl]
  repeat apply WP.seq
  apply WP.region; simp [hl, h2, h3, lw, storeR_ptr st20, storeR_ptr st21]
  apply WP.ret
  have hEX : E < X := by omega
  refine ⟨.inr rfl, g21, fun n => caught_ok _ n _ E, [.agg [.int .u16 r.q.id, .int .i64 r.q.op, .bool r.q.wish, lv, .int .u16 r.q.ty, .int .u16 r.q.cl, .int .i64 r.rcode, .bool cut, rv], .int .i64 0], ?_, g21, lv, rv, ⟨rfl, rfl⟩, hK21, ?_, ps, ⟨?_, ?_⟩, hps, fun j hj => (G20.lab.2 j hj).1, fun j hj => G20.rows.id hj, fun a b hp j hj => ((G20.tgt (a, b) hp).2 j hj).1⟩
  · simp [resultsA, resultA, hl, h2, h3, lw21, le21]
  · exact G20.lab.1.keep k21 (fun j hj hm => by have := (G20.lab.2 j hj).2.1; have := List.mem_singleton.1 hm; omega)
  · exact G20.rows.slr.keep' k21 (fun _ j hj hm => by have := (G20.rv j hj).2.2.1; have := List.mem_singleton.1 hm; omega)
  · exact fun p hp => (G20.tgt p hp).1.keep k21 (fun j hj hm => by have := ((G20.tgt p hp).2 j hj).2.1; have := List.mem_singleton.1 hm; omega)
end
end Go.Am
